import Derived.Test.YtjbnoamoadaknaaYSigBack26
/- The statements of layer 22: SigBack. -/
section
namespace Go.Proofs.Ytjbnoamoadaknaa
open Go.RowKit

theorem slice_upto (A : Option Addr) (n c j : Nat) (hj : j ≤ c) (W : World) :
    (Instr.sliceAt 22 (.slice A n c) none (some (.int .i64 (j : Int))) none).run Try.prog W = .ok (.slice A j c) W := by
  rw [run_sliceAt_slice W 22 _ _ _ _ (by kernel_rfl), run_slice_h W 22 A n c (by kernel_rfl) .i64 j (by omega) (by omega)]
  have hz : ∀ w, (sizeOf (Try.prog.elem 22)).run Try.prog w = .ok 1 w := fun w => by kernel_rfl
  rw [hz]
  cases A <;> simp [Result.andThen, sliced, Addr.add]
theorem emitG_len {s : SigV} (hL : SigL s) : (emitG s).1.length ≤ 200000 := by
  by_cases h : (areasG s).2.2 = 0
  · obtain ⟨hm, hx, hy⟩ := areasG_parts h
    obtain ⟨hm1, hm2, hm3⟩ := may_parts hm
    have l1 := emitF_len s.hs
    have l2 := emitF_len s.us
    rw [hx] at l1
    rw [hy] at l2
    simp only at l1 l2
    have hw := wid_cases s.ve
    have hsl : (saltB s.ve s.salt).length ≤ s.salt.length + 1 := by unfold saltB; split <;> simp
    have hvl : (valB s.pu s.value).length ≤ s.value.length + 2 := by
      unfold valB
      split
      · omega
      · rename_i hn
        rw [valOk, if_neg hn] at hm3
        simp only [Bool.and_eq_true, decide_eq_true_eq] at hm3
        rw [List.length_append, hm3.1, be_length]
        omega
    have l8 := hL.l8
    have l9 := hL.l9
    rw [emitG_mid h]
    simp only [midB, areaB, headB, List.length_append, be_length, List.length_cons, List.length_nil]
    omega
  · rw [emitG, if_pos h]
    simp

set_option maxRecDepth 100000 in
set_option maxHeartbeats 6400000 in
theorem SigBack_walk {s : SigV} {a : SigA} {w : World} (h : SigR w s a) (hb : SigB s a 140737488355328) :
    Calls Try.prog 5 #[.agg (sigC s a)] w fun e w' => e = .returned (.bool true) ∧ Below w.heap.size w w' := by
  have HAl := Lib.hid (fun W => alive22_calls W)
  have HSm := Lib.hid (fun W (hW : Below w.heap.size w W) => Small_calls (h.below hW) hb)
  have HEm := Lib.hid (fun W (hW : Below w.heap.size w W) (hL : SigL s) => EmitG_calls (h.below hW) hL)
  have HHa := Lib.hid (fun W (hW : Below w.heap.size w W) (hL : SigL s) => Hashed_calls (h.below hW) hL)
  have HR := Lib.hid h
  have HN := Lib.hid (show a.n4 ≤ 9223372036854775807 ∧ a.n5 ≤ 9223372036854775807 from ⟨hb.n4, hb.n5⟩)
  have HBk := Lib.hid (fun (hL : SigL s) => sigBack hL)
  have HEr := Lib.hid (sigErr (s := s))
  have HLe := Lib.hid (fun (hL : SigL s) => emitG_len hL)
  unfold HashedPost at HEm HHa
  generalize emitG s = X at HEm HBk HEr HLe
  generalize hashedG s = Y at HHa HBk HEr
  obtain ⟨em, er⟩ := X
  obtain ⟨hm, hr⟩ := Y
  simp only at HEm HHa HBk HEr HLe
  clear h hb
  go_enter Try.func5, Try.ntmps5
  go_upto_region 1 with fail
  go_name_world w1 hw1
  have H1 : Box w w1 27 (sigC s a) := Box.mk_ hw1
  clear hw1
  have B1 := Lib.hid H1
  clear H1
  have k0 : w1.cell? ⟨w.heap.size, 0, none⟩ = some (.int .i64 s.ve) := B1.out.cell 0
  have k1 : w1.cell? ⟨w.heap.size, 1, none⟩ = some (.int .i64 s.ty) := B1.out.cell 1
  have k2 : w1.cell? ⟨w.heap.size, 2, none⟩ = some (.int .i64 s.pu) := B1.out.cell 2
  have k3 : w1.cell? ⟨w.heap.size, 3, none⟩ = some (.int .i64 s.ha) := B1.out.cell 3
  have k4 : w1.cell? ⟨w.heap.size, 4, none⟩ = some (.slice a.A4 a.n4 a.c4) := B1.out.cell 4
  have k5 : w1.cell? ⟨w.heap.size, 5, none⟩ = some (.slice a.A5 a.n5 a.c5) := B1.out.cell 5
  have k6 : w1.cell? ⟨w.heap.size, 6, none⟩ = some (.int .u8 (s.l0.toNat : Int)) := B1.out.cell 6
  have k7 : w1.cell? ⟨w.heap.size, 7, none⟩ = some (.int .u8 (s.l1.toNat : Int)) := B1.out.cell 7
  have k8 : w1.cell? ⟨w.heap.size, 8, none⟩ = some (.slice a.A8 a.n8 a.c8) := B1.out.cell 8
  have k9 : w1.cell? ⟨w.heap.size, 9, none⟩ = some (.slice a.A9 a.n9 a.c9) := B1.out.cell 9
  go_wp2_with fail
  refine (HSm.out w1 B1.out.B).mono ?_
  rintro e w2 ⟨⟨r, rfl, hr⟩, hb2⟩
  have B2 := Lib.hid (B1.out.below hb2)
  have HL := Lib.hid (fun h => sigL_of_small (hr h))
  clear hr hb2 k0 k1 k2 k3 k4 k5 k6 k7 k8 k9 B1
  have k0 : w2.cell? ⟨w.heap.size, 0, none⟩ = some (.int .i64 s.ve) := B2.out.cell 0
  have k1 : w2.cell? ⟨w.heap.size, 1, none⟩ = some (.int .i64 s.ty) := B2.out.cell 1
  have k2 : w2.cell? ⟨w.heap.size, 2, none⟩ = some (.int .i64 s.pu) := B2.out.cell 2
  have k3 : w2.cell? ⟨w.heap.size, 3, none⟩ = some (.int .i64 s.ha) := B2.out.cell 3
  have k4 : w2.cell? ⟨w.heap.size, 4, none⟩ = some (.slice a.A4 a.n4 a.c4) := B2.out.cell 4
  have k5 : w2.cell? ⟨w.heap.size, 5, none⟩ = some (.slice a.A5 a.n5 a.c5) := B2.out.cell 5
  have k6 : w2.cell? ⟨w.heap.size, 6, none⟩ = some (.int .u8 (s.l0.toNat : Int)) := B2.out.cell 6
  have k7 : w2.cell? ⟨w.heap.size, 7, none⟩ = some (.int .u8 (s.l1.toNat : Int)) := B2.out.cell 7
  have k8 : w2.cell? ⟨w.heap.size, 8, none⟩ = some (.slice a.A8 a.n8 a.c8) := B2.out.cell 8
  have k9 : w2.cell? ⟨w.heap.size, 9, none⟩ = some (.slice a.A9 a.n9 a.c9) := B2.out.cell 9
  by_cases hr : r = true
  rotate_left
  · obtain rfl : r = false := by simpa using hr
    clear hr
    go_wp2_with (go_at_call 7; refine (HAl.out _).mono ?_; rintro e w20 ⟨rfl, hb20⟩)
    go_ret
    exact ⟨rfl, below_then B2.out.B B2.out.B.size hb20⟩
  subst hr
  have HL2 := Lib.hid (HL.out rfl)
  clear HL
  go_wp2_with fail
  refine (HEm.out w2 B2.out.B HL2.out).mono ?_
  rintro e w3 ⟨A3, m3, c3, q3, rfl, ho3, hq3, hb3⟩
  obtain rfl : q3 = er := hq3
  have B3 := Lib.hid (B2.out.below hb3)
  have O3 := Lib.hid ho3.bs
  clear hb3 ho3 k0 k1 k2 k3 k4 k5 k6 k7 k8 k9 B2
  have k0 : w3.cell? ⟨w.heap.size, 0, none⟩ = some (.int .i64 s.ve) := B3.out.cell 0
  have k1 : w3.cell? ⟨w.heap.size, 1, none⟩ = some (.int .i64 s.ty) := B3.out.cell 1
  have k2 : w3.cell? ⟨w.heap.size, 2, none⟩ = some (.int .i64 s.pu) := B3.out.cell 2
  have k3 : w3.cell? ⟨w.heap.size, 3, none⟩ = some (.int .i64 s.ha) := B3.out.cell 3
  have k4 : w3.cell? ⟨w.heap.size, 4, none⟩ = some (.slice a.A4 a.n4 a.c4) := B3.out.cell 4
  have k5 : w3.cell? ⟨w.heap.size, 5, none⟩ = some (.slice a.A5 a.n5 a.c5) := B3.out.cell 5
  have k6 : w3.cell? ⟨w.heap.size, 6, none⟩ = some (.int .u8 (s.l0.toNat : Int)) := B3.out.cell 6
  have k7 : w3.cell? ⟨w.heap.size, 7, none⟩ = some (.int .u8 (s.l1.toNat : Int)) := B3.out.cell 7
  have k8 : w3.cell? ⟨w.heap.size, 8, none⟩ = some (.slice a.A8 a.n8 a.c8) := B3.out.cell 8
  have k9 : w3.cell? ⟨w.heap.size, 9, none⟩ = some (.slice a.A9 a.n9 a.c9) := B3.out.cell 9
  go_wp2_with fail
  refine (HHa.out w3 B3.out.B HL2.out).mono ?_
  rintro e w4 ⟨A4, m4, c4, q4, rfl, ho4, hq4, hb4⟩
  rename_i hr0
  obtain rfl : q4 = _ := hq4
  have B4 := Lib.hid (B3.out.below hb4)
  have O3 := Lib.hid (O3.out.below hb4)
  have O4 := Lib.hid ho4.bs
  clear hb4 ho4 k0 k1 k2 k3 k4 k5 k6 k7 k8 k9 B3 HEm HHa HSm
  by_cases he : q3 = 0
  rotate_left
  · obtain ⟨e1, e2⟩ := HEr.out he
    obtain rfl : q4 = q3 := e2
    have hm3 : m3 = 0 := by rw [← O3.out.2, e1]; rfl
    have HE := Lib.hid he
    subst hm3
    clear e1
    go_wp2_with (go_at_call 7; refine (HAl.out _).mono ?_; rintro e w5 ⟨rfl, hb5⟩)
    go_ret
    exact ⟨rfl, below_then B4.out.B B4.out.B.size hb5⟩
  subst he
  have HK := Lib.hid (HBk.out HL2.out rfl)
  obtain rfl : q4 = 0 := HK.out.2.2.1
  have HM := Lib.hid (show m3 ≤ 200000 by rw [← O3.out.2]; exact HLe.out HL2.out)
  have HP5 := Lib.hid (SParse_calls O3.out (by have := HM.out; omega))
  rw [HK.out.1] at HP5
  unfold SParsePost at HP5
  clear HBk HEr HLe
  go_wp2_with fail
  refine HP5.out.mono ?_
  rintro e w5 ⟨a5, q5, rfl, hR5, hq5, hb5⟩
  obtain rfl : q5 = 0 := hq5
  have B5 := Lib.hid (B4.out.below hb5)
  have O3 := Lib.hid (O3.out.below hb5)
  have O4 := Lib.hid (O4.out.below hb5)
  clear hb5 B4 HP5
  have hba := (Below.refl w5.heap.size w5).alloc (Nat.le_refl _) (.cells #[.int .i64 0, .int .i64 0, .int .i64 0, .int .i64 0, .slice none 0 0, .slice none 0 0, .int .u8 0, .int .u8 0, .slice none 0 0, .slice none 0 0] 27)
  have hnw := heap_alloc_new w5 (.cells #[.int .i64 0, .int .i64 0, .int .i64 0, .int .i64 0, .slice none 0 0, .slice none 0 0, .int .u8 0, .int .u8 0, .slice none 0 0, .slice none 0 0] 27)
  generalize hv : w5.alloc (.cells #[.int .i64 0, .int .i64 0, .int .i64 0, .int .i64 0, .slice none 0 0, .slice none 0 0, .int .u8 0, .int .u8 0, .slice none 0 0, .slice none 0 0] 27) = v6 at hba hnw
  have f0 := blk_frozen hnw 0
  have r0 : v6.cell? ⟨w5.heap.size, 0, none⟩ = some (.int .i64 0) := blk_cell hnw 0
  have f1 := blk_frozen hnw 1
  have r1 : v6.cell? ⟨w5.heap.size, 1, none⟩ = some (.int .i64 0) := blk_cell hnw 1
  have f2 := blk_frozen hnw 2
  have r2 : v6.cell? ⟨w5.heap.size, 2, none⟩ = some (.int .i64 0) := blk_cell hnw 2
  have f3 := blk_frozen hnw 3
  have r3 : v6.cell? ⟨w5.heap.size, 3, none⟩ = some (.int .i64 0) := blk_cell hnw 3
  have f4 := blk_frozen hnw 4
  have r4 : v6.cell? ⟨w5.heap.size, 4, none⟩ = some (.slice none 0 0) := blk_cell hnw 4
  have f5 := blk_frozen hnw 5
  have r5 : v6.cell? ⟨w5.heap.size, 5, none⟩ = some (.slice none 0 0) := blk_cell hnw 5
  have f6 := blk_frozen hnw 6
  have r6 : v6.cell? ⟨w5.heap.size, 6, none⟩ = some (.int .u8 0) := blk_cell hnw 6
  have f7 := blk_frozen hnw 7
  have r7 : v6.cell? ⟨w5.heap.size, 7, none⟩ = some (.int .u8 0) := blk_cell hnw 7
  have f8 := blk_frozen hnw 8
  have r8 : v6.cell? ⟨w5.heap.size, 8, none⟩ = some (.slice none 0 0) := blk_cell hnw 8
  have f9 := blk_frozen hnw 9
  have r9 : v6.cell? ⟨w5.heap.size, 9, none⟩ = some (.slice none 0 0) := blk_cell hnw 9
  have hS0 := setRow_block (k := w5.heap.size) [.int .i64 s.ve, .int .i64 s.ty, .int .i64 s.pu, .int .i64 s.ha, .slice a5.A4 a5.n4 a5.c4, .slice a5.A5 a5.n5 a5.c5, .int .u8 (s.l0.toNat : Int), .int .u8 (s.l1.toNat : Int), .slice a5.A8 a5.n8 a5.c8, .slice a5.A9 a5.n9 a5.c9] 0 hnw
  have hG0 := hba.grown (setRow_grown (k := w5.heap.size) [.int .i64 s.ve, .int .i64 s.ty, .int .i64 s.pu, .int .i64 s.ha, .slice a5.A4 a5.n4 a5.c4, .slice a5.A5 a5.n5 a5.c5, .int .u8 (s.l0.toNat : Int), .int .u8 (s.l1.toNat : Int), .slice a5.A8 a5.n8 a5.c8, .slice a5.A9 a5.n9 a5.c9] v6 0) hba.size (fun k e => by cases e; exact Nat.le_refl _)
  generalize hx : setRow w5.heap.size v6 0 [.int .i64 s.ve, .int .i64 s.ty, .int .i64 s.pu, .int .i64 s.ha, .slice a5.A4 a5.n4 a5.c4, .slice a5.A5 a5.n5 a5.c5, .int .u8 (s.l0.toNat : Int), .int .u8 (s.l1.toNat : Int), .slice a5.A8 a5.n8 a5.c8, .slice a5.A9 a5.n9 a5.c9] = w6 at hS0 hG0
  simp only [setRow, Nat.reduceAdd, Nat.zero_add] at hx
  have hw6 : w6.heap[w5.heap.size]? = some (.cells #[.int .i64 s.ve, .int .i64 s.ty, .int .i64 s.pu, .int .i64 s.ha, .slice a5.A4 a5.n4 a5.c4, .slice a5.A5 a5.n5 a5.c5, .int .u8 (s.l0.toNat : Int), .int .u8 (s.l1.toNat : Int), .slice a5.A8 a5.n8 a5.c8, .slice a5.A9 a5.n9 a5.c9] 27 (0, 0)) := by rw [setArr10] at hS0; exact hS0
  have HX := Lib.hid hx
  clear hS0 hx hba hnw
  have B6 := Lib.hid (B5.out.below hG0)
  have O3 := Lib.hid (O3.out.below hG0)
  have O4 := Lib.hid (O4.out.below hG0)
  have R6 := Lib.hid (hR5.below hG0)
  have Q6 := Lib.hid hw6
  have hob6 := O3.out
  have hszx : w6.heap.size = v6.heap.size := by rw [← HX.out]; simp
  clear hG0 hR5 hw6 B5
  have hlit := own_lit w6 #[] [] rfl 0 rfl (by omega)
  have hbe := (Below.refl w6.heap.size w6).alloc (Nat.le_refl _) (.cells #[] 5)
  have hob7 := hob6.below hbe
  rw [show (some (⟨w6.heap.size, 0, none⟩ : Addr)) = some ⟨v6.heap.size, 0, none⟩ by rw [hszx]] at hlit
  have hcov : w6.heap.size ≤ (w6.alloc (.cells #[] 5)).heap.size := hbe.size
  have hrw : ∀ i, Option.map (fun x : Addr => x.block) (some (⟨v6.heap.size, 0, none⟩ : Addr)) = some i → w6.heap.size ≤ i := fun i e => by
    have e2 : v6.heap.size = i := Option.some.inj e
    omega
  go_wp2_with (first
    | (at_builtin; rw [HX.out]; refine app8 (.tmp 44) (.tmp 45) rfl rfl rfl hlit rfl hob7 (by have := HM.out; omega) hcov ?_; intro A8 c8 w8 ho8 hg8 hat8; rw [Nat.zero_add, List.nil_append] at ho8; have hbx := hbe.grown hg8 hcov hrw; have hsz8 := Nat.le_trans hcov hg8.size)
    | (at_builtin; refine app8_one (.tmp 47) (.tmp 48) rfl rfl rfl ho8 [0] _ rfl 1 rfl rfl (by have := HM.out; omega) hsz8 ?_; intro A9 c9 w9 ho9 hg9 hat9; have hb9 := hbx.grown hg9 hsz8 (fun i e => by
        cases A8 with
        | none => cases e
        | some ad => cases e; exact (ho8.blk _ rfl).1)))
  clear HX hv hrw hlit f0 r0 f1 r1 f2 r2 f3 r3 f4 r4 f5 r5 f6 r6 f7 r7 f8 r8 f9 r9
  have B9 := Lib.hid (B6.out.below hb9)
  have O3 := Lib.hid (O3.out.below hb9)
  have O4 := Lib.hid (O4.out.below hb9)
  have R9 := Lib.hid (R6.out.below hb9)
  have Q9 := Lib.hid ((hb9.block _ (blk_lt Q6.out)).trans Q6.out)
  have hP9 := SParse_calls ho9.bs (by have := HM.out; omega)
  have hx2 := HK.out.2.1
  unfold SParsePost at hP9
  generalize walkS (em ++ [0]) = X2 at hP9 hx2
  obtain ⟨s2, e2⟩ := X2
  simp only at hP9 hx2
  have HP9 := Lib.hid hP9
  clear hb9 hbx hsz8 hg8 hg9 hob6 hob7 hbe hcov hP9 ho8 ho9 hat8 hat9 B6 R6 Q6 hszx
  refine HP9.out.mono ?_
  rintro e w10 ⟨a10, q10, rfl, _, hq10, hb10⟩
  obtain rfl : q10 = 3 := hq10.trans hx2
  have B10 := Lib.hid (B9.out.below hb10)
  have O3 := Lib.hid (O3.out.below hb10)
  have O4 := Lib.hid (O4.out.below hb10)
  have R10 := Lib.hid (R9.out.below hb10)
  have Q10 := Lib.hid ((hb10.block _ (blk_lt Q9.out)).trans Q9.out)
  clear hb10 HP9 B9 R9 Q9 hq10 hx2
  have hba := (Below.refl w10.heap.size w10).alloc (Nat.le_refl _) (.cells #[.int .i64 0, .int .i64 0, .int .i64 0, .int .i64 0, .slice none 0 0, .slice none 0 0, .int .u8 0, .int .u8 0, .slice none 0 0, .slice none 0 0] 27)
  have hnw := heap_alloc_new w10 (.cells #[.int .i64 0, .int .i64 0, .int .i64 0, .int .i64 0, .slice none 0 0, .slice none 0 0, .int .u8 0, .int .u8 0, .slice none 0 0, .slice none 0 0] 27)
  generalize hv : w10.alloc (.cells #[.int .i64 0, .int .i64 0, .int .i64 0, .int .i64 0, .slice none 0 0, .slice none 0 0, .int .u8 0, .int .u8 0, .slice none 0 0, .slice none 0 0] 27) = v11 at hba hnw
  have f0 := blk_frozen hnw 0
  have r0 : v11.cell? ⟨w10.heap.size, 0, none⟩ = some (.int .i64 0) := blk_cell hnw 0
  have f1 := blk_frozen hnw 1
  have r1 : v11.cell? ⟨w10.heap.size, 1, none⟩ = some (.int .i64 0) := blk_cell hnw 1
  have f2 := blk_frozen hnw 2
  have r2 : v11.cell? ⟨w10.heap.size, 2, none⟩ = some (.int .i64 0) := blk_cell hnw 2
  have f3 := blk_frozen hnw 3
  have r3 : v11.cell? ⟨w10.heap.size, 3, none⟩ = some (.int .i64 0) := blk_cell hnw 3
  have f4 := blk_frozen hnw 4
  have r4 : v11.cell? ⟨w10.heap.size, 4, none⟩ = some (.slice none 0 0) := blk_cell hnw 4
  have f5 := blk_frozen hnw 5
  have r5 : v11.cell? ⟨w10.heap.size, 5, none⟩ = some (.slice none 0 0) := blk_cell hnw 5
  have f6 := blk_frozen hnw 6
  have r6 : v11.cell? ⟨w10.heap.size, 6, none⟩ = some (.int .u8 0) := blk_cell hnw 6
  have f7 := blk_frozen hnw 7
  have r7 : v11.cell? ⟨w10.heap.size, 7, none⟩ = some (.int .u8 0) := blk_cell hnw 7
  have f8 := blk_frozen hnw 8
  have r8 : v11.cell? ⟨w10.heap.size, 8, none⟩ = some (.slice none 0 0) := blk_cell hnw 8
  have f9 := blk_frozen hnw 9
  have r9 : v11.cell? ⟨w10.heap.size, 9, none⟩ = some (.slice none 0 0) := blk_cell hnw 9
  have hS0 := setRow_block (k := w10.heap.size) [.int .i64 s2.ve, .int .i64 s2.ty, .int .i64 s2.pu, .int .i64 s2.ha, .slice a10.A4 a10.n4 a10.c4, .slice a10.A5 a10.n5 a10.c5, .int .u8 (s2.l0.toNat : Int), .int .u8 (s2.l1.toNat : Int), .slice a10.A8 a10.n8 a10.c8, .slice a10.A9 a10.n9 a10.c9] 0 hnw
  have hG0 := hba.grown (setRow_grown (k := w10.heap.size) [.int .i64 s2.ve, .int .i64 s2.ty, .int .i64 s2.pu, .int .i64 s2.ha, .slice a10.A4 a10.n4 a10.c4, .slice a10.A5 a10.n5 a10.c5, .int .u8 (s2.l0.toNat : Int), .int .u8 (s2.l1.toNat : Int), .slice a10.A8 a10.n8 a10.c8, .slice a10.A9 a10.n9 a10.c9] v11 0) hba.size (fun k e => by cases e; exact Nat.le_refl _)
  generalize hx : setRow w10.heap.size v11 0 [.int .i64 s2.ve, .int .i64 s2.ty, .int .i64 s2.pu, .int .i64 s2.ha, .slice a10.A4 a10.n4 a10.c4, .slice a10.A5 a10.n5 a10.c5, .int .u8 (s2.l0.toNat : Int), .int .u8 (s2.l1.toNat : Int), .slice a10.A8 a10.n8 a10.c8, .slice a10.A9 a10.n9 a10.c9] = w11 at hS0 hG0
  simp only [setRow, Nat.reduceAdd, Nat.zero_add] at hx
  have hw11 : w11.heap[w10.heap.size]? = some (.cells #[.int .i64 s2.ve, .int .i64 s2.ty, .int .i64 s2.pu, .int .i64 s2.ha, .slice a10.A4 a10.n4 a10.c4, .slice a10.A5 a10.n5 a10.c5, .int .u8 (s2.l0.toNat : Int), .int .u8 (s2.l1.toNat : Int), .slice a10.A8 a10.n8 a10.c8, .slice a10.A9 a10.n9 a10.c9] 27 (0, 0)) := by rw [setArr10] at hS0; exact hS0
  have HX := Lib.hid hx
  clear hS0 hx hba hnw
  have B11 := Lib.hid (B10.out.below hG0)
  have R11 := Lib.hid (R10.out.below hG0)
  have Q11 := Lib.hid ((hG0.block _ (blk_lt Q10.out)).trans Q10.out)
  have hle : m4 ≤ m3 := by
    obtain ⟨t, ht⟩ := HK.out.2.2.2
    have h1 := congrArg List.length ht
    rw [O3.out.2, List.length_append, O4.out.2] at h1
    omega
  have htk : em.take m4 = hm := by
    obtain ⟨t, ht⟩ := HK.out.2.2.2
    rw [ht, ← O4.out.2]
    simp
  have hup := (O3.out.below hG0).upto (k := m4) (by omega)
  rw [htk] at hup
  have U3 := Lib.hid hup
  have U4 := Lib.hid (O4.out.below hG0)
  have hc3 := O3.out.cap.1
  have hmi : m4 ≤ c3 := by omega
  have hsl := fun W => slice_upto A3 m3 c3 m4 hmi W
  have hdl : decide ((m4 : Int) ≤ (m3 : Int)) = true := decide_eq_true (by omega)
  have HSa := Lib.hid (fun W (hW : Below w11.heap.size w11 W) => Same22_calls (HR.out.below (below_then B11.out.B B11.out.B.size hW)) (R11.out.below hW) HN.out.1 HN.out.2)
  clear hG0 hw11 B10 R10 Q10 hup htk hc3
  go_upto_region 11 with fail
  rw [HX.out]
  clear HX hv f0 r0 f1 r1 f2 r2 f3 r3 f4 r4 f5 r5 f6 r6 f7 r7 f8 r8 f9 r9
  have hE0 := (Below.refl w11.heap.size w11).drew
  have G0 := Lib.hid (show (fun w' => (w'.cell? ⟨w.heap.size, 0, none⟩ = some (.int .i64 s.ve) ∧ w'.cell? ⟨w.heap.size, 1, none⟩ = some (.int .i64 s.ty) ∧ w'.cell? ⟨w.heap.size, 2, none⟩ = some (.int .i64 s.pu) ∧ w'.cell? ⟨w.heap.size, 3, none⟩ = some (.int .i64 s.ha) ∧ w'.cell? ⟨w.heap.size, 4, none⟩ = some (.slice a.A4 a.n4 a.c4) ∧ w'.cell? ⟨w.heap.size, 5, none⟩ = some (.slice a.A5 a.n5 a.c5) ∧ w'.cell? ⟨w.heap.size, 6, none⟩ = some (.int .u8 (s.l0.toNat : Int)) ∧ w'.cell? ⟨w.heap.size, 7, none⟩ = some (.int .u8 (s.l1.toNat : Int)) ∧ w'.cell? ⟨w.heap.size, 8, none⟩ = some (.slice a.A8 a.n8 a.c8) ∧ w'.cell? ⟨w.heap.size, 9, none⟩ = some (.slice a.A9 a.n9 a.c9)) ∧ (w'.cell? ⟨w5.heap.size, 0, none⟩ = some (.int .i64 s.ve) ∧ w'.cell? ⟨w5.heap.size, 1, none⟩ = some (.int .i64 s.ty) ∧ w'.cell? ⟨w5.heap.size, 2, none⟩ = some (.int .i64 s.pu) ∧ w'.cell? ⟨w5.heap.size, 3, none⟩ = some (.int .i64 s.ha) ∧ w'.cell? ⟨w5.heap.size, 4, none⟩ = some (.slice a5.A4 a5.n4 a5.c4) ∧ w'.cell? ⟨w5.heap.size, 5, none⟩ = some (.slice a5.A5 a5.n5 a5.c5) ∧ w'.cell? ⟨w5.heap.size, 6, none⟩ = some (.int .u8 (s.l0.toNat : Int)) ∧ w'.cell? ⟨w5.heap.size, 7, none⟩ = some (.int .u8 (s.l1.toNat : Int)) ∧ w'.cell? ⟨w5.heap.size, 8, none⟩ = some (.slice a5.A8 a5.n8 a5.c8) ∧ w'.cell? ⟨w5.heap.size, 9, none⟩ = some (.slice a5.A9 a5.n9 a5.c9))) w11.drew from ⟨⟨(B11.out.below hE0).cell 0, (B11.out.below hE0).cell 1, (B11.out.below hE0).cell 2, (B11.out.below hE0).cell 3, (B11.out.below hE0).cell 4, (B11.out.below hE0).cell 5, (B11.out.below hE0).cell 6, (B11.out.below hE0).cell 7, (B11.out.below hE0).cell 8, (B11.out.below hE0).cell 9⟩, ⟨blk_cell ((hE0.block _ (blk_lt Q11.out)).trans Q11.out) 0, blk_cell ((hE0.block _ (blk_lt Q11.out)).trans Q11.out) 1, blk_cell ((hE0.block _ (blk_lt Q11.out)).trans Q11.out) 2, blk_cell ((hE0.block _ (blk_lt Q11.out)).trans Q11.out) 3, blk_cell ((hE0.block _ (blk_lt Q11.out)).trans Q11.out) 4, blk_cell ((hE0.block _ (blk_lt Q11.out)).trans Q11.out) 5, blk_cell ((hE0.block _ (blk_lt Q11.out)).trans Q11.out) 6, blk_cell ((hE0.block _ (blk_lt Q11.out)).trans Q11.out) 7, blk_cell ((hE0.block _ (blk_lt Q11.out)).trans Q11.out) 8, blk_cell ((hE0.block _ (blk_lt Q11.out)).trans Q11.out) 9⟩⟩)
  go_region_held (fun w' => (w'.cell? ⟨w.heap.size, 0, none⟩ = some (.int .i64 s.ve) ∧ w'.cell? ⟨w.heap.size, 1, none⟩ = some (.int .i64 s.ty) ∧ w'.cell? ⟨w.heap.size, 2, none⟩ = some (.int .i64 s.pu) ∧ w'.cell? ⟨w.heap.size, 3, none⟩ = some (.int .i64 s.ha) ∧ w'.cell? ⟨w.heap.size, 4, none⟩ = some (.slice a.A4 a.n4 a.c4) ∧ w'.cell? ⟨w.heap.size, 5, none⟩ = some (.slice a.A5 a.n5 a.c5) ∧ w'.cell? ⟨w.heap.size, 6, none⟩ = some (.int .u8 (s.l0.toNat : Int)) ∧ w'.cell? ⟨w.heap.size, 7, none⟩ = some (.int .u8 (s.l1.toNat : Int)) ∧ w'.cell? ⟨w.heap.size, 8, none⟩ = some (.slice a.A8 a.n8 a.c8) ∧ w'.cell? ⟨w.heap.size, 9, none⟩ = some (.slice a.A9 a.n9 a.c9)) ∧ (w'.cell? ⟨w5.heap.size, 0, none⟩ = some (.int .i64 s.ve) ∧ w'.cell? ⟨w5.heap.size, 1, none⟩ = some (.int .i64 s.ty) ∧ w'.cell? ⟨w5.heap.size, 2, none⟩ = some (.int .i64 s.pu) ∧ w'.cell? ⟨w5.heap.size, 3, none⟩ = some (.int .i64 s.ha) ∧ w'.cell? ⟨w5.heap.size, 4, none⟩ = some (.slice a5.A4 a5.n4 a5.c4) ∧ w'.cell? ⟨w5.heap.size, 5, none⟩ = some (.slice a5.A5 a5.n5 a5.c5) ∧ w'.cell? ⟨w5.heap.size, 6, none⟩ = some (.int .u8 (s.l0.toNat : Int)) ∧ w'.cell? ⟨w5.heap.size, 7, none⟩ = some (.int .u8 (s.l1.toNat : Int)) ∧ w'.cell? ⟨w5.heap.size, 8, none⟩ = some (.slice a5.A8 a5.n8 a5.c8) ∧ w'.cell? ⟨w5.heap.size, 9, none⟩ = some (.slice a5.A9 a5.n9 a5.c9))) (first | with_reducible exact G0.out | with_reducible exact T1.out | with_reducible exact T2.out) (first
    | (go_at_call 9; refine (HSa.out e1 E1).mono ?_; rintro e e2 ⟨rfl, hb2⟩; have E2 := below_then E1 E1.size hb2; have T2 := Lib.hid (show (fun w' => (w'.cell? ⟨w.heap.size, 0, none⟩ = some (.int .i64 s.ve) ∧ w'.cell? ⟨w.heap.size, 1, none⟩ = some (.int .i64 s.ty) ∧ w'.cell? ⟨w.heap.size, 2, none⟩ = some (.int .i64 s.pu) ∧ w'.cell? ⟨w.heap.size, 3, none⟩ = some (.int .i64 s.ha) ∧ w'.cell? ⟨w.heap.size, 4, none⟩ = some (.slice a.A4 a.n4 a.c4) ∧ w'.cell? ⟨w.heap.size, 5, none⟩ = some (.slice a.A5 a.n5 a.c5) ∧ w'.cell? ⟨w.heap.size, 6, none⟩ = some (.int .u8 (s.l0.toNat : Int)) ∧ w'.cell? ⟨w.heap.size, 7, none⟩ = some (.int .u8 (s.l1.toNat : Int)) ∧ w'.cell? ⟨w.heap.size, 8, none⟩ = some (.slice a.A8 a.n8 a.c8) ∧ w'.cell? ⟨w.heap.size, 9, none⟩ = some (.slice a.A9 a.n9 a.c9)) ∧ (w'.cell? ⟨w5.heap.size, 0, none⟩ = some (.int .i64 s.ve) ∧ w'.cell? ⟨w5.heap.size, 1, none⟩ = some (.int .i64 s.ty) ∧ w'.cell? ⟨w5.heap.size, 2, none⟩ = some (.int .i64 s.pu) ∧ w'.cell? ⟨w5.heap.size, 3, none⟩ = some (.int .i64 s.ha) ∧ w'.cell? ⟨w5.heap.size, 4, none⟩ = some (.slice a5.A4 a5.n4 a5.c4) ∧ w'.cell? ⟨w5.heap.size, 5, none⟩ = some (.slice a5.A5 a5.n5 a5.c5) ∧ w'.cell? ⟨w5.heap.size, 6, none⟩ = some (.int .u8 (s.l0.toNat : Int)) ∧ w'.cell? ⟨w5.heap.size, 7, none⟩ = some (.int .u8 (s.l1.toNat : Int)) ∧ w'.cell? ⟨w5.heap.size, 8, none⟩ = some (.slice a5.A8 a5.n8 a5.c8) ∧ w'.cell? ⟨w5.heap.size, 9, none⟩ = some (.slice a5.A9 a5.n9 a5.c9))) e2 from ⟨⟨(B11.out.below E2).cell 0, (B11.out.below E2).cell 1, (B11.out.below E2).cell 2, (B11.out.below E2).cell 3, (B11.out.below E2).cell 4, (B11.out.below E2).cell 5, (B11.out.below E2).cell 6, (B11.out.below E2).cell 7, (B11.out.below E2).cell 8, (B11.out.below E2).cell 9⟩, ⟨blk_cell ((E2.block _ (blk_lt Q11.out)).trans Q11.out) 0, blk_cell ((E2.block _ (blk_lt Q11.out)).trans Q11.out) 1, blk_cell ((E2.block _ (blk_lt Q11.out)).trans Q11.out) 2, blk_cell ((E2.block _ (blk_lt Q11.out)).trans Q11.out) 3, blk_cell ((E2.block _ (blk_lt Q11.out)).trans Q11.out) 4, blk_cell ((E2.block _ (blk_lt Q11.out)).trans Q11.out) 5, blk_cell ((E2.block _ (blk_lt Q11.out)).trans Q11.out) 6, blk_cell ((E2.block _ (blk_lt Q11.out)).trans Q11.out) 7, blk_cell ((E2.block _ (blk_lt Q11.out)).trans Q11.out) 8, blk_cell ((E2.block _ (blk_lt Q11.out)).trans Q11.out) 9⟩⟩); have c1 := (U3.out.below E2).str; have c2 := (U4.out.below E2).str; generalize strOf hm = xs at c1 c2)
    | (go_at_call 7; refine (HAl.out _).mono ?_; rintro e e1 ⟨rfl, hb1⟩; have E1 := below_then hE0 hE0.size hb1; have T1 := Lib.hid (show (fun w' => (w'.cell? ⟨w.heap.size, 0, none⟩ = some (.int .i64 s.ve) ∧ w'.cell? ⟨w.heap.size, 1, none⟩ = some (.int .i64 s.ty) ∧ w'.cell? ⟨w.heap.size, 2, none⟩ = some (.int .i64 s.pu) ∧ w'.cell? ⟨w.heap.size, 3, none⟩ = some (.int .i64 s.ha) ∧ w'.cell? ⟨w.heap.size, 4, none⟩ = some (.slice a.A4 a.n4 a.c4) ∧ w'.cell? ⟨w.heap.size, 5, none⟩ = some (.slice a.A5 a.n5 a.c5) ∧ w'.cell? ⟨w.heap.size, 6, none⟩ = some (.int .u8 (s.l0.toNat : Int)) ∧ w'.cell? ⟨w.heap.size, 7, none⟩ = some (.int .u8 (s.l1.toNat : Int)) ∧ w'.cell? ⟨w.heap.size, 8, none⟩ = some (.slice a.A8 a.n8 a.c8) ∧ w'.cell? ⟨w.heap.size, 9, none⟩ = some (.slice a.A9 a.n9 a.c9)) ∧ (w'.cell? ⟨w5.heap.size, 0, none⟩ = some (.int .i64 s.ve) ∧ w'.cell? ⟨w5.heap.size, 1, none⟩ = some (.int .i64 s.ty) ∧ w'.cell? ⟨w5.heap.size, 2, none⟩ = some (.int .i64 s.pu) ∧ w'.cell? ⟨w5.heap.size, 3, none⟩ = some (.int .i64 s.ha) ∧ w'.cell? ⟨w5.heap.size, 4, none⟩ = some (.slice a5.A4 a5.n4 a5.c4) ∧ w'.cell? ⟨w5.heap.size, 5, none⟩ = some (.slice a5.A5 a5.n5 a5.c5) ∧ w'.cell? ⟨w5.heap.size, 6, none⟩ = some (.int .u8 (s.l0.toNat : Int)) ∧ w'.cell? ⟨w5.heap.size, 7, none⟩ = some (.int .u8 (s.l1.toNat : Int)) ∧ w'.cell? ⟨w5.heap.size, 8, none⟩ = some (.slice a5.A8 a5.n8 a5.c8) ∧ w'.cell? ⟨w5.heap.size, 9, none⟩ = some (.slice a5.A9 a5.n9 a5.c9))) e1 from ⟨⟨(B11.out.below E1).cell 0, (B11.out.below E1).cell 1, (B11.out.below E1).cell 2, (B11.out.below E1).cell 3, (B11.out.below E1).cell 4, (B11.out.below E1).cell 5, (B11.out.below E1).cell 6, (B11.out.below E1).cell 7, (B11.out.below E1).cell 8, (B11.out.below E1).cell 9⟩, ⟨blk_cell ((E1.block _ (blk_lt Q11.out)).trans Q11.out) 0, blk_cell ((E1.block _ (blk_lt Q11.out)).trans Q11.out) 1, blk_cell ((E1.block _ (blk_lt Q11.out)).trans Q11.out) 2, blk_cell ((E1.block _ (blk_lt Q11.out)).trans Q11.out) 3, blk_cell ((E1.block _ (blk_lt Q11.out)).trans Q11.out) 4, blk_cell ((E1.block _ (blk_lt Q11.out)).trans Q11.out) 5, blk_cell ((E1.block _ (blk_lt Q11.out)).trans Q11.out) 6, blk_cell ((E1.block _ (blk_lt Q11.out)).trans Q11.out) 7, blk_cell ((E1.block _ (blk_lt Q11.out)).trans Q11.out) 8, blk_cell ((E1.block _ (blk_lt Q11.out)).trans Q11.out) 9⟩⟩)))
  all_goals
    go_wp2
    go_ret
    exact ⟨rfl, below_then B11.out.B B11.out.B.size E2⟩
end Go.Proofs.Ytjbnoamoadaknaa
end
