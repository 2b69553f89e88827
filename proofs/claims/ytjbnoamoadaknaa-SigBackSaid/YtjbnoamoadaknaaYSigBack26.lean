import Derived.Test.YtjbnoamoadaknaaYSigBack24
import Derived.Test.YtjbnoamoadaknaaYSigBack25
/- The statements of layer 22: SigOnly. -/
section
namespace Go.Proofs.Ytjbnoamoadaknaa
open Go.RowKit

theorem setArr10 (z0 z1 z2 z3 z4 z5 z6 z7 z8 z9 v0 v1 v2 v3 v4 v5 v6 v7 v8 v9 : Value) : setArr #[z0, z1, z2, z3, z4, z5, z6, z7, z8, z9] 0 [v0, v1, v2, v3, v4, v5, v6, v7, v8, v9] = #[v0, v1, v2, v3, v4, v5, v6, v7, v8, v9] := by simp [setArr]
theorem sigC_no : sigC noSig noSigA = #[.int .i64 0, .int .i64 0, .int .i64 0, .int .i64 0, .slice none 0 0, .slice none 0 0, .int .u8 0, .int .u8 0, .slice none 0 0, .slice none 0 0] := by simp [sigC, noSig, noSigA]
theorem noSigR (W : World) : SigR W noSig noSigA := ⟨Ss.nil_ W _, Ss.nil_ W _, Bs.nil_ W, Bs.nil_ W⟩
theorem SigR.n4z {w : World} {a : SigA} (h : SigR w noSig a) : a.n4 = 0 ∧ a.n5 = 0 := by
  have h1 := h.h4.1
  have h2 := h.h5.1
  simp [noSig] at h1 h2
  omega

set_option maxRecDepth 100000 in
set_option maxHeartbeats 3200000 in
theorem SigOnly_walk {A : Option Addr} {n c : Nat} {l : List UInt8} {w : World} (h : Bs w A n c l) :
    Calls Try.prog 3 #[.slice A n c] w fun e w' => e = .returned (.bool true) ∧ Below w.heap.size w w' := by
  have HAl := Lib.hid (fun W => alive22_calls W)
  by_cases h0 : 4000 < n
  · have hd0 : decide ((4000 : Int) < (n : Int)) = true := decide_eq_true (by omega)
    clear h h0
    go_enter Try.func3, Try.ntmps3
    go_wp2_with (go_at_call 7; refine (HAl.out _).mono ?_; rintro e w3 ⟨rfl, hb3⟩)
    go_ret
    exact ⟨rfl, hb3⟩
  have hd0 : decide ((4000 : Int) < (n : Int)) = false := decide_eq_false (by omega)
  have hP := SParse_calls h (by omega)
  have hO := sigOnly (l := l) (by rw [h.2]; omega)
  have hBad := walkS_bad (l := l)
  unfold SParsePost at hP
  generalize walkS l = X at hP hO hBad
  obtain ⟨s, er⟩ := X
  simp only at hP hO hBad
  have HO := Lib.hid hO
  have HN := Lib.hid hBad
  have HP := Lib.hid hP
  have H := Lib.hid h
  clear hO hBad h0 hP h
  go_enter Try.func3, Try.ntmps3
  go_wp2_with fail
  refine HP.out.mono ?_
  rintro e w3 ⟨a3, q3, rfl, hR3, hq3, hb3⟩
  obtain rfl : q3 = er := hq3
  clear hd0 HP
  have hba := (Below.refl w3.heap.size w3).alloc (Nat.le_refl _) (.cells #[.int .i64 0, .int .i64 0, .int .i64 0, .int .i64 0, .slice none 0 0, .slice none 0 0, .int .u8 0, .int .u8 0, .slice none 0 0, .slice none 0 0] 27)
  have hnw := heap_alloc_new w3 (.cells #[.int .i64 0, .int .i64 0, .int .i64 0, .int .i64 0, .slice none 0 0, .slice none 0 0, .int .u8 0, .int .u8 0, .slice none 0 0, .slice none 0 0] 27)
  generalize hv : w3.alloc (.cells #[.int .i64 0, .int .i64 0, .int .i64 0, .int .i64 0, .slice none 0 0, .slice none 0 0, .int .u8 0, .int .u8 0, .slice none 0 0, .slice none 0 0] 27) = v4 at hba hnw
  have f0 := blk_frozen hnw 0
  have r0 : v4.cell? ⟨w3.heap.size, 0, none⟩ = some (.int .i64 0) := blk_cell hnw 0
  have f1 := blk_frozen hnw 1
  have r1 : v4.cell? ⟨w3.heap.size, 1, none⟩ = some (.int .i64 0) := blk_cell hnw 1
  have f2 := blk_frozen hnw 2
  have r2 : v4.cell? ⟨w3.heap.size, 2, none⟩ = some (.int .i64 0) := blk_cell hnw 2
  have f3 := blk_frozen hnw 3
  have r3 : v4.cell? ⟨w3.heap.size, 3, none⟩ = some (.int .i64 0) := blk_cell hnw 3
  have f4 := blk_frozen hnw 4
  have r4 : v4.cell? ⟨w3.heap.size, 4, none⟩ = some (.slice none 0 0) := blk_cell hnw 4
  have f5 := blk_frozen hnw 5
  have r5 : v4.cell? ⟨w3.heap.size, 5, none⟩ = some (.slice none 0 0) := blk_cell hnw 5
  have f6 := blk_frozen hnw 6
  have r6 : v4.cell? ⟨w3.heap.size, 6, none⟩ = some (.int .u8 0) := blk_cell hnw 6
  have f7 := blk_frozen hnw 7
  have r7 : v4.cell? ⟨w3.heap.size, 7, none⟩ = some (.int .u8 0) := blk_cell hnw 7
  have f8 := blk_frozen hnw 8
  have r8 : v4.cell? ⟨w3.heap.size, 8, none⟩ = some (.slice none 0 0) := blk_cell hnw 8
  have f9 := blk_frozen hnw 9
  have r9 : v4.cell? ⟨w3.heap.size, 9, none⟩ = some (.slice none 0 0) := blk_cell hnw 9
  have hS0 := setRow_block (k := w3.heap.size) [.int .i64 s.ve, .int .i64 s.ty, .int .i64 s.pu, .int .i64 s.ha, .slice a3.A4 a3.n4 a3.c4, .slice a3.A5 a3.n5 a3.c5, .int .u8 (s.l0.toNat : Int), .int .u8 (s.l1.toNat : Int), .slice a3.A8 a3.n8 a3.c8, .slice a3.A9 a3.n9 a3.c9] 0 hnw
  have hG0 := hba.grown (setRow_grown (k := w3.heap.size) [.int .i64 s.ve, .int .i64 s.ty, .int .i64 s.pu, .int .i64 s.ha, .slice a3.A4 a3.n4 a3.c4, .slice a3.A5 a3.n5 a3.c5, .int .u8 (s.l0.toNat : Int), .int .u8 (s.l1.toNat : Int), .slice a3.A8 a3.n8 a3.c8, .slice a3.A9 a3.n9 a3.c9] v4 0) hba.size (fun k e => by cases e; exact Nat.le_refl _)
  generalize hx : setRow w3.heap.size v4 0 [.int .i64 s.ve, .int .i64 s.ty, .int .i64 s.pu, .int .i64 s.ha, .slice a3.A4 a3.n4 a3.c4, .slice a3.A5 a3.n5 a3.c5, .int .u8 (s.l0.toNat : Int), .int .u8 (s.l1.toNat : Int), .slice a3.A8 a3.n8 a3.c8, .slice a3.A9 a3.n9 a3.c9] = w4 at hS0 hG0
  simp only [setRow, Nat.reduceAdd, Nat.zero_add] at hx
  have hw4 : w4.heap[w3.heap.size]? = some (.cells #[.int .i64 s.ve, .int .i64 s.ty, .int .i64 s.pu, .int .i64 s.ha, .slice a3.A4 a3.n4 a3.c4, .slice a3.A5 a3.n5 a3.c5, .int .u8 (s.l0.toNat : Int), .int .u8 (s.l1.toNat : Int), .slice a3.A8 a3.n8 a3.c8, .slice a3.A9 a3.n9 a3.c9] 27 (0, 0)) := by rw [setArr10] at hS0; exact hS0
  have HX := Lib.hid hx
  clear hS0 hx hba hnw
  have HB4 := Lib.hid (below_then hb3 hb3.size hG0)
  have HR4 := Lib.hid (hR3.below hG0)
  have HW4 := Lib.hid hw4
  clear hb3 hG0 hR3 hw4
  go_upto_region 4 with fail
  rw [HX.out]
  clear HX hv f0 r0 f1 r1 f2 r2 f3 r3 f4 r4 f5 r5 f6 r6 f7 r7 f8 r8 f9 r9
  have k0 : w4.cell? ⟨w3.heap.size, 0, none⟩ = some (.int .i64 s.ve) := blk_cell HW4.out 0
  have k1 : w4.cell? ⟨w3.heap.size, 1, none⟩ = some (.int .i64 s.ty) := blk_cell HW4.out 1
  have k2 : w4.cell? ⟨w3.heap.size, 2, none⟩ = some (.int .i64 s.pu) := blk_cell HW4.out 2
  have k3 : w4.cell? ⟨w3.heap.size, 3, none⟩ = some (.int .i64 s.ha) := blk_cell HW4.out 3
  have k4 : w4.cell? ⟨w3.heap.size, 4, none⟩ = some (.slice a3.A4 a3.n4 a3.c4) := blk_cell HW4.out 4
  have k5 : w4.cell? ⟨w3.heap.size, 5, none⟩ = some (.slice a3.A5 a3.n5 a3.c5) := blk_cell HW4.out 5
  have k6 : w4.cell? ⟨w3.heap.size, 6, none⟩ = some (.int .u8 (s.l0.toNat : Int)) := blk_cell HW4.out 6
  have k7 : w4.cell? ⟨w3.heap.size, 7, none⟩ = some (.int .u8 (s.l1.toNat : Int)) := blk_cell HW4.out 7
  have k8 : w4.cell? ⟨w3.heap.size, 8, none⟩ = some (.slice a3.A8 a3.n8 a3.c8) := blk_cell HW4.out 8
  have k9 : w4.cell? ⟨w3.heap.size, 9, none⟩ = some (.slice a3.A9 a3.n9 a3.c9) := blk_cell HW4.out 9
  by_cases he : q3 = 0
  rotate_left
  · have HS := Lib.hid (show ∀ W, Below w4.heap.size w4 W → s = noSig → Calls Try.prog 9 #[.agg (sigC s a3), .agg #[.int .i64 0, .int .i64 0, .int .i64 0, .int .i64 0, .slice none 0 0, .slice none 0 0, .int .u8 0, .int .u8 0, .slice none 0 0, .slice none 0 0]] W (fun e w' => e = .returned (.bool true) ∧ Below W.heap.size W w') by
      intro W hW hs
      have hR := HR4.out.below hW
      rw [hs] at hR
      have hc := Same22_calls (s := noSig) (a := a3) (b := noSigA) (w := W) hR (noSigR W) (by rw [hR.n4z.1]; omega) (by rw [hR.n4z.2]; omega)
      rw [sigC_no] at hc
      rw [hs]
      exact hc)
    have HZ := Lib.hid (HN.out he)
    clear HO HN
    go_wp2_with (first
      | (go_at_call 7; refine (HAl.out _).mono ?_; rintro e w5 ⟨rfl, hb5⟩; have HW5 := Lib.hid ((hb5.block _ (blk_lt HW4.out)).trans HW4.out); have k0 : w5.cell? ⟨w3.heap.size, 0, none⟩ = some (.int .i64 s.ve) := blk_cell HW5.out 0; have k1 : w5.cell? ⟨w3.heap.size, 1, none⟩ = some (.int .i64 s.ty) := blk_cell HW5.out 1; have k2 : w5.cell? ⟨w3.heap.size, 2, none⟩ = some (.int .i64 s.pu) := blk_cell HW5.out 2; have k3 : w5.cell? ⟨w3.heap.size, 3, none⟩ = some (.int .i64 s.ha) := blk_cell HW5.out 3; have k4 : w5.cell? ⟨w3.heap.size, 4, none⟩ = some (.slice a3.A4 a3.n4 a3.c4) := blk_cell HW5.out 4; have k5 : w5.cell? ⟨w3.heap.size, 5, none⟩ = some (.slice a3.A5 a3.n5 a3.c5) := blk_cell HW5.out 5; have k6 : w5.cell? ⟨w3.heap.size, 6, none⟩ = some (.int .u8 (s.l0.toNat : Int)) := blk_cell HW5.out 6; have k7 : w5.cell? ⟨w3.heap.size, 7, none⟩ = some (.int .u8 (s.l1.toNat : Int)) := blk_cell HW5.out 7; have k8 : w5.cell? ⟨w3.heap.size, 8, none⟩ = some (.slice a3.A8 a3.n8 a3.c8) := blk_cell HW5.out 8; have k9 : w5.cell? ⟨w3.heap.size, 9, none⟩ = some (.slice a3.A9 a3.n9 a3.c9) := blk_cell HW5.out 9)
      | (go_at_call 9; refine (HS.out w5 hb5 HZ.out).mono ?_; rintro e w6 ⟨rfl, hb6⟩))
    go_ret
    exact ⟨rfl, below_then (below_then HB4.out HB4.out.size hb5) (below_then HB4.out HB4.out.size hb5).size hb6⟩
  · subst he
    have HE := Lib.hid (EmitG_calls HR4.out (HO.out rfl).2)
    unfold HashedPost at HE
    rw [(HO.out rfl).1] at HE
    clear HO HN
    go_wp2_with fail
    refine HE.out.mono ?_
    rintro e w5 ⟨A5, m5, c5, r5, rfl, ho5, hr5, hb5⟩
    obtain rfl : r5 = 0 := hr5
    have HB5 := Lib.hid (below_then HB4.out HB4.out.size hb5)
    clear hb5 k0 k1 k2 k3 k4 k5 k6 k7 k8 k9
    go_wp2_with (go_at_call 7; refine (HAl.out _).mono ?_; rintro e w6 ⟨rfl, hb6⟩; have s1 := (ho5.below hb6).bs.str; have s2 := (H.out.below (below_then HB5.out HB5.out.size hb6)).str)
    go_ret
    exact ⟨rfl, below_then HB5.out HB5.out.size hb6⟩
end Go.Proofs.Ytjbnoamoadaknaa
end
