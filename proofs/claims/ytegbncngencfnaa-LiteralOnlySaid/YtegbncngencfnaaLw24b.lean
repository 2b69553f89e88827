/- The statements of layer 24: LiteralOnly. -/
import Derived.Test.YtegbncngencfnaaLw24
import Derived.Test.YtegbncngencfnaaLh
import Derived.Test.YtegbncngencfnaaLl
namespace Go.Proofs.Ytegbncngencfnaa
open Go.RowKit

set_option maxRecDepth 100000 in
set_option maxHeartbeats 3200000 in
theorem LiteralOnly_walk {A : Option Addr} {n c : Nat} {l : List UInt8} {w : World} (h : Bs w A n c l) :
    Calls Try.prog 9 #[.slice A n c] w fun e w' => e = .returned (.bool true) ∧ Below w.heap.size w w' := by
  have HAl := Lib.hid (fun W => alive24_calls W)
  go_enter Try.func9, Try.ntmps9
  by_cases h1 : 600 < n
  · have hd1 : decide ((600 : Int) < (n : Int)) = true := decide_eq_true (by omega)
    go_wp2_with (go_at_call 18; refine (HAl.out _).mono ?_; rintro e w2 ⟨rfl, hb2⟩)
    go_ret
    exact ⟨rfl, hb2⟩
  have hd1 : decide ((600 : Int) < (n : Int)) = false := decide_eq_false (by omega)
  have HN := Lib.hid (show n ≤ 4294967296 by omega)
  have HN6 := Lib.hid (show n ≤ 600 by omega)
  have HL := Lib.hid (fun W (hW : Below w.heap.size w W) => Parse24_calls (h.below hW) HN.out)
  have HPs := Lib.hid (fun W (hW : Below w.heap.size w W) => ParsePass_calls (h.below hW) HN.out)
  have hlo := fun h0 => litOnly (b := l) h0
  have hpo := fun h0 => passOnly (b := l) h0
  have hpn := fun h0 => walkP_no (b := l) h0
  generalize walkL l = X at HL hlo
  generalize walkP l = Y at HPs hpo hpn
  obtain ⟨⟨f, name, y, data⟩, r⟩ := X
  obtain ⟨⟨v, ty, ha, pu, salt, iss, la⟩, rp⟩ := Y
  simp only at HL HPs hlo hpo hpn
  have HLO := Lib.hid hlo
  have HPO := Lib.hid hpo
  have HPN := Lib.hid hpn
  clear hlo hpo hpn h1
  go_wp2_with fail
  refine (HL.out w (Below.refl _ _)).mono ?_
  rintro e w1 ⟨A1, m1, c1, A2, m2, c2, r', rfl, ho1, ho2, hr', hb1⟩
  obtain rfl : r = r' := hr'.symm
  clear hr'
  have hba := (Below.refl w1.heap.size w1).alloc (Nat.le_refl _) (.cells #[.int .u8 0, .slice none 0 0, .int .u32 0, .slice none 0 0] 35)
  have hnw := heap_alloc_new w1 (.cells #[.int .u8 0, .slice none 0 0, .int .u32 0, .slice none 0 0] 35)
  generalize hv : w1.alloc (.cells #[.int .u8 0, .slice none 0 0, .int .u32 0, .slice none 0 0] 35) = v2 at hba hnw
  have f0 := blk_frozen hnw 0
  have r0 : v2.cell? ⟨w1.heap.size, 0, none⟩ = some (.int .u8 0) := blk_cell hnw 0
  have f1 := blk_frozen hnw 1
  have r1 : v2.cell? ⟨w1.heap.size, 1, none⟩ = some (.slice none 0 0) := blk_cell hnw 1
  have f2 := blk_frozen hnw 2
  have r2 : v2.cell? ⟨w1.heap.size, 2, none⟩ = some (.int .u32 0) := blk_cell hnw 2
  have f3 := blk_frozen hnw 3
  have r3 : v2.cell? ⟨w1.heap.size, 3, none⟩ = some (.slice none 0 0) := blk_cell hnw 3
  have hS0 := setRow_block (k := w1.heap.size) [.int .u8 (f.toNat : Int), .slice A1 m1 c1, .int .u32 y, .slice A2 m2 c2] 0 hnw
  have hG0 := hba.grown (setRow_grown (k := w1.heap.size) [.int .u8 (f.toNat : Int), .slice A1 m1 c1, .int .u32 y, .slice A2 m2 c2] v2 0) hba.size (fun k e => by cases e; exact Nat.le_refl _)
  generalize hx : setRow w1.heap.size v2 0 [.int .u8 (f.toNat : Int), .slice A1 m1 c1, .int .u32 y, .slice A2 m2 c2] = w2 at hS0 hG0
  simp only [setRow, Nat.reduceAdd, Nat.zero_add] at hx
  have hw2 : w2.heap[w1.heap.size]? = some (.cells #[.int .u8 (f.toNat : Int), .slice A1 m1 c1, .int .u32 y, .slice A2 m2 c2] 35 (0, 0)) := hS0
  have HX := Lib.hid hx
  clear hS0 hx hba hnw
  have ho1' := (ho1.below hG0).bs
  have ho2' := (ho2.below hG0).bs
  have hB2 := below_then hb1 hb1.size hG0
  clear ho1 ho2 hb1 hG0
  by_cases hr : r = 0
  · have HE := Lib.hid (HLO.out hr)
    subst hr
    obtain ⟨d, hd⟩ := Int.eq_ofNat_of_zero_le HE.out.2.1
    have hd4 : d < 4294967296 := by have := HE.out.2.2; omega
    subst hd
    have HE1 := Lib.hid (show emitL f name d data = (l, 0) from HE.out.1)
    have HD4 := Lib.hid hd4
    have HA2 := Lib.hid (show m2 ≤ 100000 by
      have h1 := congrArg (fun z => z.1.length) HE1.out
      have h2 := h.2
      have h3 := ho2'.2
      have h4 := HN6.out
      simp only [emitL] at h1
      split at h1
      · simp only [List.length_append] at h1
        omega
      · rename_i hno
        have := congrArg (fun z => z.2) HE1.out
        rw [emitL, if_neg hno] at this
        simp at this)
    have g0 : w2.cell? ⟨w1.heap.size, 0, none⟩ = some (.int .u8 (f.toNat : Int)) := blk_cell hw2 0
    have g1 : w2.cell? ⟨w1.heap.size, 1, none⟩ = some (.slice A1 m1 c1) := blk_cell hw2 1
    have g2 : w2.cell? ⟨w1.heap.size, 2, none⟩ = some (.int .u32 (d : Int)) := blk_cell hw2 2
    have g3 : w2.cell? ⟨w1.heap.size, 3, none⟩ = some (.slice A2 m2 c2) := blk_cell hw2 3
    clear hd4
    go_wp2_with fail
    rw [HX.out]
    clear HX hv f0 r0 f1 r1 f2 r2 f3 r3
    refine (Emit24_calls f ho1' d HD4.out ho2' HA2.out).mono ?_
    rw [HE1.out]
    rintro e w3 ⟨A3, m3, c3, r3, rfl, ho3, hr3, hb3⟩
    obtain rfl : r3 = 0 := hr3
    have hB := below_then hB2 hB2.size hb3
    have s1 := ho3.bs.str
    have s2 := (h.below hB).str
    clear g0 g1 g2 g3 hb3 hB2 hw2
    go_wp2_with fail
    clear s1 s2 ho3
    refine (HPs.out w3 hB).mono ?_
    rintro e w6 ⟨A6, m6, c6, A7, m7, c7, r'', rfl, ho6, ho7, hr', hb6⟩
    obtain rfl : rp = r'' := hr'.symm
    clear hr'
    have hB6 := below_then hB hB.size hb6
    clear hb6 hB
    have hba := (Below.refl w6.heap.size w6).alloc (Nat.le_refl _) (.cells #[.int .i64 0, .int .i64 0, .int .i64 0, .int .i64 0, .slice none 0 0, .slice none 0 0, .bool false] 42)
    have hnw := heap_alloc_new w6 (.cells #[.int .i64 0, .int .i64 0, .int .i64 0, .int .i64 0, .slice none 0 0, .slice none 0 0, .bool false] 42)
    generalize hv : w6.alloc (.cells #[.int .i64 0, .int .i64 0, .int .i64 0, .int .i64 0, .slice none 0 0, .slice none 0 0, .bool false] 42) = v7 at hba hnw
    have f0 := blk_frozen hnw 0
    have r0 : v7.cell? ⟨w6.heap.size, 0, none⟩ = some (.int .i64 0) := blk_cell hnw 0
    have f1 := blk_frozen hnw 1
    have r1 : v7.cell? ⟨w6.heap.size, 1, none⟩ = some (.int .i64 0) := blk_cell hnw 1
    have f2 := blk_frozen hnw 2
    have r2 : v7.cell? ⟨w6.heap.size, 2, none⟩ = some (.int .i64 0) := blk_cell hnw 2
    have f3 := blk_frozen hnw 3
    have r3 : v7.cell? ⟨w6.heap.size, 3, none⟩ = some (.int .i64 0) := blk_cell hnw 3
    have f4 := blk_frozen hnw 4
    have r4 : v7.cell? ⟨w6.heap.size, 4, none⟩ = some (.slice none 0 0) := blk_cell hnw 4
    have f5 := blk_frozen hnw 5
    have r5 : v7.cell? ⟨w6.heap.size, 5, none⟩ = some (.slice none 0 0) := blk_cell hnw 5
    have f6 := blk_frozen hnw 6
    have r6 : v7.cell? ⟨w6.heap.size, 6, none⟩ = some (.bool false) := blk_cell hnw 6
    have hS0 := setRow_block (k := w6.heap.size) [.int .i64 v, .int .i64 ty, .int .i64 ha, .int .i64 pu, .slice A6 m6 c6, .slice A7 m7 c7, .bool la] 0 hnw
    have hG0 := hba.grown (setRow_grown (k := w6.heap.size) [.int .i64 v, .int .i64 ty, .int .i64 ha, .int .i64 pu, .slice A6 m6 c6, .slice A7 m7 c7, .bool la] v7 0) hba.size (fun k e => by cases e; exact Nat.le_refl _)
    generalize hx : setRow w6.heap.size v7 0 [.int .i64 v, .int .i64 ty, .int .i64 ha, .int .i64 pu, .slice A6 m6 c6, .slice A7 m7 c7, .bool la] = w7 at hS0 hG0
    simp only [setRow, Nat.reduceAdd, Nat.zero_add] at hx
    have hw7 : w7.heap[w6.heap.size]? = some (.cells #[.int .i64 v, .int .i64 ty, .int .i64 ha, .int .i64 pu, .slice A6 m6 c6, .slice A7 m7 c7, .bool la] 42 (0, 0)) := hS0
    have HX := Lib.hid hx
    clear hS0 hx hba hnw
    have ho6' := (ho6.below hG0).bs
    have ho7' := (ho7.below hG0).bs
    have hB7 := below_then hB6 hB6.size hG0
    clear ho6 ho7 hB6 hG0
    by_cases hr2 : rp = 0
    · have HP2 := Lib.hid (HPO.out hr2)
      subst hr2
      have g0 : w7.cell? ⟨w6.heap.size, 0, none⟩ = some (.int .i64 v) := blk_cell hw7 0
      have g1 : w7.cell? ⟨w6.heap.size, 1, none⟩ = some (.int .i64 ty) := blk_cell hw7 1
      have g2 : w7.cell? ⟨w6.heap.size, 2, none⟩ = some (.int .i64 ha) := blk_cell hw7 2
      have g3 : w7.cell? ⟨w6.heap.size, 3, none⟩ = some (.int .i64 pu) := blk_cell hw7 3
      have g4 : w7.cell? ⟨w6.heap.size, 4, none⟩ = some (.slice A6 m6 c6) := blk_cell hw7 4
      have g5 : w7.cell? ⟨w6.heap.size, 5, none⟩ = some (.slice A7 m7 c7) := blk_cell hw7 5
      have g6 : w7.cell? ⟨w6.heap.size, 6, none⟩ = some (.bool la) := blk_cell hw7 6
      go_wp2_with fail
      rw [HX.out]
      clear HX hv f0 r0 f1 r1 f2 r2 f3 r3 f4 r4 f5 r5 f6 r6
      clear g0 g1 g2 g3 g4 g5 g6
      refine (EmitPass_calls v ty ha pu la ho6' ho7').mono ?_
      rw [HP2.out]
      rintro e w8 ⟨A8, m8, c8, r8, rfl, ho8, hr8, hb8⟩
      obtain rfl : r8 = 0 := hr8
      have hB8 := below_then hB7 hB7.size hb8
      clear hB7 hb8 hw7
      go_wp2_with (go_at_call 18; refine (HAl.out _).mono ?_; rintro e w9 ⟨rfl, hb9⟩; have hB9 := below_then hB8 hB8.size hb9; have s1 := (ho8.below hb9).bs.str; have s2 := (h.below hB9).str)
      go_ret
      exact ⟨rfl, hB9⟩
    · have HP0 := Lib.hid (HPN.out hr2)
      have hne : (rp != 0) = true := by rw [bne_iff_ne]; exact hr2
      clear hr2
      have hp0 := HP0.out
      simp only [noP, Prod.mk.injEq] at hp0
      obtain ⟨rfl, rfl, rfl, rfl, rfl, rfl, rfl⟩ := hp0
      go_wp2_with fail
      rw [HX.out]
      clear HX hv f0 r0 f1 r1 f2 r2 f3 r3 f4 r4 f5 r5 f6 r6
      refine (HAl.out w7).mono ?_
      rintro e w8 ⟨rfl, hb8⟩
      have hB8 := below_then hB7 hB7.size hb8
      have hn8 := (hb8.block w6.heap.size (blk_lt hw7)).trans hw7
      have g0 : w8.cell? ⟨w6.heap.size, 0, none⟩ = some (.int .i64 0) := blk_cell hn8 0
      have g1 : w8.cell? ⟨w6.heap.size, 1, none⟩ = some (.int .i64 0) := blk_cell hn8 1
      have g2 : w8.cell? ⟨w6.heap.size, 2, none⟩ = some (.int .i64 0) := blk_cell hn8 2
      have g3 : w8.cell? ⟨w6.heap.size, 3, none⟩ = some (.int .i64 0) := blk_cell hn8 3
      have g4 : w8.cell? ⟨w6.heap.size, 4, none⟩ = some (.slice A6 m6 c6) := blk_cell hn8 4
      have g5 : w8.cell? ⟨w6.heap.size, 5, none⟩ = some (.slice A7 m7 c7) := blk_cell hn8 5
      have g6 : w8.cell? ⟨w6.heap.size, 6, none⟩ = some (.bool false) := blk_cell hn8 6
      have hs8 := ho6'.below hb8
      have hi8 := ho7'.below hb8
      clear hw7 hn8 hB7 hb8 ho6' ho7'
      go_wp2_with fail
      refine (pass_calls 0 0 0 0 A6 m6 c6 A7 m7 c7 false w8).mono ?_
      rintro e w9 ⟨rfl, hb9⟩
      have hB9 := below_then hB8 hB8.size hb9
      clear g0 g1 g2 g3 g4 g5 g6
      go_wp2_with fail
      refine (SamePass_calls 0 0 0 0 false (hs8.below hb9) (hi8.below hb9) (Bs.nil_ w9) (Bs.nil_ w9)).mono ?_
      rintro e w10 ⟨rfl, hb10⟩
      go_wp2
      go_ret
      exact ⟨rfl, below_then hB9 hB9.size hb10⟩
  · have hne : (r == 0) = false := by rw [beq_eq_false_iff_ne]; exact hr
    clear hr
    go_wp2_with fail
    rw [HX.out]
    clear HX hv f0 r0 f1 r1 f2 r2 f3 r3
    have hB := hB2
    clear hB2 hw2
    refine (HPs.out w2 hB).mono ?_
    rintro e w6 ⟨A6, m6, c6, A7, m7, c7, r'', rfl, ho6, ho7, hr', hb6⟩
    obtain rfl : rp = r'' := hr'.symm
    clear hr'
    have hB6 := below_then hB hB.size hb6
    clear hb6 hB
    have hba := (Below.refl w6.heap.size w6).alloc (Nat.le_refl _) (.cells #[.int .i64 0, .int .i64 0, .int .i64 0, .int .i64 0, .slice none 0 0, .slice none 0 0, .bool false] 42)
    have hnw := heap_alloc_new w6 (.cells #[.int .i64 0, .int .i64 0, .int .i64 0, .int .i64 0, .slice none 0 0, .slice none 0 0, .bool false] 42)
    generalize hv : w6.alloc (.cells #[.int .i64 0, .int .i64 0, .int .i64 0, .int .i64 0, .slice none 0 0, .slice none 0 0, .bool false] 42) = v7 at hba hnw
    have f0 := blk_frozen hnw 0
    have r0 : v7.cell? ⟨w6.heap.size, 0, none⟩ = some (.int .i64 0) := blk_cell hnw 0
    have f1 := blk_frozen hnw 1
    have r1 : v7.cell? ⟨w6.heap.size, 1, none⟩ = some (.int .i64 0) := blk_cell hnw 1
    have f2 := blk_frozen hnw 2
    have r2 : v7.cell? ⟨w6.heap.size, 2, none⟩ = some (.int .i64 0) := blk_cell hnw 2
    have f3 := blk_frozen hnw 3
    have r3 : v7.cell? ⟨w6.heap.size, 3, none⟩ = some (.int .i64 0) := blk_cell hnw 3
    have f4 := blk_frozen hnw 4
    have r4 : v7.cell? ⟨w6.heap.size, 4, none⟩ = some (.slice none 0 0) := blk_cell hnw 4
    have f5 := blk_frozen hnw 5
    have r5 : v7.cell? ⟨w6.heap.size, 5, none⟩ = some (.slice none 0 0) := blk_cell hnw 5
    have f6 := blk_frozen hnw 6
    have r6 : v7.cell? ⟨w6.heap.size, 6, none⟩ = some (.bool false) := blk_cell hnw 6
    have hS0 := setRow_block (k := w6.heap.size) [.int .i64 v, .int .i64 ty, .int .i64 ha, .int .i64 pu, .slice A6 m6 c6, .slice A7 m7 c7, .bool la] 0 hnw
    have hG0 := hba.grown (setRow_grown (k := w6.heap.size) [.int .i64 v, .int .i64 ty, .int .i64 ha, .int .i64 pu, .slice A6 m6 c6, .slice A7 m7 c7, .bool la] v7 0) hba.size (fun k e => by cases e; exact Nat.le_refl _)
    generalize hx : setRow w6.heap.size v7 0 [.int .i64 v, .int .i64 ty, .int .i64 ha, .int .i64 pu, .slice A6 m6 c6, .slice A7 m7 c7, .bool la] = w7 at hS0 hG0
    simp only [setRow, Nat.reduceAdd, Nat.zero_add] at hx
    have hw7 : w7.heap[w6.heap.size]? = some (.cells #[.int .i64 v, .int .i64 ty, .int .i64 ha, .int .i64 pu, .slice A6 m6 c6, .slice A7 m7 c7, .bool la] 42 (0, 0)) := hS0
    have HX := Lib.hid hx
    clear hS0 hx hba hnw
    have ho6' := (ho6.below hG0).bs
    have ho7' := (ho7.below hG0).bs
    have hB7 := below_then hB6 hB6.size hG0
    clear ho6 ho7 hB6 hG0
    by_cases hr2 : rp = 0
    · have HP2 := Lib.hid (HPO.out hr2)
      subst hr2
      have g0 : w7.cell? ⟨w6.heap.size, 0, none⟩ = some (.int .i64 v) := blk_cell hw7 0
      have g1 : w7.cell? ⟨w6.heap.size, 1, none⟩ = some (.int .i64 ty) := blk_cell hw7 1
      have g2 : w7.cell? ⟨w6.heap.size, 2, none⟩ = some (.int .i64 ha) := blk_cell hw7 2
      have g3 : w7.cell? ⟨w6.heap.size, 3, none⟩ = some (.int .i64 pu) := blk_cell hw7 3
      have g4 : w7.cell? ⟨w6.heap.size, 4, none⟩ = some (.slice A6 m6 c6) := blk_cell hw7 4
      have g5 : w7.cell? ⟨w6.heap.size, 5, none⟩ = some (.slice A7 m7 c7) := blk_cell hw7 5
      have g6 : w7.cell? ⟨w6.heap.size, 6, none⟩ = some (.bool la) := blk_cell hw7 6
      go_wp2_with fail
      rw [HX.out]
      clear HX hv f0 r0 f1 r1 f2 r2 f3 r3 f4 r4 f5 r5 f6 r6
      clear g0 g1 g2 g3 g4 g5 g6
      refine (EmitPass_calls v ty ha pu la ho6' ho7').mono ?_
      rw [HP2.out]
      rintro e w8 ⟨A8, m8, c8, r8, rfl, ho8, hr8, hb8⟩
      obtain rfl : r8 = 0 := hr8
      have hB8 := below_then hB7 hB7.size hb8
      clear hB7 hb8 hw7
      go_wp2_with (go_at_call 18; refine (HAl.out _).mono ?_; rintro e w9 ⟨rfl, hb9⟩; have hB9 := below_then hB8 hB8.size hb9; have s1 := (ho8.below hb9).bs.str; have s2 := (h.below hB9).str)
      go_ret
      exact ⟨rfl, hB9⟩
    · have HP0 := Lib.hid (HPN.out hr2)
      have hne : (rp != 0) = true := by rw [bne_iff_ne]; exact hr2
      clear hr2
      have hp0 := HP0.out
      simp only [noP, Prod.mk.injEq] at hp0
      obtain ⟨rfl, rfl, rfl, rfl, rfl, rfl, rfl⟩ := hp0
      go_wp2_with fail
      rw [HX.out]
      clear HX hv f0 r0 f1 r1 f2 r2 f3 r3 f4 r4 f5 r5 f6 r6
      refine (HAl.out w7).mono ?_
      rintro e w8 ⟨rfl, hb8⟩
      have hB8 := below_then hB7 hB7.size hb8
      have hn8 := (hb8.block w6.heap.size (blk_lt hw7)).trans hw7
      have g0 : w8.cell? ⟨w6.heap.size, 0, none⟩ = some (.int .i64 0) := blk_cell hn8 0
      have g1 : w8.cell? ⟨w6.heap.size, 1, none⟩ = some (.int .i64 0) := blk_cell hn8 1
      have g2 : w8.cell? ⟨w6.heap.size, 2, none⟩ = some (.int .i64 0) := blk_cell hn8 2
      have g3 : w8.cell? ⟨w6.heap.size, 3, none⟩ = some (.int .i64 0) := blk_cell hn8 3
      have g4 : w8.cell? ⟨w6.heap.size, 4, none⟩ = some (.slice A6 m6 c6) := blk_cell hn8 4
      have g5 : w8.cell? ⟨w6.heap.size, 5, none⟩ = some (.slice A7 m7 c7) := blk_cell hn8 5
      have g6 : w8.cell? ⟨w6.heap.size, 6, none⟩ = some (.bool false) := blk_cell hn8 6
      have hs8 := ho6'.below hb8
      have hi8 := ho7'.below hb8
      clear hw7 hn8 hB7 hb8 ho6' ho7'
      go_wp2_with fail
      refine (pass_calls 0 0 0 0 A6 m6 c6 A7 m7 c7 false w8).mono ?_
      rintro e w9 ⟨rfl, hb9⟩
      have hB9 := below_then hB8 hB8.size hb9
      clear g0 g1 g2 g3 g4 g5 g6
      go_wp2_with fail
      refine (SamePass_calls 0 0 0 0 false (hs8.below hb9) (hi8.below hb9) (Bs.nil_ w9) (Bs.nil_ w9)).mono ?_
      rintro e w10 ⟨rfl, hb10⟩
      go_wp2
      go_ret
      exact ⟨rfl, below_then hB9 hB9.size hb10⟩
end Go.Proofs.Ytegbncngencfnaa
