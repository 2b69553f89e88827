import Derived.Test.YtjbnoamoadaknaaYSigBack22
import Derived.Test.YtjbnoamoadaknaaYSigBack19
/- Signatures: the document's area, Hashed, Emit. -/
section
namespace Go.Proofs.Ytjbnoamoadaknaa
open Go.RowKit

/-- An area behind bytes, or why there is none. -/
def areaG (v : Int) (l : List UInt8) (ss : List SubV) : List UInt8 × Int := if (emitF ss).2 ≠ 0 then ([], (emitF ss).2) else (l ++ areaB v (emitF ss).1, 0)
set_option maxRecDepth 100000 in
set_option maxHeartbeats 1600000 in
theorem rarea_calls (v : Int) {A D : Option Addr} {n c m d : Nat} {l : List UInt8} {ss : List SubV} {w : World} (h : Bs w A n c l) (hn : n ≤ 1000000) (g : Ss w D m ss) (hm : m ≤ 500) (hb : ∀ x ∈ ss, x.2.2.length ≤ 100000) :
    Calls Try.prog 39 #[.slice A n c, .slice D m d, .int .i64 v] w (HashedPost (areaG v l ss) w) := by
  have HW := Lib.hid (fun W => rwidth_calls v W)
  have HE := Lib.hid (rEmit_calls (c := d) g hm hb)
  have HA := Lib.hid (show areaG v l ss = if (emitF ss).2 ≠ 0 then ([], (emitF ss).2) else (l ++ areaB v (emitF ss).1, 0) from rfl)
  have HLn := Lib.hid (emitF_len ss)
  have HH := Lib.hid h
  generalize emitF ss = X at HE HA HLn
  obtain ⟨x, r⟩ := X
  simp only at HE HA HLn
  clear h g
  go_enter Try.func39, Try.ntmps39
  go_upto_region 2 with (go_at_call 42; refine HE.out.mono ?_; rintro e w1 ⟨A1, m1, c1, q, rfl, ho1, hq, hb1⟩; have HQ := Lib.hid hq; clear hq)
  have H1 := Lib.hid hb1
  have O1 := Lib.hid ho1
  clear hb1 ho1
  by_cases hx : q = 0
  rotate_left
  · have d1 : (q != 0) = true := by rw [bne_iff_ne]; exact hx
    have HR := Lib.hid (show areaG v l ss = ([], q) by rw [HA.out, if_pos (by rw [← HQ.out]; exact hx), HQ.out])
    clear hx
    go_wp2
    go_ret2
    unfold HashedPost
    rw [HR.out]
    exact ⟨_, _, _, _, rfl, Own.nil_ _ _, rfl, H1.out⟩
  have d1 : (q != 0) = false := by rw [bne_eq_false_iff_eq]; exact hx
  have HR := Lib.hid (show areaG v l ss = (l ++ areaB v x, 0) by rw [HA.out, if_neg (fun h => h (by rw [← HQ.out]; exact hx))])
  clear hx
  have hxl : x.length = m1 := O1.out.2
  have HP0 := rPut_any (HH.out.below H1.out) (by omega) m1 (by have := HLn.out; omega) (widS v : Nat)
  have hPW := wid_put l x v (by have := HLn.out; omega)
  rw [hxl] at hPW
  rw [hPW] at HP0
  have HP := Lib.hid HP0
  have hw8 : (m1 : Int) % 18446744073709551616 = (m1 : Int) := by have := HLn.out; omega
  have HX := Lib.hid (show l ++ be (widS v) m1 ++ x = l ++ areaB v x by rw [areaB, List.append_assoc, hxl])
  have HL := Lib.hid (show (l ++ be (widS v) m1).length ≤ 2000000 by
    have hw : widS v ≤ 4 := by unfold widS; split <;> omega
    rw [List.length_append, be_length, HH.out.2]; omega)
  have HM := Lib.hid (show m1 ≤ 4000 by have := HLn.out; omega)
  clear HP0 hPW hxl
  generalize widS v = wd at HW HP HX HL
  go_upto_region 5 with (first
    | (go_at_call 67; refine HP.out.mono ?_; rintro e w2 ⟨A2, m2, c2, r2, rfl, ho2, hr2, hb2⟩)
    | (go_at_call 68; refine (HW.out _).mono ?_; rintro e wq ⟨rfl, rfl⟩))
  have g1 := (O1.out.below hb2).bs
  have hm1 : m1 ≤ 4000 := HM.out
  have hm2 : m2 ≤ 2000000 := Nat.le_trans (Nat.le_of_eq ho2.2.symm) HL.out
  have H2 := Lib.hid (below_then H1.out H1.out.size hb2)
  clear hr2
  go_wp2_with (at_builtin; refine app8 (.tmp 30) (.tmp 31) rfl rfl rfl ho2 rfl g1 (by omega) hb2.size ?_; intro A3 c3 w3 ho3 hg3 hat3)
  go_ret2
  unfold HashedPost
  rw [HR.out]
  refine ⟨A3, _, c3, 0, rfl, by rw [← HX.out]; exact ho3.lower H1.out.size, rfl, H2.out.grown hg3 H2.out.size (fun k e => ?_)⟩
  cases A2 with
  | none => cases e
  | some ad => cases e; exact Nat.le_trans H1.out.size (ho2.blk _ rfl).1

theorem areaG_ok {v : Int} {l : List UInt8} {ss : List SubV} (h : (emitF ss).2 = 0) : areaG v l ss = (l ++ areaB v (emitF ss).1, 0) := by rw [areaG, if_neg (fun hn => hn h)]

set_option maxRecDepth 100000 in
set_option maxHeartbeats 3200000 in
theorem rHashed_calls {s : SigV} {a : SigA} {w : World} (h : SigR w s a) (hL : SigL s) :
    Calls Try.prog 14 #[.agg (sigC s a)] w (HashedPost (hashedG s) w) := by
  go_enter Try.func14, Try.ntmps14
  go_upto_region 1 with fail
  go_name_world w1 hw1
  have H1 : Box w w1 27 (sigC s a) := Box.mk_ hw1
  clear hw1
  have k0 : w1.cell? ⟨w.heap.size, 0, none⟩ = some (.int .i64 s.ve) := H1.cell 0
  have k1 : w1.cell? ⟨w.heap.size, 1, none⟩ = some (.int .i64 s.ty) := H1.cell 1
  have k2 : w1.cell? ⟨w.heap.size, 2, none⟩ = some (.int .i64 s.pu) := H1.cell 2
  have k3 : w1.cell? ⟨w.heap.size, 3, none⟩ = some (.int .i64 s.ha) := H1.cell 3
  have k4 : w1.cell? ⟨w.heap.size, 4, none⟩ = some (.slice a.A4 a.n4 a.c4) := H1.cell 4
  have k5 : w1.cell? ⟨w.heap.size, 5, none⟩ = some (.slice a.A5 a.n5 a.c5) := H1.cell 5
  have k6 : w1.cell? ⟨w.heap.size, 6, none⟩ = some (.int .u8 (s.l0.toNat : Int)) := H1.cell 6
  have k7 : w1.cell? ⟨w.heap.size, 7, none⟩ = some (.int .u8 (s.l1.toNat : Int)) := H1.cell 7
  have k8 : w1.cell? ⟨w.heap.size, 8, none⟩ = some (.slice a.A8 a.n8 a.c8) := H1.cell 8
  have k9 : w1.cell? ⟨w.heap.size, 9, none⟩ = some (.slice a.A9 a.n9 a.c9) := H1.cell 9
  have HA := Lib.hid (show areasG s = if mayG s = false ∨ (emitF s.hs).2 = 1 ∨ (emitF s.us).2 = 1 then ([], [], 1) else if (emitF s.hs).2 ≠ 0 ∨ (emitF s.us).2 ≠ 0 then ([], [], 4) else ((emitF s.hs).1, (emitF s.us).1, 0) from rfl)
  have HE1 := Lib.hid (fun W (hW : Below w.heap.size w W) => rEmit_calls (c := a.c4) (h.h4.below hW) (by have := h.h4.1; have := hL.l4; omega) hL.b4)
  have HE2 := Lib.hid (fun W (hW : Below w.heap.size w W) => rEmit_calls (c := a.c5) (h.h5.below hW) (by have := h.h5.1; have := hL.l5; omega) hL.b5)
  have HMy := Lib.hid (fun W (hW : Below w.heap.size w W) => rmay_calls (s := s) (a := a) (h.below hW) (by have := hL.l9; have := h.h9.2; omega))
  have HAr := Lib.hid (fun W (A : Option Addr) n c l (hW : Below w.heap.size w W) (hb : Bs W A n c l) (hn : n ≤ 1000000) => rarea_calls s.ve (d := a.c4) hb hn (h.h4.below hW) (by have := h.h4.1; have := hL.l4; omega) hL.b4)
  unfold HashedPost at HAr
  have HAG := Lib.hid (fun l => areaG_ok (v := s.ve) (l := l) (ss := s.hs))
  have HHN := Lib.hid (fun (h : mayG s = true) => head_nats h)
  have hg1 : (areasG s).2.2 ≠ 0 → hashedG s = ([], (areasG s).2.2) := fun h => (areasG_no h).1
  have hg2 : (areasG s).2.2 = 0 → hashedG s = (headB s ++ areaB s.ve (areasG s).1, 0) := fun h => by rw [hashedG, if_neg (fun hn => hn h)]
  have HG1 := Lib.hid hg1
  have HG2 := Lib.hid hg2
  have HH1 := Lib.hid H1
  clear h H1 hg1 hg2
  go_upto_region 2 with (go_at_call 42; refine (HE1.out w1 HH1.out.B).mono ?_; rintro e w2 ⟨A2, m2, c2, q2, rfl, ho2, hq2, hb2⟩; have E2 := Lib.hid hq2; clear hq2)
  have H2 := Lib.hid (HH1.out.below hb2)
  clear k0 k1 k2 k3 k4 k5 k6 k7 k8 k9 ho2 hb2
  have k5 : w2.cell? ⟨w.heap.size, 5, none⟩ = some (.slice a.A5 a.n5 a.c5) := H2.out.cell 5
  go_upto_region 3 with (go_at_call 42; refine (HE2.out w2 H2.out.B).mono ?_; rintro e w3 ⟨A3, m3, c3, q3, rfl, ho3, hq3, hb3⟩; have E3 := Lib.hid hq3; clear hq3)
  have H3 := Lib.hid (H2.out.below hb3)
  clear k5 ho3 hb3
  have k0 : w3.cell? ⟨w.heap.size, 0, none⟩ = some (.int .i64 s.ve) := H3.out.cell 0
  have k1 : w3.cell? ⟨w.heap.size, 1, none⟩ = some (.int .i64 s.ty) := H3.out.cell 1
  have k2 : w3.cell? ⟨w.heap.size, 2, none⟩ = some (.int .i64 s.pu) := H3.out.cell 2
  have k3 : w3.cell? ⟨w.heap.size, 3, none⟩ = some (.int .i64 s.ha) := H3.out.cell 3
  have k4 : w3.cell? ⟨w.heap.size, 4, none⟩ = some (.slice a.A4 a.n4 a.c4) := H3.out.cell 4
  have k5 : w3.cell? ⟨w.heap.size, 5, none⟩ = some (.slice a.A5 a.n5 a.c5) := H3.out.cell 5
  have k6 : w3.cell? ⟨w.heap.size, 6, none⟩ = some (.int .u8 (s.l0.toNat : Int)) := H3.out.cell 6
  have k7 : w3.cell? ⟨w.heap.size, 7, none⟩ = some (.int .u8 (s.l1.toNat : Int)) := H3.out.cell 7
  have k8 : w3.cell? ⟨w.heap.size, 8, none⟩ = some (.slice a.A8 a.n8 a.c8) := H3.out.cell 8
  have k9 : w3.cell? ⟨w.heap.size, 9, none⟩ = some (.slice a.A9 a.n9 a.c9) := H3.out.cell 9
  go_wp2_with fail
  refine (HMy.out w3 H3.out.B).mono ?_
  rintro e w4 ⟨rfl, hb4⟩
  have H4 := Lib.hid (H3.out.below hb4)
  clear k0 k1 k2 k3 k4 k5 k6 k7 k8 k9 hb4
  by_cases hmy : mayG s = true
  rotate_left
  · have hmy' : mayG s = false := by simpa using hmy
    rw [hmy']
    have hAr : areasG s = ([], [], 1) := by rw [HA.out, if_pos (.inl hmy')]
    have HR := Lib.hid (show hashedG s = ([], 1) by have h2 := HG1.out (by rw [hAr]; simp); rw [hAr] at h2; exact h2)
    clear hAr hmy hmy'
    go_wp2
    go_ret2
    unfold HashedPost
    rw [HR.out]
    exact ⟨_, _, _, _, rfl, Own.nil_ _ _, rfl, H4.out.B⟩
  rw [hmy]
  have HMG := Lib.hid hmy
  clear hmy
  by_cases x1 : q2 = 1
  · have d1 : (q2 == 1) = true := beq_iff_eq.2 x1
    have hAr : areasG s = ([], [], 1) := by rw [HA.out, if_pos (.inr (.inl (by rw [← E2.out]; exact x1)))]
    have HR := Lib.hid (show hashedG s = ([], 1) by have h2 := HG1.out (by rw [hAr]; simp); rw [hAr] at h2; exact h2)
    clear hAr x1
    go_wp2
    go_ret2
    unfold HashedPost
    rw [HR.out]
    exact ⟨_, _, _, _, rfl, Own.nil_ _ _, rfl, H4.out.B⟩
  have d1 : (q2 == 1) = false := beq_eq_false_iff_ne.2 x1
  by_cases x2 : q3 = 1
  · have d2 : (q3 == 1) = true := beq_iff_eq.2 x2
    have hAr : areasG s = ([], [], 1) := by rw [HA.out, if_pos (.inr (.inr (by rw [← E3.out]; exact x2)))]
    have HR := Lib.hid (show hashedG s = ([], 1) by have h2 := HG1.out (by rw [hAr]; simp); rw [hAr] at h2; exact h2)
    clear hAr x1 x2
    go_wp2
    go_ret2
    unfold HashedPost
    rw [HR.out]
    exact ⟨_, _, _, _, rfl, Own.nil_ _ _, rfl, H4.out.B⟩
  have d2 : (q3 == 1) = false := beq_eq_false_iff_ne.2 x2
  have HB := Lib.hid (show areasG s = if (emitF s.hs).2 ≠ 0 ∨ (emitF s.us).2 ≠ 0 then ([], [], 4) else ((emitF s.hs).1, (emitF s.us).1, 0) by rw [HA.out, if_neg (fun h => by rcases h with h | h | h; (· rw [HMG.out] at h; cases h); (· exact x1 (by rw [E2.out]; exact h)); exact x2 (by rw [E3.out]; exact h))])
  clear x1 x2
  by_cases x3 : q2 = 0
  rotate_left
  · have d3 : (q2 != 0) = true := by rw [bne_iff_ne]; exact x3
    have hAr : areasG s = ([], [], 4) := by rw [HB.out, if_pos (.inl (by rw [← E2.out]; exact x3))]
    have HR := Lib.hid (show hashedG s = ([], 4) by have h2 := HG1.out (by rw [hAr]; simp); rw [hAr] at h2; exact h2)
    clear hAr x3
    go_wp2
    go_ret2
    unfold HashedPost
    rw [HR.out]
    exact ⟨_, _, _, _, rfl, Own.nil_ _ _, rfl, H4.out.B⟩
  have d3 : (q2 != 0) = false := by rw [bne_eq_false_iff_eq]; exact x3
  by_cases x4 : q3 = 0
  rotate_left
  · have d4 : (q3 != 0) = true := by rw [bne_iff_ne]; exact x4
    have hAr : areasG s = ([], [], 4) := by rw [HB.out, if_pos (.inr (by rw [← E3.out]; exact x4))]
    have HR := Lib.hid (show hashedG s = ([], 4) by have h2 := HG1.out (by rw [hAr]; simp); rw [hAr] at h2; exact h2)
    clear hAr x3 x4
    go_wp2
    go_ret2
    unfold HashedPost
    rw [HR.out]
    exact ⟨_, _, _, _, rfl, Own.nil_ _ _, rfl, H4.out.B⟩
  have d4 : (q3 != 0) = false := by rw [bne_eq_false_iff_eq]; exact x4
  have hAr : areasG s = ((emitF s.hs).1, (emitF s.us).1, 0) := by rw [HB.out, if_neg (fun h => by rcases h with h | h; (· exact h (by rw [← E2.out]; exact x3)); exact h (by rw [← E3.out]; exact x4))]
  have HR := Lib.hid (show hashedG s = (headB s ++ areaB s.ve (emitF s.hs).1, 0) by rw [HG2.out (by rw [hAr]), hAr])
  have HX := Lib.hid (show areaG s.ve (headB s) s.hs = (headB s ++ areaB s.ve (emitF s.hs).1, 0) from HAG.out _ (by rw [← E2.out]; exact x3))
  obtain ⟨v, t, p, k, e1, e2, e3, e4, hh, b1, b2, b3, b4⟩ := HHN.out HMG.out
  have HL := Lib.hid (bvs4 v t p k b1 b2 b3 b4)
  have HH := Lib.hid hh
  clear b1 b2 b3 b4 hh hAr x3 x4
  have k0 : w4.cell? ⟨w.heap.size, 0, none⟩ = some (.int .i64 s.ve) := H4.out.cell 0
  have k1 : w4.cell? ⟨w.heap.size, 1, none⟩ = some (.int .i64 s.ty) := H4.out.cell 1
  have k2 : w4.cell? ⟨w.heap.size, 2, none⟩ = some (.int .i64 s.pu) := H4.out.cell 2
  have k3 : w4.cell? ⟨w.heap.size, 3, none⟩ = some (.int .i64 s.ha) := H4.out.cell 3
  have k4 : w4.cell? ⟨w.heap.size, 4, none⟩ = some (.slice a.A4 a.n4 a.c4) := H4.out.cell 4
  have ho := own_lit w4 #[.int .u8 (v : Int), .int .u8 (t : Int), .int .u8 (p : Int), .int .u8 (k : Int)] _ HL.out 4 rfl (by omega)
  rw [← HH.out] at ho
  have H5 := Lib.hid (H4.out.alloc_ (.cells #[.int .u8 (v : Int), .int .u8 (t : Int), .int .u8 (p : Int), .int .u8 (k : Int)] 5))
  have HP := Lib.hid (HAr.out _ _ _ _ _ H5.out.B ho.bs (by omega))
  rw [HX.out] at HP
  have c0 : (w4.alloc (.cells #[.int .u8 (v : Int), .int .u8 (t : Int), .int .u8 (p : Int), .int .u8 (k : Int)] 5)).cell? ⟨w.heap.size, 0, none⟩ = some (.int .i64 s.ve) := H5.out.cell 0
  have c4 : (w4.alloc (.cells #[.int .u8 (v : Int), .int .u8 (t : Int), .int .u8 (p : Int), .int .u8 (k : Int)] 5)).cell? ⟨w.heap.size, 4, none⟩ = some (.slice a.A4 a.n4 a.c4) := H5.out.cell 4
  clear ho
  go_wp2_with fail
  refine HP.out.mono ?_
  rintro e w6 ⟨A6, m6, c6, r6, rfl, ho6, hr6, hb6⟩
  obtain rfl : r6 = 0 := hr6
  go_wp2
  go_ret2
  unfold HashedPost
  rw [HR.out]
  exact ⟨A6, m6, c6, 0, rfl, ho6.lower H5.out.B.size, rfl, (H5.out.below hb6).B⟩

theorem hashed_err (s : SigV) : (hashedG s).2 = (areasG s).2.2 := by
  by_cases h : (areasG s).2.2 = 0
  · rw [hashedG, if_neg (fun hn => hn h), h]
  · rw [(areasG_no h).1]
theorem pub_two {s : SigV} (h : mayG s = true) : s.pu = 1 ∨ s.pu = 27 := by
  simp only [mayG, Bool.and_eq_true] at h
  simpa [pubS] using h.1.1.1.2

set_option maxRecDepth 100000 in
set_option maxHeartbeats 3200000 in
theorem rEmitG_calls {s : SigV} {a : SigA} {w : World} (h : SigR w s a) (hL : SigL s) :
    Calls Try.prog 12 #[.agg (sigC s a)] w (HashedPost (emitG s) w) := by
  go_enter Try.func12, Try.ntmps12
  go_upto_region 1 with fail
  go_name_world w1 hw1
  have H1 : Box w w1 27 (sigC s a) := Box.mk_ hw1
  clear hw1
  have k0 : w1.cell? ⟨w.heap.size, 0, none⟩ = some (.int .i64 s.ve) := H1.cell 0
  have k1 : w1.cell? ⟨w.heap.size, 1, none⟩ = some (.int .i64 s.ty) := H1.cell 1
  have k2 : w1.cell? ⟨w.heap.size, 2, none⟩ = some (.int .i64 s.pu) := H1.cell 2
  have k3 : w1.cell? ⟨w.heap.size, 3, none⟩ = some (.int .i64 s.ha) := H1.cell 3
  have k4 : w1.cell? ⟨w.heap.size, 4, none⟩ = some (.slice a.A4 a.n4 a.c4) := H1.cell 4
  have k5 : w1.cell? ⟨w.heap.size, 5, none⟩ = some (.slice a.A5 a.n5 a.c5) := H1.cell 5
  have k6 : w1.cell? ⟨w.heap.size, 6, none⟩ = some (.int .u8 (s.l0.toNat : Int)) := H1.cell 6
  have k7 : w1.cell? ⟨w.heap.size, 7, none⟩ = some (.int .u8 (s.l1.toNat : Int)) := H1.cell 7
  have k8 : w1.cell? ⟨w.heap.size, 8, none⟩ = some (.slice a.A8 a.n8 a.c8) := H1.cell 8
  have k9 : w1.cell? ⟨w.heap.size, 9, none⟩ = some (.slice a.A9 a.n9 a.c9) := H1.cell 9
  have HA := Lib.hid (fun W (hW : Below w.heap.size w W) => rHashed_calls (a := a) (h.below hW) hL)
  unfold HashedPost at HA
  have HAr := Lib.hid (fun W (A : Option Addr) n c l (hW : Below w.heap.size w W) (hb : Bs W A n c l) (hn : n ≤ 1000000) => rarea_calls s.ve (d := a.c5) hb hn (h.h5.below hW) (by have := h.h5.1; have := hL.l5; omega) hL.b5)
  unfold HashedPost at HAr
  have HAG := Lib.hid (fun l => areaG_ok (v := s.ve) (l := l) (ss := s.us))
  have HNo := Lib.hid (fun h => areasG_no (s := s) h)
  have HOk := Lib.hid (fun h => areasG_ok (s := s) h)
  have HE := Lib.hid (hashed_err s)
  have hyes : (areasG s).2.2 = 0 → hashedG s = (headB s ++ areaB s.ve (areasG s).1, 0) ∧ emitG s = (preG s (areasG s).1 (areasG s).2.1 ++ saltG s ++ valG s, 0) := fun h => ⟨by rw [hashedG, if_neg (fun hn => hn h)], by rw [emitG, if_neg (fun hn => hn h)] <;> rfl⟩
  have HYes := Lib.hid hyes
  have HL1 := Lib.hid (emitF_len s.hs)
  have HL2 := Lib.hid (emitF_len s.us)
  have HH := Lib.hid h
  have HLL := Lib.hid hL
  have HH1 := Lib.hid H1
  clear h H1 hyes hL
  go_upto_region 2 with (go_at_call 14; refine (HA.out w1 HH1.out.B).mono ?_; rintro e w2 ⟨A2, m2, c2, q, rfl, ho2, hq, hb2⟩; have HQ := Lib.hid hq; clear hq)
  have H2 := Lib.hid (HH1.out.below hb2)
  have hlt := HH1.out.lt
  clear k0 k1 k2 k3 k4 k5 k6 k7 k8 k9 hb2
  by_cases hx : q = 0
  rotate_left
  · have d1 : (q != 0) = true := by rw [bne_iff_ne]; exact hx
    have HR := Lib.hid (show emitG s = ([], q) by rw [(HNo.out (by rw [← HE.out, ← HQ.out]; exact hx)).2, ← HE.out, ← HQ.out])
    clear hx ho2
    go_wp2
    go_ret2
    unfold HashedPost
    rw [HR.out]
    exact ⟨_, _, _, _, rfl, Own.nil_ _ _, rfl, H2.out.B⟩
  have d1 : (q != 0) = false := by rw [bne_eq_false_iff_eq]; exact hx
  have hx0 : (areasG s).2.2 = 0 := by rw [← HE.out, ← HQ.out]; exact hx
  have HOK := Lib.hid (HOk.out hx0)
  have HY := Lib.hid (HYes.out hx0)
  rw [HY.out.1] at ho2
  have O2 := Lib.hid (ho2.lower (B' := w.heap.size + 1) hlt)
  clear hx hx0 ho2 hlt
  generalize (areasG s).1 = x1 at O2 HY HOK
  have hx2e := HOK.out.2.2.1
  have HX2 := Lib.hid hx2e
  clear hx2e
  generalize (areasG s).2.1 = x2 at HY HOK HX2
  have HM5 := Lib.hid (show (headB s ++ areaB s.ve x1).length ≤ 4008 by
    have := areaB_len s.ve x1
    have := HL1.out
    rw [← HOK.out.2.1] at this
    simp only [List.length_append, headB, List.length_cons, List.length_nil]
    omega)
  have HM6 := Lib.hid (show (headB s ++ areaB s.ve x1 ++ areaB s.ve x2).length ≤ 8012 by
    have := areaB_len s.ve x2
    have h2 := HL2.out
    rw [← HOK.out.2.2.1] at h2
    have := HM5.out
    rw [List.length_append]
    omega)
  have HX := Lib.hid (show areaG s.ve (headB s ++ areaB s.ve x1) s.us = (headB s ++ areaB s.ve x1 ++ areaB s.ve x2, 0) by rw [HAG.out _ HOK.out.2.2.2.2, ← HX2.out])
  have hm2 : m2 ≤ 4008 := Nat.le_trans (Nat.le_of_eq O2.out.2.symm) HM5.out
  have HP := Lib.hid (HAr.out w2 A2 m2 c2 _ H2.out.B O2.out.bs (by omega))
  rw [HX.out] at HP
  have k0 : w2.cell? ⟨w.heap.size, 0, none⟩ = some (.int .i64 s.ve) := H2.out.cell 0
  have k5 : w2.cell? ⟨w.heap.size, 5, none⟩ = some (.slice a.A5 a.n5 a.c5) := H2.out.cell 5
  go_upto_region 5 with (go_at_call 39; refine HP.out.mono ?_; rintro e w3 ⟨A3, m3, c3, q3, rfl, ho3, hq3, hb3⟩)
  have H3 := Lib.hid (H2.out.below hb3)
  have ho3b := ho3.lower (B' := w.heap.size + 1) H2.out.lt
  have hm3 : m3 ≤ 8012 := Nat.le_trans (Nat.le_of_eq ho3.2.symm) HM6.out
  clear hq3 hb3 ho3 k0 k5 HP
  have hls := fun W => left_slice W w.heap.size 6
  have hlf := H3.out.left
  go_upto_region 6 with (at_builtin; refine app8 (.tmp 23) (.tmp 25) rfl rfl rfl ho3b rfl hlf (by omega) H3.out.lt ?_; intro A4 c4 w4 ho4 hg4 hat4)
  have H4 := Lib.hid (H3.out.app ho3b (Nat.lt_succ_self _) hg4)
  rw [show headB s ++ areaB s.ve x1 ++ areaB s.ve x2 ++ [s.l0, s.l1] = preG s x1 x2 from rfl] at ho4
  clear hls hlf ho3b hg4 hat4
  have HN8 := Lib.hid HH.out.h8.2
  have HR := Lib.hid HY.out.2
  have k0 : w4.cell? ⟨w.heap.size, 0, none⟩ = some (.int .i64 s.ve) := H4.out.cell 0
  go_upto_if 29 with fail
  clear k0
  go_cut [4] from 6 (fun v wx => ∃ A m c, v = .slice A m c ∧ m ≤ 8100 ∧ Own wx (w.heap.size + 1) A m c (preG s x1 x2 ++ saltG s) ∧ Box w wx 27 (sigC s a))
  case first =>
    by_cases h6 : s.ve = 6
    rotate_left
    · have d6 : (s.ve == 6) = false := beq_eq_false_iff_ne.2 h6
      have HG := Lib.hid (show saltG s = [] by rw [saltG, if_neg h6])
      rw [d6]
      have HO := Lib.hid ho4
      clear h6 d6 ho4
      go_wp2_with fail
      go_meet
      exact ⟨A4, _, c4, rfl, by omega, by rw [HG.out, List.append_nil]; exact HO.out, H4.out⟩
    have d6 : (s.ve == 6) = true := beq_iff_eq.2 h6
    have hs8 : a.n8 ≤ 32 := by have := saltS_ve6 HOK.out.1 h6; have := HN8.out; omega
    have HG := Lib.hid (show preG s x1 x2 ++ [UInt8.ofNat a.n8] ++ s.salt = preG s x1 x2 ++ saltG s by rw [saltG, if_pos h6, HN8.out, List.append_assoc]; rfl)
    have m5 : IntKind.u8.wrap (a.n8 : Int) = (a.n8 : Int) := by rw [IntKind.wrap_u8']; omega
    have m4 : (a.n8 : Int) % 256 = (a.n8 : Int) := by omega
    have HBV := Lib.hid (show (#[Value.int .u8 (a.n8 : Int)] : Array Value).toList = bvs [UInt8.ofNat a.n8] by simp [bv, show a.n8 % 256 = a.n8 by omega])
    rw [d6]
    clear h6 d6
    have k8 : w4.cell? ⟨w.heap.size, 8, none⟩ = some (.slice a.A8 a.n8 a.c8) := H4.out.cell 8
    have hsz4 := H4.out.lt
    go_upto_region 8 with (at_builtin; refine app8_one (.tmp 30) (.tmp 35) rfl rfl rfl ho4 [UInt8.ofNat a.n8] _ HBV.out 1 rfl rfl (by omega) hsz4 ?_; intro A5 c5 w5 ho5 hg5 hat5)
    have H5 := Lib.hid (H4.out.app ho4 (Nat.lt_succ_self _) hg5)
    have hb5 := H5.out.bs HH.out.h8
    clear k8 m5 m4 hg5 hat5 hsz4
    have k8 : w5.cell? ⟨w.heap.size, 8, none⟩ = some (.slice a.A8 a.n8 a.c8) := H5.out.cell 8
    go_wp2_with (at_builtin; refine app8 (.tmp 37) (.tmp 39) rfl rfl rfl ho5 rfl hb5 (by omega) H5.out.lt ?_; intro A6 c6 w6 ho6 hg6 hat6)
    go_meet
    exact ⟨A6, _, c6, rfl, by omega, by rw [← HG.out]; exact ho6, H5.out.app ho5 (Nat.lt_succ_self _) hg6⟩
  clear ho4
  obtain ⟨A9, m9, c9, rfl, hm9, ho9, H9⟩ := hcut
  have HV := Lib.hid (val_ok HOK.out.1)
  have HPu := Lib.hid (pub_two HOK.out.1)
  have hv := H9.bs HH.out.h9
  have hn9 : a.n9 ≤ 90000 := by have := HH.out.h9.2; have := HLL.out.l9; omega
  have k2 : wc.cell? ⟨w.heap.size, 2, none⟩ = some (.int .i64 s.pu) := H9.cell 2
  have k9 : wc.cell? ⟨w.heap.size, 9, none⟩ = some (.slice a.A9 a.n9 a.c9) := H9.cell 9
  by_cases hp : s.pu = 27
  · have d1 : (s.pu == 1) = false := beq_eq_false_iff_ne.2 (by omega)
    have HG := Lib.hid (show valG s = s.value by rw [valG, if_pos hp])
    have HH9 := Lib.hid H9
    clear hp H9
    go_wp2_with (at_builtin; refine app8 (.tmp 51) (.tmp 53) rfl rfl rfl ho9 rfl hv (by omega) HH9.out.lt ?_; intro A10 c10 w10 ho10 hg10 hat10)
    go_ret2
    unfold HashedPost
    rw [HR.out, HG.out]
    exact ⟨A10, _, c10, 0, rfl, ho10.lower (Nat.le_succ _), rfl, (HH9.out.app ho9 (Nat.lt_succ_self _) hg10).B⟩
  have d1 : (s.pu == 1) = true := beq_iff_eq.2 (HPu.out.resolve_right hp)
  have HG := Lib.hid (show valG s = be 2 (nbits (nb s.value)) ++ bytesN (nb s.value) by rw [valG, if_neg hp])
  have HVO := Lib.hid (show nbits (nb s.value) ≤ 16384 by
    have := HV.out
    rw [valOk, if_neg hp, Bool.and_eq_true] at this
    exact of_decide_eq_true this.2)
  have HH9 := Lib.hid H9
  have HO9 := Lib.hid ho9
  have HRd := Lib.hid (rRead_calls hv (by omega))
  clear hp H9 ho9 hv
  go_wp2_with fail
  refine HRd.out.mono ?_
  rintro e w10 ⟨A10, m10, c10, xs, rfl, hr10, hlo, htr, hnum, hA10, hm10, hb10⟩
  have hP := rmPut_calls (HO9.out.bs.below hb10) (by omega) hr10 hlo (by omega)
  rw [hnum, show mputS (preG s x1 x2 ++ saltG s) (nb s.value) = (preG s x1 x2 ++ saltG s ++ be 2 (nbits (nb s.value)) ++ bytesN (nb s.value), 0) by rw [mputS, if_neg (by have := HVO.out; omega)]] at hP
  have HP2 := Lib.hid hP
  have HB := Lib.hid (HH9.out.below hb10)
  clear hP hr10 hlo htr hnum hA10 hm10 hb10
  go_wp2_with fail
  refine HP2.out.mono ?_
  rintro e w11 ⟨A11, m11, c11, r11, rfl, ho11, hr11, hb11⟩
  obtain rfl : r11 = 0 := hr11
  go_wp2
  go_ret2
  unfold HashedPost
  rw [HR.out, HG.out]
  exact ⟨A11, _, c11, 0, rfl, by have := ho11.lower HB.out.B.size; rw [List.append_assoc] at this; exact this, rfl, (HB.out.below hb11).B⟩

end Go.Proofs.Ytjbnoamoadaknaa
end
