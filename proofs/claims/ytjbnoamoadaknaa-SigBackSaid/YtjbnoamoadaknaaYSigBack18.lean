import Derived.Test.YtjbnoamoadaknaaYSigBack17
/- Signatures: sig.put, areas, begin, Hashed. -/
section
namespace Go.Proofs.Ytjbnoamoadaknaa
open Go.RowKit

/-- A signature whose areas are few and short. -/
structure SigL (s : SigV) : Prop where
  l4 : s.hs.length ≤ 500
  b4 : ∀ x ∈ s.hs, x.2.2.length ≤ 100000
  l5 : s.us.length ≤ 500
  b5 : ∀ x ∈ s.us, x.2.2.length ≤ 100000
  l8 : s.salt.length ≤ 1000
  l9 : s.value.length ≤ 90000
theorem wid_put (l x : List UInt8) (v : Int) (hx : x.length ≤ 60000) : (putS l x.length (widS v : Nat)).1 = l ++ be (widS v) x.length := by
  have hw : (widS v = 4 ∨ widS v = 2) := by unfold widS; split <;> simp
  unfold putS
  rcases hw with h | h <;> rw [h]
  · rw [if_pos ⟨by omega, by omega, by simp; omega⟩]; rfl
  · rw [if_pos ⟨by omega, by omega, by simp; omega⟩]; rfl
theorem areaB_len (v : Int) (x : List UInt8) : (areaB v x).length ≤ x.length + 4 := by
  have hw : widS v ≤ 4 := by unfold widS; split <;> omega
  rw [areaB, List.length_append, be_length]; omega

set_option maxRecDepth 100000 in
set_option maxHeartbeats 1600000 in
theorem put_calls_ (v : Int) {A D : Option Addr} {n c m d : Nat} {l x : List UInt8} {w : World} (h : Bs w A n c l) (hn : n ≤ 1000000) (g : Bs w D m d x) (hm : m ≤ 60000) :
    Calls Try.prog 34 #[.slice A n c, .slice D m d, .int .i64 v] w fun e w' => ∃ A' m' c', e = .returned (.slice A' m' c') ∧ Own w' w.heap.size A' m' c' (l ++ areaB v x) ∧ Below w.heap.size w w' := by
  have HW := Lib.hid (fun W => width_calls v W)
  have hx := g.2
  have HE := Lib.hid (wid_put l x v (by omega))
  have hP := Put_any h (by omega) m (by omega) (widS v : Nat)
  rw [← hx, HE.out, hx] at hP
  have HP := Lib.hid hP
  have HX := Lib.hid (show l ++ be (widS v) x.length ++ x = l ++ areaB v x by rw [areaB, List.append_assoc])
  have hw8 : (m : Int) % 18446744073709551616 = (m : Int) := by omega
  have hlen : (l ++ be (widS v) x.length).length ≤ 2000000 := by
    have hw : widS v ≤ 4 := by unfold widS; split <;> omega
    rw [List.length_append, be_length, h.2]; omega
  have HL := Lib.hid hlen
  have HXL := Lib.hid hx
  clear hP hx hlen
  generalize widS v = wd at HW HP HE HX HL
  go_enter Try.func34, Try.ntmps34
  go_upto_region 2 with (first
    | (go_at_call 64; refine HP.out.mono ?_; rintro e w1 ⟨A1, m1, c1, r1, rfl, ho1, hr1, hb1⟩)
    | (go_at_call 55; refine (HW.out _).mono ?_; rintro e wq ⟨rfl, rfl⟩))
  have g1 := g.below hb1
  have hm1 : m1 ≤ 2000000 := by rw [← ho1.2, ← HXL.out]; exact HL.out
  go_wp2_with (at_builtin; refine app8 (.tmp 19) (.tmp 20) rfl rfl rfl ho1 rfl g1 (by omega) hb1.size ?_; intro A2 c2 w2 ho2 hg2 hat2)
  go_ret
  refine ⟨A2, _, c2, rfl, by rw [← HX.out, HXL.out]; exact ho2, hb1.grown hg2 hb1.size (fun k e => ?_)⟩
  cases A1 with
  | none => cases e
  | some ad => cases e; exact (ho1.blk _ rfl).1

def AreasPost (x : List UInt8 × List UInt8 × Int) (w : World) (e : Ending) (w' : World) : Prop := ∃ A1 m1 c1 A2 m2 c2 r, e = .returned (.tuple #[.slice A1 m1 c1, .slice A2 m2 c2, .int .i64 r]) ∧ Own w' w.heap.size A1 m1 c1 x.1 ∧ Own w' w.heap.size A2 m2 c2 x.2.1 ∧ r = x.2.2 ∧ Below w.heap.size w w'
set_option maxRecDepth 100000 in
set_option maxHeartbeats 3200000 in
theorem areas_calls {s : SigV} {a : SigA} {w : World} (h : SigR w s a) (hL : SigL s) :
    Calls Try.prog 33 #[.agg (sigC s a)] w (AreasPost (areasG s) w) := by
  go_enter Try.func33, Try.ntmps33
  go_upto_region 1 with fail
  go_name_world w1 hw1
  have H1 : Box w w1 27 (sigC s a) := Box.mk_ hw1
  clear hw1
  have k0 : w1.cell? ⟨w.heap.size, 0, none⟩ = some (.int .i64 s.ve) := H1.cell 0
  have k1 : w1.cell? ⟨w.heap.size, 1, none⟩ = some (.int .i64 s.ty) := H1.cell 1
  have k2 : w1.cell? ⟨w.heap.size, 2, none⟩ = some (.int .i64 s.pu) := H1.cell 2
  have k3 : w1.cell? ⟨w.heap.size, 3, none⟩ = some (.int .i64 s.ha) := H1.cell 3
  have k4 : w1.cell? ⟨w.heap.size, 4, none⟩ = some (.slice a.A4 a.n4 a.c4) := H1.cell 4
  have k5 : w1.cell? ⟨w.heap.size, 5, none⟩ = some (.slice a.A5 a.n5 a.c5) := H1.cell 5
  have k6 : w1.cell? ⟨w.heap.size, 6, none⟩ = some (.int .u8 (s.l0.toNat : Int)) := H1.cell 6
  have k7 : w1.cell? ⟨w.heap.size, 7, none⟩ = some (.int .u8 (s.l1.toNat : Int)) := H1.cell 7
  have k8 : w1.cell? ⟨w.heap.size, 8, none⟩ = some (.slice a.A8 a.n8 a.c8) := H1.cell 8
  have k9 : w1.cell? ⟨w.heap.size, 9, none⟩ = some (.slice a.A9 a.n9 a.c9) := H1.cell 9
  have HA := Lib.hid (show areasG s = if mayG s = false ∨ (emitF s.hs).2 = 1 ∨ (emitF s.us).2 = 1 then ([], [], 1) else if (emitF s.hs).2 ≠ 0 ∨ (emitF s.us).2 ≠ 0 then ([], [], 4) else ((emitF s.hs).1, (emitF s.us).1, 0) from rfl)
  have hh := h.h4.1
  have hu := h.h5.1
  have he1 := emitF_err s.hs
  have he2 := emitF_err s.us
  have HE1 := Lib.hid (fun W (hW : Below w.heap.size w W) => Emit_calls (c := a.c4) (h.h4.below hW) (by have := hL.l4; omega) hL.b4)
  have HE2 := Lib.hid (fun W (hW : Below w.heap.size w W) => Emit_calls (c := a.c5) (h.h5.below hW) (by have := hL.l5; omega) hL.b5)
  have HMy := Lib.hid (fun W (hW : Below w.heap.size w W) => may_calls (s := s) (a := a) (h.below hW) (by have := hL.l9; have := h.h9.2; omega))
  generalize emitF s.hs = X1 at HA HE1 he1
  generalize emitF s.us = X2 at HA HE2 he2
  generalize mayG s = my at HA HMy
  obtain ⟨b1, r1⟩ := X1
  obtain ⟨b2, r2⟩ := X2
  simp only at HA HE1 HE2 he1 he2
  have HH1 := Lib.hid H1
  clear h hh hu H1
  go_upto_region 2 with (go_at_call 57; refine (HE1.out w1 HH1.out.B).mono ?_; rintro e w2 ⟨A2, m2, c2, q2, rfl, ho2, hq2, hb2⟩; have E2 := Lib.hid hq2; clear hq2)
  have H2 := Lib.hid (HH1.out.below hb2)
  have hlt1 := HH1.out.B.size
  clear k0 k1 k2 k3 k4 k5 k6 k7 k8 k9
  have k5 : w2.cell? ⟨w.heap.size, 5, none⟩ = some (.slice a.A5 a.n5 a.c5) := H2.out.cell 5
  go_upto_region 3 with (go_at_call 57; refine (HE2.out w2 H2.out.B).mono ?_; rintro e w3 ⟨A3, m3, c3, q3, rfl, ho3, hq3, hb3⟩; have E3 := Lib.hid hq3; clear hq3)
  have H3 := Lib.hid (H2.out.below hb3)
  have Ho2 := Lib.hid ((ho2.below hb3).lower hlt1)
  have Ho3 := Lib.hid (ho3.lower (Nat.le_trans hlt1 hb2.size))
  clear k5 ho2 ho3 hb2 hb3 hlt1
  have k0 : w3.cell? ⟨w.heap.size, 0, none⟩ = some (.int .i64 s.ve) := H3.out.cell 0
  have k1 : w3.cell? ⟨w.heap.size, 1, none⟩ = some (.int .i64 s.ty) := H3.out.cell 1
  have k2 : w3.cell? ⟨w.heap.size, 2, none⟩ = some (.int .i64 s.pu) := H3.out.cell 2
  have k3 : w3.cell? ⟨w.heap.size, 3, none⟩ = some (.int .i64 s.ha) := H3.out.cell 3
  have k4 : w3.cell? ⟨w.heap.size, 4, none⟩ = some (.slice a.A4 a.n4 a.c4) := H3.out.cell 4
  have k5 : w3.cell? ⟨w.heap.size, 5, none⟩ = some (.slice a.A5 a.n5 a.c5) := H3.out.cell 5
  have k6 : w3.cell? ⟨w.heap.size, 6, none⟩ = some (.int .u8 (s.l0.toNat : Int)) := H3.out.cell 6
  have k7 : w3.cell? ⟨w.heap.size, 7, none⟩ = some (.int .u8 (s.l1.toNat : Int)) := H3.out.cell 7
  have k8 : w3.cell? ⟨w.heap.size, 8, none⟩ = some (.slice a.A8 a.n8 a.c8) := H3.out.cell 8
  have k9 : w3.cell? ⟨w.heap.size, 9, none⟩ = some (.slice a.A9 a.n9 a.c9) := H3.out.cell 9
  go_wp2_with fail
  refine (HMy.out w3 H3.out.B).mono ?_
  rintro e w4 ⟨rfl, hb4⟩
  have H4 := Lib.hid (H3.out.below hb4)
  have P2 := Lib.hid (Ho2.out.below hb4)
  have P3 := Lib.hid (Ho3.out.below hb4)
  clear k0 k1 k2 k3 k4 k5 k6 k7 k8 k9 hb4
  cases my with
  | false =>
    have HR := Lib.hid (show areasG s = ([], [], 1) by rw [HA.out, if_pos (.inl rfl)])
    go_wp2
    go_ret3
    unfold AreasPost
    rw [HR.out]
    exact ⟨_, _, _, _, _, _, _, rfl, Own.nil_ _ _, Own.nil_ _ _, rfl, H4.out.B⟩
  | true =>
    by_cases x1 : q2 = 1
    · have d1 : (q2 == 1) = true := beq_iff_eq.2 x1
      have HR := Lib.hid (show areasG s = ([], [], 1) by rw [HA.out, if_pos (.inr (.inl (by rw [← E2.out]; exact x1)))])
      clear x1
      go_wp2
      go_ret3
      unfold AreasPost
      rw [HR.out]
      exact ⟨_, _, _, _, _, _, _, rfl, Own.nil_ _ _, Own.nil_ _ _, rfl, H4.out.B⟩
    have d1 : (q2 == 1) = false := beq_eq_false_iff_ne.2 x1
    by_cases x2 : q3 = 1
    · have d2 : (q3 == 1) = true := beq_iff_eq.2 x2
      have HR := Lib.hid (show areasG s = ([], [], 1) by rw [HA.out, if_pos (.inr (.inr (by rw [← E3.out]; exact x2)))])
      clear x1 x2
      go_wp2
      go_ret3
      unfold AreasPost
      rw [HR.out]
      exact ⟨_, _, _, _, _, _, _, rfl, Own.nil_ _ _, Own.nil_ _ _, rfl, H4.out.B⟩
    have d2 : (q3 == 1) = false := beq_eq_false_iff_ne.2 x2
    have HB := Lib.hid (show areasG s = if r1 ≠ 0 ∨ r2 ≠ 0 then ([], [], 4) else (b1, b2, 0) by rw [HA.out, if_neg (fun h => by rcases h with h | h | h; (· cases h); (· exact x1 (by rw [E2.out]; exact h)); exact x2 (by rw [E3.out]; exact h))])
    clear x1 x2
    by_cases x3 : q2 = 0
    rotate_left
    · have d3 : (q2 != 0) = true := by rw [bne_iff_ne]; exact x3
      have HR := Lib.hid (show areasG s = ([], [], 4) by rw [HB.out, if_pos (.inl (by rw [← E2.out]; exact x3))])
      clear x3
      go_wp2
      go_ret3
      unfold AreasPost
      rw [HR.out]
      exact ⟨_, _, _, _, _, _, _, rfl, Own.nil_ _ _, Own.nil_ _ _, rfl, H4.out.B⟩
    have d3 : (q2 != 0) = false := by rw [bne_eq_false_iff_eq]; exact x3
    by_cases x4 : q3 = 0
    rotate_left
    · have d4 : (q3 != 0) = true := by rw [bne_iff_ne]; exact x4
      have HR := Lib.hid (show areasG s = ([], [], 4) by rw [HB.out, if_pos (.inr (by rw [← E3.out]; exact x4))])
      clear x3 x4
      go_wp2
      go_ret3
      unfold AreasPost
      rw [HR.out]
      exact ⟨_, _, _, _, _, _, _, rfl, Own.nil_ _ _, Own.nil_ _ _, rfl, H4.out.B⟩
    have d4 : (q3 != 0) = false := by rw [bne_eq_false_iff_eq]; exact x4
    have HR := Lib.hid (show areasG s = (b1, b2, 0) by rw [HB.out, if_neg (fun h => by rcases h with h | h; (· exact h (by rw [← E2.out]; exact x3)); exact h (by rw [← E3.out]; exact x4))])
    clear x3 x4
    go_wp2
    go_ret3
    unfold AreasPost
    rw [HR.out]
    exact ⟨_, _, _, _, _, _, _, rfl, P2.out, P3.out, rfl, H4.out.B⟩
end Go.Proofs.Ytjbnoamoadaknaa
end
