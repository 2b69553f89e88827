import Derived.Test.YtjbnoamoadaknaaYSigBack18
import Derived.Deep.RegionHeldLaw
/- Signatures: sig.begin, Hashed, Emit. -/
section
namespace Go.Proofs.Ytjbnoamoadaknaa
open Go.RowKit

theorem areasG_ok {s : SigV} (h : (areasG s).2.2 = 0) : mayG s = true ∧ (areasG s).1 = (emitF s.hs).1 ∧ (areasG s).2.1 = (emitF s.us).1 ∧ (emitF s.hs).2 = 0 ∧ (emitF s.us).2 = 0 := by
  unfold areasG at h ⊢
  by_cases h1 : mayG s = false ∨ (emitF s.hs).2 = 1 ∨ (emitF s.us).2 = 1
  · rw [if_pos h1] at h; simp at h
  · rw [if_neg h1] at h ⊢
    by_cases h2 : (emitF s.hs).2 ≠ 0 ∨ (emitF s.us).2 ≠ 0
    · rw [if_pos h2] at h; simp at h
    · rw [if_neg h2]
      refine ⟨?_, rfl, rfl, Classical.not_not.1 fun h => h2 (.inl h), Classical.not_not.1 fun h => h2 (.inr h)⟩
      cases hm : mayG s with
      | true => rfl
      | false => exact absurd (.inl hm) h1
theorem areasG_no {s : SigV} (h : (areasG s).2.2 ≠ 0) : hashedG s = ([], (areasG s).2.2) ∧ emitG s = ([], (areasG s).2.2) := ⟨by rw [hashedG, if_pos h], by rw [emitG, if_pos h]⟩
theorem mayG_nat {s : SigV} (h : mayG s = true) : (s.ve = 4 ∨ s.ve = 6) ∧ (0 ≤ s.ty ∧ s.ty ≤ 255) ∧ (0 ≤ s.pu ∧ s.pu ≤ 255) ∧ (0 ≤ s.ha ∧ s.ha ≤ 255) := by
  simp only [mayG, Bool.and_eq_true, decide_eq_true_eq] at h
  obtain ⟨⟨⟨⟨⟨⟨h1, h2⟩, h3⟩, h4⟩, h5⟩, _⟩, _⟩ := h
  exact ⟨ver_nat h1, ⟨h2, h3⟩, pub_nat h4, may_nat h5⟩
theorem bvs4 (k a b c : Nat) (hk : k ≤ 255) (ha : a ≤ 255) (hb : b ≤ 255) (hc : c ≤ 255) : (#[Value.int .u8 (k : Int), .int .u8 (a : Int), .int .u8 (b : Int), .int .u8 (c : Int)] : Array Value).toList = bvs [UInt8.ofNat k, UInt8.ofNat a, UInt8.ofNat b, UInt8.ofNat c] := by
  have h1 : k % 256 = k := by omega
  have h2 : a % 256 = a := by omega
  have h3 : b % 256 = b := by omega
  have h4 : c % 256 = c := by omega
  simp [bv, h1, h2, h3, h4]
/-- The four numbers ahead. -/
theorem head_nats {s : SigV} (h : mayG s = true) : ∃ v t p k : Nat, s.ve % 256 = (v : Int) ∧ s.ty % 256 = (t : Int) ∧ s.pu % 256 = (p : Int) ∧ s.ha % 256 = (k : Int) ∧ headB s = [UInt8.ofNat v, UInt8.ofNat t, UInt8.ofNat p, UInt8.ofNat k] ∧ v ≤ 255 ∧ t ≤ 255 ∧ p ≤ 255 ∧ k ≤ 255 := by
  obtain ⟨h1, h2, h3, h4⟩ := mayG_nat h
  refine ⟨s.ve.toNat, s.ty.toNat, s.pu.toNat, s.ha.toNat, by omega, by omega, by omega, by omega, rfl, by omega, by omega, by omega, by omega⟩

set_option maxRecDepth 100000 in
set_option maxHeartbeats 1600000 in
theorem begin_calls {s : SigV} {a : SigA} {D : Option Addr} {m d : Nat} {x : List UInt8} {w : World} (g : Bs w D m d x) (hm : m ≤ 60000) (hmay : mayG s = true) :
    Calls Try.prog 35 #[.agg (sigC s a), .slice D m d] w fun e w' => ∃ A' m' c', e = .returned (.slice A' m' c') ∧ Own w' w.heap.size A' m' c' (headB s ++ areaB s.ve x) ∧ Below w.heap.size w w' := by
  obtain ⟨v, t, p, k, e1, e2, e3, e4, hh, b1, b2, b3, b4⟩ := head_nats hmay
  have HL := Lib.hid (bvs4 v t p k b1 b2 b3 b4)
  have HH := Lib.hid hh
  clear b1 b2 b3 b4 hh hmay
  go_enter Try.func35, Try.ntmps35
  go_upto_region 1 with fail
  go_name_world w1 hw1
  have H1 : Box w w1 27 (sigC s a) := Box.mk_ hw1
  clear hw1
  have k0 : w1.cell? ⟨w.heap.size, 0, none⟩ = some (.int .i64 s.ve) := H1.cell 0
  have k1 : w1.cell? ⟨w.heap.size, 1, none⟩ = some (.int .i64 s.ty) := H1.cell 1
  have k2 : w1.cell? ⟨w.heap.size, 2, none⟩ = some (.int .i64 s.pu) := H1.cell 2
  have k3 : w1.cell? ⟨w.heap.size, 3, none⟩ = some (.int .i64 s.ha) := H1.cell 3
  have ho := own_lit w1 #[.int .u8 (v : Int), .int .u8 (t : Int), .int .u8 (p : Int), .int .u8 (k : Int)] _ HL.out 4 rfl (by omega)
  have hb := (Below.refl w1.heap.size w1).alloc (Nat.le_refl _) (.cells #[.int .u8 (v : Int), .int .u8 (t : Int), .int .u8 (p : Int), .int .u8 (k : Int)] 5)
  have g1 := (H1.bs g).below hb
  have c0 : (w1.alloc (.cells #[.int .u8 (v : Int), .int .u8 (t : Int), .int .u8 (p : Int), .int .u8 (k : Int)] 5)).cell? ⟨w.heap.size, 0, none⟩ = some (.int .i64 s.ve) := (H1.alloc_ _).cell 0
  have HP := Lib.hid (put_calls_ s.ve ho.bs (by omega) g1 hm)
  have HB := Lib.hid (below_then H1.B H1.B.size hb)
  clear ho hb g1 H1
  go_wp2_with (go_at_call 34; refine HP.out.mono ?_; rintro e w2 ⟨A2, m2, c2, rfl, ho2, hb2⟩)
  go_ret
  exact ⟨A2, m2, c2, rfl, by rw [HH.out]; exact ho2.lower HB.out.size, below_then HB.out HB.out.size hb2⟩

def HashedPost (x : List UInt8 × Int) (w : World) (e : Ending) (w' : World) : Prop := ∃ A' m' c' r, e = .returned (.tuple #[.slice A' m' c', .int .i64 r]) ∧ Own w' w.heap.size A' m' c' x.1 ∧ r = x.2 ∧ Below w.heap.size w w'
set_option maxRecDepth 100000 in
set_option maxHeartbeats 1600000 in
theorem Hashed_calls {s : SigV} {a : SigA} {w : World} (h : SigR w s a) (hL : SigL s) :
    Calls Try.prog 13 #[.agg (sigC s a)] w (HashedPost (hashedG s) w) := by
  go_enter Try.func13, Try.ntmps13
  go_upto_region 1 with fail
  go_name_world w1 hw1
  have H1 : Box w w1 27 (sigC s a) := Box.mk_ hw1
  clear hw1
  have k0 : w1.cell? ⟨w.heap.size, 0, none⟩ = some (.int .i64 s.ve) := H1.cell 0
  have k1 : w1.cell? ⟨w.heap.size, 1, none⟩ = some (.int .i64 s.ty) := H1.cell 1
  have k2 : w1.cell? ⟨w.heap.size, 2, none⟩ = some (.int .i64 s.pu) := H1.cell 2
  have k3 : w1.cell? ⟨w.heap.size, 3, none⟩ = some (.int .i64 s.ha) := H1.cell 3
  have k4 : w1.cell? ⟨w.heap.size, 4, none⟩ = some (.slice a.A4 a.n4 a.c4) := H1.cell 4
  have k5 : w1.cell? ⟨w.heap.size, 5, none⟩ = some (.slice a.A5 a.n5 a.c5) := H1.cell 5
  have k6 : w1.cell? ⟨w.heap.size, 6, none⟩ = some (.int .u8 (s.l0.toNat : Int)) := H1.cell 6
  have k7 : w1.cell? ⟨w.heap.size, 7, none⟩ = some (.int .u8 (s.l1.toNat : Int)) := H1.cell 7
  have k8 : w1.cell? ⟨w.heap.size, 8, none⟩ = some (.slice a.A8 a.n8 a.c8) := H1.cell 8
  have k9 : w1.cell? ⟨w.heap.size, 9, none⟩ = some (.slice a.A9 a.n9 a.c9) := H1.cell 9
  have HA := Lib.hid (fun W (hW : Below w.heap.size w W) => areas_calls (a := a) (h.below hW) hL)
  unfold AreasPost at HA
  have hno := fun h => areasG_no (s := s) h
  have hok := fun h => areasG_ok (s := s) h
  have hl1 := emitF_len s.hs
  have hl2 := emitF_len s.us
  have hyes : (areasG s).2.2 = 0 → hashedG s = (headB s ++ areaB s.ve (areasG s).1, 0) := fun h => by rw [hashedG, if_neg (fun hn => hn h)] <;> rfl
  generalize areasG s = X at HA hno hok hyes
  obtain ⟨x1, x2, xe⟩ := X
  simp only at HA hno hok hyes
  have HNo := Lib.hid hno
  have HOk := Lib.hid hok
  have HYes := Lib.hid hyes
  have HL1 := Lib.hid hl1
  have HL2 := Lib.hid hl2
  clear hno hok hyes hl1 hl2
  have HH1 := Lib.hid H1
  clear H1
  go_upto_region 2 with (go_at_call 33; refine (HA.out w1 HH1.out.B).mono ?_; rintro e w2 ⟨A2, m2, c2, A3, m3, c3, q, rfl, ho2, ho3, hq, hb2⟩; have HQ := Lib.hid hq; clear hq)
  have H2 := Lib.hid (HH1.out.below hb2)
  have O2 := Lib.hid ho2
  have O3 := Lib.hid ho3
  have HS := Lib.hid HH1.out.lt
  clear k0 k1 k2 k3 k4 k5 k6 k7 k8 k9 hb2 ho2 ho3
  by_cases hx : q = 0
  rotate_left
  · have d1 : (q != 0) = true := by rw [bne_iff_ne]; exact hx
    have HR := Lib.hid (show hashedG s = ([], q) by rw [(HNo.out (by rw [← HQ.out]; exact hx)).1, HQ.out])
    clear hx
    go_wp2
    go_ret2
    unfold HashedPost
    rw [HR.out]
    exact ⟨_, _, _, _, rfl, Own.nil_ _ _, rfl, H2.out.B⟩
  have d1 : (q != 0) = false := by rw [bne_eq_false_iff_eq]; exact hx
  have hx0 : xe = 0 := by rw [← HQ.out]; exact hx
  have HOK := Lib.hid (HOk.out hx0)
  have HR := Lib.hid (HYes.out hx0)
  clear hx hx0
  have k0 : w2.cell? ⟨w.heap.size, 0, none⟩ = some (.int .i64 s.ve) := H2.out.cell 0
  have k1 : w2.cell? ⟨w.heap.size, 1, none⟩ = some (.int .i64 s.ty) := H2.out.cell 1
  have k2 : w2.cell? ⟨w.heap.size, 2, none⟩ = some (.int .i64 s.pu) := H2.out.cell 2
  have k3 : w2.cell? ⟨w.heap.size, 3, none⟩ = some (.int .i64 s.ha) := H2.out.cell 3
  have k4 : w2.cell? ⟨w.heap.size, 4, none⟩ = some (.slice a.A4 a.n4 a.c4) := H2.out.cell 4
  have k5 : w2.cell? ⟨w.heap.size, 5, none⟩ = some (.slice a.A5 a.n5 a.c5) := H2.out.cell 5
  have k6 : w2.cell? ⟨w.heap.size, 6, none⟩ = some (.int .u8 (s.l0.toNat : Int)) := H2.out.cell 6
  have k7 : w2.cell? ⟨w.heap.size, 7, none⟩ = some (.int .u8 (s.l1.toNat : Int)) := H2.out.cell 7
  have k8 : w2.cell? ⟨w.heap.size, 8, none⟩ = some (.slice a.A8 a.n8 a.c8) := H2.out.cell 8
  have k9 : w2.cell? ⟨w.heap.size, 9, none⟩ = some (.slice a.A9 a.n9 a.c9) := H2.out.cell 9
  go_wp2_with (go_at_call 35; refine (begin_calls O2.out.bs (by have := O2.out.2; have := HL1.out; rw [← HOK.out.2.1] at this; omega) HOK.out.1).mono ?_; rintro e w3 ⟨A4, m4, c4, rfl, ho4, hb4⟩)
  go_ret2
  unfold HashedPost
  rw [HR.out]
  exact ⟨_, _, _, _, rfl, ho4.lower H2.out.B.size, rfl, (H2.out.below hb4).B⟩

/-- The bytes ahead of the salt. -/
def preG (s : SigV) (x1 x2 : List UInt8) : List UInt8 := headB s ++ areaB s.ve x1 ++ areaB s.ve x2 ++ [s.l0, s.l1]
theorem preG_len (s : SigV) (x1 x2 : List UInt8) (h1 : x1.length ≤ 4000) (h2 : x2.length ≤ 4000) : (preG s x1 x2).length ≤ 8014 := by
  have := areaB_len s.ve x1
  have := areaB_len s.ve x2
  simp only [preG, List.length_append, headB, List.length_cons, List.length_nil]
  omega
theorem left_slice (W : World) (b o : Nat) : (Instr.sliceAt 25 (.pointer (some ⟨b, o, none⟩)) none none none).run Try.prog W = .ok (.slice (some ⟨b, o, none⟩) 2 2) W := by
  rw [run_sliceAt_array_all W 25 ⟨b, o, none⟩ (by kernel_rfl)]
  have hz : ∀ w, (sizeOf (Try.prog.elem 25)).run Try.prog w = .ok 1 w := fun w => by kernel_rfl
  have hl : Try.prog.arrayLen 25 = 2 := by kernel_rfl
  rw [hz, hl]
  rfl
/-- The left field reads as two bytes. -/
theorem Box.left {w W : World} {s : SigV} {a : SigA} (H : Box w W 27 (sigC s a)) : Bs W (some ⟨w.heap.size, 6, none⟩) 2 2 [s.l0, s.l1] := by
  have c0 : W.cell? ⟨w.heap.size, 6, none⟩ = some (.int .u8 (s.l0.toNat : Int)) := H.cell 6
  have c1 : W.cell? ⟨w.heap.size, 7, none⟩ = some (.int .u8 (s.l1.toNat : Int)) := H.cell 7
  refine ⟨⟨by simp, by simp [maxLen], fun _ => ⟨_, rfl, H.lt, fun j u hu => ?_⟩⟩, rfl⟩
  match j, hu with
  | 0, hu => injection hu with hu; subst hu; exact c0
  | 1, hu => injection hu with hu; subst hu; exact c1
  | j + 2, hu => simp at hu
theorem saltS_ve6 {s : SigV} (h : mayG s = true) (h6 : s.ve = 6) : s.salt.length ≤ 32 := by
  simp only [mayG, Bool.and_eq_true] at h
  have h1 := h.1.2
  rw [saltOk, if_neg (by omega)] at h1
  have := of_decide_eq_true h1
  have := saltS_range s.ha
  omega
theorem val_ok {s : SigV} (h : mayG s = true) : valOk s.pu s.value = true := by
  simp only [mayG, Bool.and_eq_true] at h
  exact h.2

set_option maxRecDepth 100000 in
set_option maxHeartbeats 3200000 in
theorem EmitG_calls {s : SigV} {a : SigA} {w : World} (h : SigR w s a) (hL : SigL s) :
    Calls Try.prog 10 #[.agg (sigC s a)] w (HashedPost (emitG s) w) := by
  go_enter Try.func10, Try.ntmps10
  go_upto_region 1 with fail
  go_name_world w1 hw1
  have H1 : Box w w1 27 (sigC s a) := Box.mk_ hw1
  clear hw1
  have k0 : w1.cell? ⟨w.heap.size, 0, none⟩ = some (.int .i64 s.ve) := H1.cell 0
  have k1 : w1.cell? ⟨w.heap.size, 1, none⟩ = some (.int .i64 s.ty) := H1.cell 1
  have k2 : w1.cell? ⟨w.heap.size, 2, none⟩ = some (.int .i64 s.pu) := H1.cell 2
  have k3 : w1.cell? ⟨w.heap.size, 3, none⟩ = some (.int .i64 s.ha) := H1.cell 3
  have k4 : w1.cell? ⟨w.heap.size, 4, none⟩ = some (.slice a.A4 a.n4 a.c4) := H1.cell 4
  have k5 : w1.cell? ⟨w.heap.size, 5, none⟩ = some (.slice a.A5 a.n5 a.c5) := H1.cell 5
  have k6 : w1.cell? ⟨w.heap.size, 6, none⟩ = some (.int .u8 (s.l0.toNat : Int)) := H1.cell 6
  have k7 : w1.cell? ⟨w.heap.size, 7, none⟩ = some (.int .u8 (s.l1.toNat : Int)) := H1.cell 7
  have k8 : w1.cell? ⟨w.heap.size, 8, none⟩ = some (.slice a.A8 a.n8 a.c8) := H1.cell 8
  have k9 : w1.cell? ⟨w.heap.size, 9, none⟩ = some (.slice a.A9 a.n9 a.c9) := H1.cell 9
  have HA := Lib.hid (fun W (hW : Below w.heap.size w W) => areas_calls (a := a) (h.below hW) hL)
  unfold AreasPost at HA
  have hno := fun h => areasG_no (s := s) h
  have hok := fun h => areasG_ok (s := s) h
  have hl1 := emitF_len s.hs
  have hl2 := emitF_len s.us
  have hyes : (areasG s).2.2 = 0 → emitG s = (preG s (areasG s).1 (areasG s).2.1 ++ saltG s ++ valG s, 0) := fun h => by rw [emitG, if_neg (fun hn => hn h)] <;> rfl
  generalize areasG s = X at HA hno hok hyes
  obtain ⟨x1, x2, xe⟩ := X
  simp only at HA hno hok hyes
  have HNo := Lib.hid hno
  have HOk := Lib.hid hok
  have HYes := Lib.hid hyes
  have HL1 := Lib.hid hl1
  have HL2 := Lib.hid hl2
  clear hno hok hyes hl1 hl2
  have HH1 := Lib.hid H1
  clear H1
  go_upto_region 2 with (go_at_call 33; refine (HA.out w1 HH1.out.B).mono ?_; rintro e w2 ⟨A2, m2, c2, A3, m3, c3, q, rfl, ho2, ho3, hq, hb2⟩; have HQ := Lib.hid hq; clear hq)
  have H2 := Lib.hid (HH1.out.below hb2)
  have O2 := Lib.hid ho2
  have O3 := Lib.hid ho3
  have HS := Lib.hid HH1.out.lt
  clear k0 k1 k2 k3 k4 k5 k6 k7 k8 k9 hb2 ho2 ho3
  by_cases hx : q = 0
  rotate_left
  · have d1 : (q != 0) = true := by rw [bne_iff_ne]; exact hx
    have HR := Lib.hid (show emitG s = ([], q) by rw [(HNo.out (by rw [← HQ.out]; exact hx)).2, HQ.out])
    clear hx
    go_wp2
    go_ret2
    unfold HashedPost
    rw [HR.out]
    exact ⟨_, _, _, _, rfl, Own.nil_ _ _, rfl, H2.out.B⟩
  have d1 : (q != 0) = false := by rw [bne_eq_false_iff_eq]; exact hx
  have hx0 : xe = 0 := by rw [← HQ.out]; exact hx
  have HOK := Lib.hid (HOk.out hx0)
  have HR := Lib.hid (HYes.out hx0)
  clear hx hx0
  have HM5 := Lib.hid (show (headB s ++ areaB s.ve x1).length ≤ 4008 by
    have := areaB_len s.ve x1
    have := HL1.out
    rw [← HOK.out.2.1] at this
    simp only [List.length_append, headB, List.length_cons, List.length_nil]
    omega)
  have HM6 := Lib.hid (show (headB s ++ areaB s.ve x1 ++ areaB s.ve x2).length ≤ 8012 by
    have := areaB_len s.ve x2
    have h2 := HL2.out
    rw [← HOK.out.2.2.1] at h2
    have := HM5.out
    rw [List.length_append]
    omega)
  have hx1 : m2 ≤ 60000 := by have := O2.out.2; have := HL1.out; rw [← HOK.out.2.1] at this; omega
  have hx2 : m3 ≤ 60000 := by have := O3.out.2; have := HL2.out; rw [← HOK.out.2.2.1] at this; omega
  have hls := fun W => left_slice W w.heap.size 6
  have hE0 := (Below.refl w2.heap.size w2).drew
  go_upto_region 4 with fail
  go_cut [7] from 8 (fun v wx => ∃ A m c, v = .slice A m c ∧ m ≤ 8014 ∧ Own wx (w.heap.size + 1) A m c (preG s x1 x2) ∧ Box w wx 27 (sigC s a))
  case first =>
    have T2 := Lib.hid (show (fun w' => w'.cell? ⟨w.heap.size, 0, none⟩ = some (.int .i64 s.ve) ∧ w'.cell? ⟨w.heap.size, 1, none⟩ = some (.int .i64 s.ty) ∧ w'.cell? ⟨w.heap.size, 2, none⟩ = some (.int .i64 s.pu) ∧ w'.cell? ⟨w.heap.size, 3, none⟩ = some (.int .i64 s.ha) ∧ w'.cell? ⟨w.heap.size, 4, none⟩ = some (.slice a.A4 a.n4 a.c4) ∧ w'.cell? ⟨w.heap.size, 5, none⟩ = some (.slice a.A5 a.n5 a.c5) ∧ w'.cell? ⟨w.heap.size, 6, none⟩ = some (.int .u8 (s.l0.toNat : Int)) ∧ w'.cell? ⟨w.heap.size, 7, none⟩ = some (.int .u8 (s.l1.toNat : Int)) ∧ w'.cell? ⟨w.heap.size, 8, none⟩ = some (.slice a.A8 a.n8 a.c8) ∧ w'.cell? ⟨w.heap.size, 9, none⟩ = some (.slice a.A9 a.n9 a.c9)) w2.drew from ⟨H2.out.drew.cell 0, H2.out.drew.cell 1, H2.out.drew.cell 2, H2.out.drew.cell 3, H2.out.drew.cell 4, H2.out.drew.cell 5, H2.out.drew.cell 6, H2.out.drew.cell 7, H2.out.drew.cell 8, H2.out.drew.cell 9⟩)
    go_region_held_law (fun w' => w'.cell? ⟨w.heap.size, 0, none⟩ = some (.int .i64 s.ve) ∧ w'.cell? ⟨w.heap.size, 1, none⟩ = some (.int .i64 s.ty) ∧ w'.cell? ⟨w.heap.size, 2, none⟩ = some (.int .i64 s.pu) ∧ w'.cell? ⟨w.heap.size, 3, none⟩ = some (.int .i64 s.ha) ∧ w'.cell? ⟨w.heap.size, 4, none⟩ = some (.slice a.A4 a.n4 a.c4) ∧ w'.cell? ⟨w.heap.size, 5, none⟩ = some (.slice a.A5 a.n5 a.c5) ∧ w'.cell? ⟨w.heap.size, 6, none⟩ = some (.int .u8 (s.l0.toNat : Int)) ∧ w'.cell? ⟨w.heap.size, 7, none⟩ = some (.int .u8 (s.l1.toNat : Int)) ∧ w'.cell? ⟨w.heap.size, 8, none⟩ = some (.slice a.A8 a.n8 a.c8) ∧ w'.cell? ⟨w.heap.size, 9, none⟩ = some (.slice a.A9 a.n9 a.c9)) (first | with_reducible exact T2.out | with_reducible exact T5.out | with_reducible exact T6.out | with_reducible exact T7.out) ((first
      | (refine step_app8 (.tmp 23) (.tmp 25) (by rfl) (by rfl) (by rfl) ho6 (by rfl) H6.out.left (by omega) H6.out.lt ?_; intro A7 c7 w7 ho7 hg7 hat7; have H7 := Lib.hid (H6.out.app ho6 (Nat.lt_succ_self _) hg7); have T7 := Lib.hid (show (fun w' => w'.cell? ⟨w.heap.size, 0, none⟩ = some (.int .i64 s.ve) ∧ w'.cell? ⟨w.heap.size, 1, none⟩ = some (.int .i64 s.ty) ∧ w'.cell? ⟨w.heap.size, 2, none⟩ = some (.int .i64 s.pu) ∧ w'.cell? ⟨w.heap.size, 3, none⟩ = some (.int .i64 s.ha) ∧ w'.cell? ⟨w.heap.size, 4, none⟩ = some (.slice a.A4 a.n4 a.c4) ∧ w'.cell? ⟨w.heap.size, 5, none⟩ = some (.slice a.A5 a.n5 a.c5) ∧ w'.cell? ⟨w.heap.size, 6, none⟩ = some (.int .u8 (s.l0.toNat : Int)) ∧ w'.cell? ⟨w.heap.size, 7, none⟩ = some (.int .u8 (s.l1.toNat : Int)) ∧ w'.cell? ⟨w.heap.size, 8, none⟩ = some (.slice a.A8 a.n8 a.c8) ∧ w'.cell? ⟨w.heap.size, 9, none⟩ = some (.slice a.A9 a.n9 a.c9)) w7 from ⟨H7.out.cell 0, H7.out.cell 1, H7.out.cell 2, H7.out.cell 3, H7.out.cell 4, H7.out.cell 5, H7.out.cell 6, H7.out.cell 7, H7.out.cell 8, H7.out.cell 9⟩))
      | (go_at_call 34; refine (put_calls_ s.ve ho5.bs (by omega) (O3.out.bs.below E5.out) hx2).mono ?_; rintro e e6 ⟨A6, m6, c6, rfl, ho6', hb6⟩; have ho6 := ho6'.lower H5.out.lt; have H6 := Lib.hid (H5.out.below hb6); have hm6 : m6 ≤ 8012 := Nat.le_trans (Nat.le_of_eq ho6'.2.symm) HM6.out; have T6 := Lib.hid (show (fun w' => w'.cell? ⟨w.heap.size, 0, none⟩ = some (.int .i64 s.ve) ∧ w'.cell? ⟨w.heap.size, 1, none⟩ = some (.int .i64 s.ty) ∧ w'.cell? ⟨w.heap.size, 2, none⟩ = some (.int .i64 s.pu) ∧ w'.cell? ⟨w.heap.size, 3, none⟩ = some (.int .i64 s.ha) ∧ w'.cell? ⟨w.heap.size, 4, none⟩ = some (.slice a.A4 a.n4 a.c4) ∧ w'.cell? ⟨w.heap.size, 5, none⟩ = some (.slice a.A5 a.n5 a.c5) ∧ w'.cell? ⟨w.heap.size, 6, none⟩ = some (.int .u8 (s.l0.toNat : Int)) ∧ w'.cell? ⟨w.heap.size, 7, none⟩ = some (.int .u8 (s.l1.toNat : Int)) ∧ w'.cell? ⟨w.heap.size, 8, none⟩ = some (.slice a.A8 a.n8 a.c8) ∧ w'.cell? ⟨w.heap.size, 9, none⟩ = some (.slice a.A9 a.n9 a.c9)) e6 from ⟨H6.out.cell 0, H6.out.cell 1, H6.out.cell 2, H6.out.cell 3, H6.out.cell 4, H6.out.cell 5, H6.out.cell 6, H6.out.cell 7, H6.out.cell 8, H6.out.cell 9⟩))
      | (go_at_call 35; refine (begin_calls (s := s) (a := a) O2.out.bs.drew hx1 HOK.out.1).mono ?_; rintro e e5 ⟨A5, m5, c5, rfl, ho5', hb5⟩; have ho5 := ho5'; have H5 := Lib.hid (H2.out.drew.below hb5); have E5 := Lib.hid (below_then hE0 hE0.size hb5); have hm5 : m5 ≤ 4008 := Nat.le_trans (Nat.le_of_eq ho5'.2.symm) HM5.out; have T5 := Lib.hid (show (fun w' => w'.cell? ⟨w.heap.size, 0, none⟩ = some (.int .i64 s.ve) ∧ w'.cell? ⟨w.heap.size, 1, none⟩ = some (.int .i64 s.ty) ∧ w'.cell? ⟨w.heap.size, 2, none⟩ = some (.int .i64 s.pu) ∧ w'.cell? ⟨w.heap.size, 3, none⟩ = some (.int .i64 s.ha) ∧ w'.cell? ⟨w.heap.size, 4, none⟩ = some (.slice a.A4 a.n4 a.c4) ∧ w'.cell? ⟨w.heap.size, 5, none⟩ = some (.slice a.A5 a.n5 a.c5) ∧ w'.cell? ⟨w.heap.size, 6, none⟩ = some (.int .u8 (s.l0.toNat : Int)) ∧ w'.cell? ⟨w.heap.size, 7, none⟩ = some (.int .u8 (s.l1.toNat : Int)) ∧ w'.cell? ⟨w.heap.size, 8, none⟩ = some (.slice a.A8 a.n8 a.c8) ∧ w'.cell? ⟨w.heap.size, 9, none⟩ = some (.slice a.A9 a.n9 a.c9)) e5 from ⟨H5.out.cell 0, H5.out.cell 1, H5.out.cell 2, H5.out.cell 3, H5.out.cell 4, H5.out.cell 5, H5.out.cell 6, H5.out.cell 7, H5.out.cell 8, H5.out.cell 9⟩))))
    clear T2 T5 T6 T7
    have HO7 := Lib.hid ho7
    clear ho7 ho6 ho5
    simp only [List.getElem_toArray, List.getElem_cons_succ, List.getElem_cons_zero, List.setIfInBounds_toArray, List.set_cons_zero, List.set_cons_succ]
    go_wp2_with fail
    go_meet
    exact ⟨A7, _, c7, rfl, by omega, HO7.out, H7.out⟩
  obtain ⟨A7, m7, c7, rfl, hm7, ho7, H7⟩ := hcut
  clear HM5 HM6 hx1 hx2 hls hE0 O2 O3
  have HN8 := Lib.hid h.h8.2
  have HH := Lib.hid h
  have k0 : wc.cell? ⟨w.heap.size, 0, none⟩ = some (.int .i64 s.ve) := H7.cell 0
  go_upto_if 29 with fail
  clear k0
  go_cut [7] from 8 (fun v wx => ∃ A m c, v = .slice A m c ∧ m ≤ 8100 ∧ Own wx (w.heap.size + 1) A m c (preG s x1 x2 ++ saltG s) ∧ Box w wx 27 (sigC s a))
  case first =>
    by_cases h6 : s.ve = 6
    rotate_left
    · have d6 : (s.ve == 6) = false := beq_eq_false_iff_ne.2 h6
      have HG := Lib.hid (show saltG s = [] by rw [saltG, if_neg h6])
      rw [d6]
      have HO := Lib.hid ho7
      have H8 := Lib.hid H7
      clear h6 d6 ho7 H7
      go_wp2_with fail
      go_meet
      exact ⟨A7, m7, c7, rfl, by omega, by rw [HG.out, List.append_nil]; exact HO.out, H8.out⟩
    have d6 : (s.ve == 6) = true := beq_iff_eq.2 h6
    have hs8 : a.n8 ≤ 32 := by have := saltS_ve6 HOK.out.1 h6; have := HN8.out; omega
    have HG := Lib.hid (show preG s x1 x2 ++ [UInt8.ofNat a.n8] ++ s.salt = preG s x1 x2 ++ saltG s by rw [saltG, if_pos h6, HN8.out, List.append_assoc]; rfl)
    have m5 : IntKind.u8.wrap (a.n8 : Int) = (a.n8 : Int) := by rw [IntKind.wrap_u8']; omega
    have m4 : (a.n8 : Int) % 256 = (a.n8 : Int) := by omega
    have hbv : (#[Value.int .u8 (a.n8 : Int)] : Array Value).toList = bvs [UInt8.ofNat a.n8] := by simp [bv, show a.n8 % 256 = a.n8 by omega]
    have HD := Lib.hid ((H7.alloc_ (.cells #[.int .u8 (a.n8 : Int)] 5)).drew)
    have hownD : Own (wc.alloc (.cells #[.int .u8 (a.n8 : Int)] 5)).drew (w.heap.size + 1) A7 m7 c7 (preG s x1 x2) := ho7.alloc_ _
    have hlitD : Own (wc.alloc (.cells #[.int .u8 (a.n8 : Int)] 5)).drew wc.heap.size (some ⟨wc.heap.size, 0, none⟩) 1 1 [UInt8.ofNat a.n8] := own_lit wc _ _ hbv 1 rfl (by omega)
    have hszD : w.heap.size + 1 ≤ (wc.alloc (.cells #[.int .u8 (a.n8 : Int)] 5)).drew.heap.size := HD.out.lt
    have k8d : wc.drew.cell? ⟨w.heap.size, 8, none⟩ = some (.slice a.A8 a.n8 a.c8) := H7.cell 8
    have k8e : (wc.alloc (.cells #[.int .u8 (a.n8 : Int)] 5)).drew.cell? ⟨w.heap.size, 8, none⟩ = some (.slice a.A8 a.n8 a.c8) := HD.out.cell 8
    rw [d6]
    clear h6 d6 m4 hbv ho7 H7
    go_upto_region 6 with fail
    go_region_held_law (fun w' => w'.cell? ⟨w.heap.size, 8, none⟩ = some (.slice a.A8 a.n8 a.c8)) (first | exact k8d | exact k8e | exact T8.out | exact T9.out) ((first
      | (refine step_app8 (.tmp 30) (.tmp 35) (by rfl) (by rfl) (by rfl) hownD (by rfl) hlitD.bs (by omega) hszD ?_; intro A8 c8 w8 ho8 hg8 hat8; have H8 := Lib.hid (HD.out.app hownD (Nat.lt_succ_self _) hg8); have T8 := Lib.hid (show w8.cell? ⟨w.heap.size, 8, none⟩ = some (.slice a.A8 a.n8 a.c8) from H8.out.cell 8); have hb8 := H8.out.bs HH.out.h8)
      | (refine step_app8 (.tmp 36) (.tmp 38) (by rfl) (by rfl) (by rfl) ho8 (by rfl) hb8 (by omega) H8.out.lt ?_; intro A9 c9 w9 ho9 hg9 hat9; have H9 := Lib.hid (H8.out.app ho8 (Nat.lt_succ_self _) hg9); have T9 := Lib.hid (show w9.cell? ⟨w.heap.size, 8, none⟩ = some (.slice a.A8 a.n8 a.c8) from H9.out.cell 8))))
    have HO9 := Lib.hid ho9
    clear ho9 ho8 hb8 hownD hlitD k8d k8e T8 T9 m5
    simp only [List.getElem_toArray, List.getElem_cons_succ, List.getElem_cons_zero, List.setIfInBounds_toArray, List.set_cons_zero, List.set_cons_succ]
    go_wp2_with fail
    go_meet
    exact ⟨A9, _, c9, rfl, by omega, by rw [← HG.out]; exact HO9.out, H9.out⟩
  clear ho7 H7
  obtain ⟨A9, m9, c9, rfl, hm9, ho9, H9⟩ := hcut
  have HV := Lib.hid (val_ok HOK.out.1)
  have hv := H9.bs h.h9
  have hn9 : a.n9 ≤ 90000 := by have := h.h9.2; have := hL.l9; omega
  have k2 : wc.cell? ⟨w.heap.size, 2, none⟩ = some (.int .i64 s.pu) := H9.cell 2
  have k9 : wc.cell? ⟨w.heap.size, 9, none⟩ = some (.slice a.A9 a.n9 a.c9) := H9.cell 9
  by_cases hp : s.pu = 27
  · have d1 : (s.pu == 27) = true := beq_iff_eq.2 hp
    have HG := Lib.hid (show valG s = s.value by rw [valG, if_pos hp])
    have HH9 := Lib.hid H9
    clear hp H9 h
    go_wp2_with (at_builtin; refine app8 (.tmp 43) (.tmp 45) rfl rfl rfl ho9 rfl hv (by omega) HH9.out.lt ?_; intro A10 c10 w10 ho10 hg10 hat10)
    go_ret2
    unfold HashedPost
    rw [HR.out, HG.out]
    exact ⟨A10, _, c10, 0, rfl, ho10.lower (Nat.le_succ _), rfl, (HH9.out.app ho9 (Nat.lt_succ_self _) hg10).B⟩
  have d1 : (s.pu == 27) = false := beq_eq_false_iff_ne.2 hp
  have HG := Lib.hid (show valG s = be 2 (nbits (nb s.value)) ++ bytesN (nb s.value) by rw [valG, if_neg hp])
  have HVO := Lib.hid (show nbits (nb s.value) ≤ 16384 by
    have := HV.out
    rw [valOk, if_neg hp, Bool.and_eq_true] at this
    exact of_decide_eq_true this.2)
  have HH9 := Lib.hid H9
  have HO9 := Lib.hid ho9
  have HRd := Lib.hid (Read_calls hv (by omega))
  clear hp H9 h ho9 hv
  go_wp2_with fail
  refine HRd.out.mono ?_
  rintro e w10 ⟨A10, m10, xs, rfl, hr10, hlo, htr, hnum, hA10, hm10, hb10⟩
  have hP := mPut_calls (HO9.out.bs.below hb10) (by omega) hr10 hlo (by omega)
  rw [hnum, show mputS (preG s x1 x2 ++ saltG s) (nb s.value) = (preG s x1 x2 ++ saltG s ++ be 2 (nbits (nb s.value)) ++ bytesN (nb s.value), 0) by rw [mputS, if_neg (by have := HVO.out; omega)]] at hP
  have HP := Lib.hid hP
  have HB := Lib.hid (HH9.out.below hb10)
  clear hP hr10 hlo htr hnum hA10 hm10 hb10
  go_wp2_with fail
  refine HP.out.mono ?_
  rintro e w11 ⟨A11, m11, c11, r11, rfl, ho11, hr11, hb11⟩
  obtain rfl : r11 = 0 := hr11
  go_wp2
  go_ret2
  unfold HashedPost
  rw [HR.out, HG.out]
  exact ⟨A11, _, c11, 0, rfl, by have := ho11.lower HB.out.B.size; rw [List.append_assoc] at this; exact this, rfl, (HB.out.below hb11).B⟩

end Go.Proofs.Ytjbnoamoadaknaa
end
