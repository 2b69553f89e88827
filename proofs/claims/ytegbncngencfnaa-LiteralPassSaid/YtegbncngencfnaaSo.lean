/- The document's length of a subpacket. -/
import Derived.Test.YtegbncngencfnaaSm
import Derived.Deep.RegionHeld
import Derived.Deep.QuietTactic
import Derived.BigQuiet
namespace Go.Proofs.Ytegbncngencfnaa
open Go.RowKit

set_option maxRecDepth 100000 in
set_option maxHeartbeats 3200000 in
theorem rlength_calls {A : Option Addr} {n c : Nat} {b : List UInt8} {w : World} (h : Bs w A n c b) (hne : b ≠ []) :
    Calls Try.prog 54 #[.slice A n c] w fun e w' => ∃ A2 m2 c2 r, e = .returned (.tuple #[.int .i64 ((slenR b).1 : Int), .slice A2 m2 c2, .int .i64 r]) ∧ Bs w' A2 m2 c2 (slenR b).2.1 ∧ (∀ a2, A2 = some a2 → ∃ a1, A = some a1 ∧ a2.block = a1.block) ∧ r = (slenR b).2.2 ∧ Below w.heap.size w w' := by
  obtain rfl := h.2
  have hcap := h.cap
  unfold maxLen at hcap
  cases b with
  | nil => exact absurd rfl hne
  | cons x b =>
    have hL : slenR (x :: b) = (if x.toNat < 192 then (x.toNat, b, 0) else if x.toNat < 255 then twoR x.toNat b else if b.length < 4 then (0, [], 2) else ((val (b.take 4)).toNat, b.drop 4, 0) : Nat × List UInt8 × Int) := rfl
    generalize slenR (x :: b) = L at hL ⊢
    obtain ⟨b0, o0, hA, hbl, hcell⟩ := h.byte (k := 0) (by simp)
    simp only [List.getElem_cons_zero, Nat.add_zero] at hcell
    have hx := x.toNat_lt
    have hf1 := h.from_ (k := 1) (by simp)
    have hs1 := fun W => slice_from A (x :: b).length c 1 (by simp) 1 rfl W
    have hm1 := map_blk (A := A) (a2 := if c = 1 then A else A.map (·.add 1)) rfl
    generalize (if c = 1 then A else A.map (·.add 1)) = A1 at hf1 hs1 hm1
    have hlen : (x :: b).length = b.length + 1 := rfl
    generalize hnn : (x :: b).length = n at h hf1 hs1 hlen hcap
    simp only [List.drop_succ_cons, List.drop_zero] at hf1
    have hsub : n - 1 = b.length := by omega
    rw [hsub] at hf1 hs1
    have hn0 : (0 : Int) < (n : Int) := by omega
    generalize hv : x.toNat = v at hL hcell hx
    by_cases h1 : v < 192
    · rw [if_pos h1] at hL
      have HL := Lib.hid hL
      subst hA
      have HN := Lib.hid hlen
      clear hL hnn hlen hv hsub
      go_enter Try.func54, Try.ntmps54
      go_wp2
      go_quiet (fail)
      go_wp2
      go_ret3
      rw [HL.out]
      exact ⟨_, _, _, _, rfl, hf1.drewN _, hm1, rfl, below_drewN (Below.refl _ _) _⟩
    · rw [if_neg h1] at hL
      have h192 : 192 ≤ v := by omega
      by_cases h2 : v < 255
      · rw [if_pos h2] at hL
        cases b with
        | nil =>
          rw [twoR] at hL
          have HL := Lib.hid hL
          obtain rfl : n = 1 := by simpa using hlen
          subst hA
          clear hL hnn hlen hv hsub h1
          go_enter Try.func54, Try.ntmps54
          go_wp2
          go_ret3
          rw [HL.out]
          exact ⟨_, _, _, _, rfl, Bs.nil_ _, (fun a e => by cases e), rfl, Below.refl _ _⟩
        | cons y r =>
          rw [twoR] at hL
          have hy := y.toNat_lt
          have hbl1 : r.length + 2 = n := by simp at hlen; omega
          have hf2 := h.from_ (k := 2) (by omega)
          have hs2 := fun W => slice_from A n c 2 (by omega) 2 rfl W
          have hm2 := map_blk (A := A) (a2 := if c = 2 then A else A.map (·.add 2)) rfl
          generalize (if c = 2 then A else A.map (·.add 2)) = A2 at hf2 hs2 hm2
          simp only [List.drop_succ_cons, List.drop_zero] at hf2
          have hnr : n - 2 = r.length := by omega
          rw [hnr] at hf2 hs2
          obtain ⟨b1, o1, hA', hbl', hcell1⟩ := h.byte (k := 1) (by simp)
          rw [hA] at hA'
          injection hA' with hA'
          injection hA' with e1 e2
          subst e1; subst e2
          simp only [List.getElem_cons_succ, List.getElem_cons_zero] at hcell1
          generalize y.toNat = u at hL hy hcell1
          obtain ⟨v1, hv1⟩ : ∃ q, q = v - 192 := ⟨_, rfl⟩
          obtain ⟨v2, hv2⟩ : ∃ q, q = v1 * 256 := ⟨_, rfl⟩
          obtain ⟨v3, hv3⟩ : ∃ q, q = v2 + u := ⟨_, rfl⟩
          obtain ⟨v4, hv4⟩ : ∃ q, q = v3 + 192 := ⟨_, rfl⟩
          have e1 : IntKind.i64.wrap ((v : Int) - 192) = (v1 : Int) := by rw [IntWalk.i64_in _ (by omega)]; omega
          have e2 : IntKind.i64.wrap ((v1 : Int) * 256) = (v2 : Int) := by rw [IntWalk.i64_in _ (by omega)]; omega
          have e3 : IntKind.i64.wrap (u : Int) = (u : Int) := IntWalk.i64_in _ (by omega)
          have e4 : IntKind.i64.wrap ((v2 : Int) + (u : Int)) = (v3 : Int) := by rw [IntWalk.i64_in _ (by omega)]; omega
          have e5 : IntKind.i64.wrap ((v3 : Int) + 192) = (v4 : Int) := by rw [IntWalk.i64_in _ (by omega)]; omega
          have HL := Lib.hid (show L = (v4, r, 0) by rw [hL, hv4, hv3, hv2, hv1])
          have hn2 : (1 : Int) < (n : Int) := by omega
          have hn2' : ¬ (n : Int) < 2 := by omega
          have hn3 : 1 < n := by omega
          have HN := Lib.hid hbl1
          subst hA
          clear hL hnn hlen hv hsub h1 hv1 hv2 hv3 hv4 hbl1 hnr
          go_enter Try.func54, Try.ntmps54
          go_wp2
          go_quiet (fail)
          go_wp2
          go_ret3
          rw [HL.out]
          exact ⟨_, _, _, _, rfl, hf2.drewN _, hm2, rfl, below_drewN (Below.refl _ _) _⟩
      · rw [if_neg h2] at hL
        by_cases h4 : b.length < 4
        · rw [if_pos h4] at hL
          have HL := Lib.hid hL
          have hn5 : (n : Int) < 5 := by omega
          subst hA
          have HN := Lib.hid hlen
          clear hL hnn hlen hv hsub h1
          go_enter Try.func54, Try.ntmps54
          go_wp2
          go_ret3
          rw [HL.out]
          exact ⟨_, _, _, _, rfl, Bs.nil_ _, (fun a e => by cases e), rfl, Below.refl _ _⟩
        · rw [if_neg h4] at hL
          have hn5 : ¬ (n : Int) < 5 := by omega
          have hf5 := h.from_ (k := 5) (by omega)
          have hs5 := fun W => slice_from A n c 5 (by omega) 5 rfl W
          have hm5 := map_blk (A := A) (a2 := if c = 5 then A else A.map (·.add 5)) rfl
          generalize (if c = 5 then A else A.map (·.add 5)) = A5 at hf5 hs5 hm5
          simp only [List.drop_succ_cons] at hf5
          have hmid := (h.from_ (k := 1) (by omega)).upto (k := 4) (by omega)
          have hsm := fun W => slice_mid A n c 1 5 (by omega) (by omega) 1 5 rfl rfl W
          generalize (if c = 1 then A else A.map (·.add 1)) = A6 at hmid hsm
          simp only [List.drop_succ_cons, List.drop_zero] at hmid
          obtain ⟨v0, v1⟩ := val4_lt (b.take 4) (by rw [List.length_take]; omega)
          have hval := fun W (hW : Bs W A6 4 (c - 1) (b.take 4)) => Value_calls hW
          obtain ⟨u, hu⟩ := Int.eq_ofNat_of_zero_le v0
          rw [hu] at hL v1
          simp only [hu] at hval
          have e1 : IntKind.i64.wrap (u : Int) = (u : Int) := IntWalk.i64_in _ (by omega)
          have HV := Lib.hid (show ∀ q, Calls Try.prog 62 #[.slice A6 4 (c - 1)] (w.drewN q) fun e w' => e = .returned (.int .u64 (u : Int)) ∧ w' = w.drewN q from fun q => (hval _ (hmid.drewN q)).mono fun e w' ⟨he, hw⟩ => ⟨he, hw.symm⟩)
          have HL := Lib.hid (show L = (u, b.drop 4, 0) by rw [hL]; simp)
          have HN := Lib.hid hlen
          subst hA
          clear hL hnn hlen hv hsub h1 h4 hval hu v0 v1
          go_enter Try.func54, Try.ntmps54
          go_wp2
          go_quiet ((go_at_call 62; exact Calls.quiet_of_same (HV.out _)))
          go_wp2
          go_ret3
          rw [HL.out]
          exact ⟨_, _, _, _, rfl, hf5.drewN _, hm5, rfl, below_drewN (Below.refl _ _) _⟩
end Go.Proofs.Ytegbncngencfnaa
