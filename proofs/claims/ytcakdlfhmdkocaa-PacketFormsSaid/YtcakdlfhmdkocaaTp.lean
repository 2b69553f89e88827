/- An old packet's body. -/
import Derived.Test.YtcakdlfhmdkocaaTo
namespace Go.Proofs.Ytcakdlfhmdkocaa
open Go.RowKit

def oldT (l : List UInt8) (s : St) (k : Nat) : St := if k = 3 then moreT l s ((l.length : Int) - s.at_) else moreT l (numT l s ((2 ^ k : Nat) : Int)).2 (numT l s ((2 ^ k : Nat) : Int)).1

set_option maxRecDepth 100000 in
set_option maxHeartbeats 1600000 in
theorem old_calls {w : World} {B t g : Nat} {l : List UInt8} {s : St} (h : Tk w B t g l s) (k : Nat) (hk : k ≤ 3) (hbl : s.body.length ≤ 60000) :
    Calls Try.prog 63 #[.pointer (some ⟨t, 0, none⟩), .int .i64 (k : Int)] w fun e w' => e = .returned (.tuple #[]) ∧ Tk w' B t g l (oldT l s k) ∧ Below B w w' := by
  by_cases h3 : k = 3
  · subst h3
    obtain ⟨Ab, nb, cb, k0, k1, k2, f1, f2, hc, ho, hb⟩ := h.open_
    have ht := Lib.hid (show oldT l s 3 = moreT l s ((l.length : Int) - s.at_) by rw [oldT, if_pos rfl])
    obtain ⟨hB, hgt, htl⟩ := h.ord
    clear k1 k2
    go_enter Try.func63, Try.ntmps63
    go_wp2_with (first
      | (go_at_call 57; refine (Left_calls hc).mono ?_; rintro e w1 ⟨rfl, nq, rfl⟩)
      | (go_at_call 78; refine (more_calls (h.drewN nq) _ hbl).mono ?_; rintro e w1 ⟨rfl, hT1, hb1⟩))
    refine bodyPost_ret (results_none rfl _ _ _) rfl ?_
    rw [ht.out]
    exact ⟨rfl, hT1, (below_drewN (Below.refl _ _) nq).trans hb1⟩
  · have hne : ((k : Int) == 3) = false := by rw [beq_eq_false_iff_ne]; omega
    have hp : 2 ^ k ≤ 4 := by
      have : 2 ^ k ≤ 2 ^ 2 := Nat.pow_le_pow_right (by omega) (by omega)
      omega
    have ht := Lib.hid (show oldT l s k = moreT l (numT l s ((2 ^ k : Nat) : Int)).2 (numT l s ((2 ^ k : Nat) : Int)).1 by rw [oldT, if_neg h3])
    have hn := number_calls h ((2 ^ k : Nat) : Int) (by omega)
    have hat := (numT_at l s ((2 ^ k : Nat) : Int)).2
    have hw : wrap64 ((2 : Int) ^ k) = ((2 ^ k : Nat) : Int) := by rw [wrap_pow (by omega)]; simp
    have Hn := Lib.hid hn
    have Hw := Lib.hid hw
    generalize numT l s ((2 ^ k : Nat) : Int) = x at *
    rw [← hat] at hbl
    clear h3 hn hat hw
    go_enter Try.func63, Try.ntmps63
    go_wp2_with fail
    rw [Hw.out]
    refine Hn.out.mono ?_
    rintro e w1 ⟨rfl, hT1, hb1⟩
    go_wp2_with (go_at_call 78; refine (more_calls hT1 _ hbl).mono ?_; rintro e w2 ⟨rfl, hT2, hb2⟩)
    go_end0
    rw [ht.out]
    exact ⟨rfl, hT2, hb1.trans hb2⟩
end Go.Proofs.Ytcakdlfhmdkocaa
