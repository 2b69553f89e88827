/- The cursor's place, and going back. -/
import Derived.Test.YthopnficbgkebaaCuq
namespace Go.Proofs.Ythopnficbgkebaa
open Go.RowKit

set_option maxHeartbeats 400000 in
theorem At_calls {w : World} {g at_ : Nat} {l : List UInt8} (h : Cur w g at_ l) :
    Calls Try.prog 29 #[.pointer (some ⟨g, 0, none⟩)] w fun e w' => e = .returned (.int .i64 (at_ : Int)) ∧ w = w' := by
  obtain ⟨A, c, h0, h1, hf, hr, hat, hl⟩ := h.open_
  go_enter Try.func29, Try.ntmps29
  go_wp2
  go_ret
  exact ⟨rfl, rfl⟩

/-- What going back n from place at_ comes to: the error, the place. -/
def backS (at_ : Nat) (n : Int) : Int × Nat := if n < 0 ∨ (at_ : Int) < n then (1, at_) else (0, at_ - n.toNat)
set_option maxHeartbeats 400000 in
theorem Back_any {w : World} {g at_ : Nat} {l : List UInt8} (h : Cur w g at_ l) (n : Int) :
    Calls Try.prog 30 #[.pointer (some ⟨g, 0, none⟩), .int .i64 n] w fun e w' => e = .returned (.int .i64 (backS at_ n).1) ∧ Cur w' g (backS at_ n).2 l ∧ w.grownBy w' (some g) := by
  have hl := h.len
  obtain ⟨A, c, g0, g1, hf, hr, hat, hl⟩ := h.open_
  by_cases h0 : n < 0
  · have ht := Lib.hid (show backS at_ n = (1, at_) by rw [backS, if_pos (by omega)])
    go_enter Try.func30, Try.ntmps30
    go_wp2
    go_ret
    rw [ht.out]
    exact ⟨rfl, h, World.grownBy.refl _ _⟩
  · by_cases h1 : (at_ : Int) < n
    · have ht := Lib.hid (show backS at_ n = (1, at_) by rw [backS, if_pos (by omega)])
      go_enter Try.func30, Try.ntmps30
      go_wp2
      go_ret
      rw [ht.out]
      exact ⟨rfl, h, World.grownBy.refl _ _⟩
    · have ht := Lib.hid (show backS at_ n = (0, at_ - n.toNat) by rw [backS, if_neg (by omega)])
      go_enter Try.func30, Try.ntmps30
      go_wp2
      go_ret
      rw [ht.out]
      refine ⟨rfl, ?_, grown_setCell _ _ _ _⟩
      have := h.set_ (at_ - n.toNat) (by omega)
      rw [show ((at_ - n.toNat : Nat) : Int) = (at_ : Int) - n by omega] at this
      exact this

end Go.Proofs.Ythopnficbgkebaa
