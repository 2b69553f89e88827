/- nat: trim, word, lay, Len32. -/
import Derived.Test.YtcakdlfhmdkocaaNm
namespace Go.Proofs.Ytcakdlfhmdkocaa
open Go.RowKit

/-- What trimming answers: the first m words, which are the number, without noughts at the end. -/
def TrimSaid (A : Option Addr) (xs : List Nat) (e : Ending) : Prop := ∃ m, e = .returned (.slice A m m) ∧ m ≤ xs.length ∧ Trim (xs.take m) ∧ ∀ β, num β (xs.take m) = num β xs
set_option maxRecDepth 100000 in
set_option maxHeartbeats 1600000 in
theorem trim_calls {A : Option Addr} {n c : Nat} {xs : List Nat} {w : World} (h : Nr w .u32 A n c xs) :
    Calls Try.prog 60 #[.slice A n c] w fun e w' => TrimSaid A xs e ∧ w = w' := by
  obtain ⟨hc1, hc2⟩ := h.cap
  obtain rfl := h.2
  go_enter Try.func60, Try.ntmps60
  go_wp2_with fail
  go_loop [3] (fun i => ∃ k : Nat, i = .int .i64 k ∧ k ≤ xs.length ∧ Hid (∀ j (hj : j < xs.length), k ≤ j → xs[j] = 0)) (fun i => (intOf i).toNat)
  case atStart => exact ⟨_, rfl, Nat.le_refl _, Lib.hid (fun j hj h => by omega)⟩
  case round =>
    obtain ⟨k, rfl, hk, hz⟩ := hrel
    rcases Nat.eq_zero_or_pos k with rfl | hp
    · go_wp2
      go_ret
      exact ⟨⟨0, by first | rfl | simp, Nat.zero_le _, trim_take (Nat.zero_le _) (.inl rfl), fun β => num_take_zeros (fun j hj h => hz.out j hj h)⟩, rfl⟩
    · obtain ⟨j, rfl⟩ : ∃ j, k = j + 1 := ⟨k - 1, by omega⟩
      obtain ⟨b, off, rfl, hbl, hcell⟩ := h.at_ (j := j) (by omega)
      have e1 : (((j + 1 : Nat) : Int)) - 1 = (j : Int) := by omega
      by_cases h0 : xs[j] = 0
      · rw [h0] at hcell
        go_wp2
        go_round
        case rel => exact ⟨j, by go_num, by omega, Lib.hid (fun i hi hij => by
          by_cases e : i = j
          · subst e; exact h0
          · exact hz.out i hi (by omega))⟩
        case measure => simp [intOf]
      · have hne : ((xs[j] : Int) == 0) = false := by rw [beq_eq_false_iff_ne]; omega
        have H0 := Lib.hid h0
        clear h0
        go_wp2
        go_ret
        exact ⟨⟨j + 1, by first | rfl | simp, hk, trim_take hk (.inr ⟨by omega, H0.out⟩), fun β => num_take_zeros (fun i hi h => hz.out i hi h)⟩, rfl⟩

/-- A word; 0 behind the end. -/
theorem word_calls {A : Option Addr} {n c : Nat} {xs : List Nat} {w : World} (h : Nr w .u32 A n c xs) (i : Nat) :
    Calls Try.prog 79 #[.slice A n c, .int .i64 (i : Int)] w fun e w' => e = .returned (.int .u32 (xs.getD i 0 : Nat)) ∧ w = w' := by
  obtain ⟨hc1, hc2⟩ := h.cap
  obtain rfl := h.2
  by_cases hlt : i < xs.length
  · have e := Lib.hid (show xs.getD i 0 = xs[i] by simp [List.getD, hlt])
    obtain ⟨b, off, rfl, hbl, hcell⟩ := h.at_ hlt
    go_enter Try.func79, Try.ntmps79
    go_wp2
    go_ret
    rw [e.out]
    exact ⟨rfl, rfl⟩
  · have e := Lib.hid (show xs.getD i 0 = 0 by simp [List.getD, hlt])
    go_enter Try.func79, Try.ntmps79
    go_wp2
    go_ret
    rw [e.out]
    exact ⟨rfl, rfl⟩

end Go.Proofs.Ytcakdlfhmdkocaa
