/- Subpackets few and short: the document's Small. -/
import Derived.Test.YtegbncngencfnaaSk
import Derived.IntWalk
namespace Go.Proofs.Ytegbncngencfnaa
open Go.RowKit

/-- 'Small' has answered: and if it is true, they are. -/
def Small21Said (ss : List SubV) (e : Ending) : Prop := ∃ r : Bool, e = .returned (.bool r) ∧ (r = true → ss.length ≤ 60 ∧ ∀ s ∈ ss, s.2.2.length ≤ 5000)
set_option maxRecDepth 100000 in
set_option maxHeartbeats 1600000 in
theorem Small21_calls {A : Option Addr} {n c : Nat} {ss : List SubV} {w : World} (h : Ss w A n ss) (hn : n ≤ 9223372036854775807) (hl : ∀ s ∈ ss, s.2.2.length ≤ 140737488355328) :
    Calls Try.prog 16 #[.slice A n c] w fun e w' => Small21Said ss e ∧ w = w' := by
  obtain rfl := h.1
  go_enter Try.func16, Try.ntmps16
  go_wp2_with fail
  go_loop [3, 4] (fun v u => ∃ k z : Nat, v = .int .i64 z ∧ u = .int .i64 k ∧ k ≤ ss.length ∧ k ≤ 60 ∧ z ≤ 5000 ∧ Hid (∀ j (hj : j < ss.length), j < k → (ss[j]).2.2.length ≤ 5000)) (fun _ u => 60 - (intOf u).toNat)
  case atStart => exact ⟨0, 0, rfl, rfl, Nat.zero_le _, Nat.zero_le _, Nat.zero_le _, Lib.hid (fun j _ h => by omega)⟩
  case round =>
    obtain ⟨k, z, rfl, rfl, hk, hk60, hz, hall⟩ := hrel
    by_cases hlt : k < ss.length
    · obtain ⟨b, off, Ak, nk, ck, hA, hbl, hc0, hc1, hc2, hbs⟩ := h.2 k hlt
      subst hA
      have hnk : nk ≤ 140737488355328 := by have := hl (ss[k]) (List.getElem_mem hlt); have := hbs.2; omega
      have hl2 : (ss[k]).2.2.length = nk := hbs.2
      obtain ⟨y, hy⟩ : ∃ y, y = z + nk := ⟨_, rfl⟩
      have hy1 : (z : Int) + (nk : Int) = (y : Int) := by omega
      have HY := Lib.hid hy
      have HNK := Lib.hid hnk
      have HZ := Lib.hid hz
      have hw : wrap64 (y : Int) = (y : Int) := IntWalk.wrap64_in _ (by omega)
      clear hc0 hc1 hy hnk hz
      by_cases h60 : k = 60
      · subst h60
        go_wp2
        go_ret
        exact ⟨⟨false, by first | rfl | simp, fun h => by cases h⟩, rfl⟩
      · have hd2 : ((k : Int) == 60) = false := by rw [beq_eq_false_iff_ne]; omega
        by_cases h2 : 5000 < y
        · have hd : decide (5000 < (y : Int)) = true := decide_eq_true (by omega)
          have H2 := Lib.hid h2
          clear h2
          go_wp2
          go_ret
          exact ⟨⟨false, by first | rfl | simp, fun h => by cases h⟩, rfl⟩
        · have hd : decide (5000 < (y : Int)) = false := decide_eq_false (by omega)
          have H2 := Lib.hid h2
          clear h2
          go_wp2
          go_round
          case rel => exact ⟨k + 1, y, by rw [hw], by go_num, by omega, by omega, by have := H2.out; omega, Lib.hid (fun j hj hjk => by
            by_cases e : j = k
            · subst e; have := H2.out; have := HY.out; omega
            · exact hall.out j hj (by omega))⟩
          case measure => simp [intOf]; omega
    · have hke : k = ss.length := by omega
      go_wp2
      go_ret
      refine ⟨⟨true, rfl, fun _ => ⟨by omega, fun p hp => ?_⟩⟩, rfl⟩
      obtain ⟨j, hj, rfl⟩ := List.getElem_of_mem hp
      exact hall.out j hj (by omega)
end Go.Proofs.Ytegbncngencfnaa
