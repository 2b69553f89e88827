/- nat.lay: a number as so many bytes. -/
import Derived.Test.YtcakdlfhmdkocaaNb
namespace Go.Proofs.Ytcakdlfhmdkocaa
open Go.RowKit

theorem word_any {A : Option Addr} {n c : Nat} {xs : List Nat} {w : World} (h : Nr w .u32 A n c xs) (i : Nat) (x : Int) (hx : x = i) :
    Calls Try.prog 79 #[.slice A n c, .int .i64 x] w fun e w' => e = .returned (.int .u32 (xs.getD i 0 : Nat)) ∧ w = w' := by
  subst hx
  exact word_calls h i

theorem pow4 : (256 : Nat) ^ 4 = 4294967296 := by decide
/-- A byte of a number is one of its words'. -/
theorem byte_word {xs : List Nat} (hlo : Lo 4294967296 xs) (i : Nat) : num 4294967296 xs / 256 ^ i % 256 = xs.getD (i / 4) 0 / 256 ^ (i % 4) % 256 := by
  have hd := num_digit (by decide : 0 < 4294967296) (i / 4) hlo
  have hi : i = 4 * (i / 4) + i % 4 := by omega
  have e1 : 256 ^ i = 4294967296 ^ (i / 4) * 256 ^ (i % 4) := by
    rw [← pow4, ← Nat.pow_mul, ← Nat.pow_add, ← hi]
  rw [e1, ← Nat.div_div_eq_div_mul, ← hd]
  generalize num 4294967296 xs / 4294967296 ^ (i / 4) = X
  have hr : i % 4 < 4 := Nat.mod_lt _ (by decide)
  generalize i % 4 = r at hr
  rcases (by omega : r = 0 ∨ r = 1 ∨ r = 2 ∨ r = 3) with rfl | rfl | rfl | rfl <;> omega
theorem be_step {k i : Nat} (hi : i < k) (N : Nat) (b : UInt8) (hb : b = UInt8.ofNat (N / 256 ^ i)) :
    (List.replicate (k - i) 0 ++ be i N).set (k - 1 - i) b = List.replicate (k - (i + 1)) 0 ++ be (i + 1) N := by
  obtain ⟨d, rfl⟩ : ∃ d, k = i + 1 + d := ⟨k - i - 1, by omega⟩
  have e1 : i + 1 + d - i = d + 1 := by omega
  have e2 : i + 1 + d - 1 - i = d := by omega
  have e3 : i + 1 + d - (i + 1) = d := by omega
  rw [e1, e2, e3, List.replicate_succ', List.append_assoc, List.set_append_right _ _ (by simp), hb]
  simp [be]

set_option maxRecDepth 100000 in
set_option maxHeartbeats 3200000 in
theorem lay_calls {A : Option Addr} {n c : Nat} {xs : List Nat} {w : World} (h : Nr w .u32 A n c xs) (hlo : Lo 4294967296 xs) (k : Nat) (hk : k ≤ 1000000) (x : Int) (hx : x = k) :
    Calls Try.prog 68 #[.slice A n c, .int .i64 x] w fun e w' => ∃ A' c', e = .returned (.slice A' k c') ∧ Own w' w.heap.size A' k c' (be k (num 4294967296 xs)) ∧ Below w.heap.size w w' := by
  subst hx
  have hm := run_make8 k k (Nat.le_refl _) (by omega) (k : Int) rfl
  have hown0 := Own.made w w.heap.size k k (Nat.le_refl _) (Nat.le_refl _) (by omega)
  have hb0 := (Below.refl w.heap.size w).alloc (Nat.le_refl _) (.cells (zcells k) 5)
  have hbw := Lib.hid (byte_word hlo)
  go_enter Try.func68, Try.ntmps68
  go_wp2_with fail
  generalize w.alloc (.cells (zcells k) 5) = w0 at hown0 hb0 ⊢
  go_loopw [11] (fun v wr => ∃ i : Nat, v = .int .i64 i ∧ i ≤ k ∧ Own wr w.heap.size (some ⟨w.heap.size, 0, none⟩) k k (List.replicate (k - i) 0 ++ be i (num 4294967296 xs)) ∧ Below w.heap.size w wr) (fun v _ => k - (intOf v).toNat)
  case atStart => exact ⟨0, rfl, Nat.zero_le _, by simpa [be] using hown0, hb0⟩
  case round =>
    obtain ⟨i, rfl, hi, hown, hbr⟩ := hrel
    clear hown0 hb0
    by_cases hlt : i < k
    · obtain ⟨g, hg, hBg, hgl, hcell, hfr, hset⟩ := hown.at_ (k := k - 1 - i) (by simp [be_length]; omega)
      injection hg with hg
      injection hg with hg
      subst hg
      have hr := h.below hbr
      have HS := Lib.hid hset
      clear hset hm
      have hj : (k : Int) - 1 - (i : Int) = ((k - 1 - i : Nat) : Int) := by omega
      go_wp2_with (go_at_call 79; refine (word_any hr (i / 4) _ (by omega)).mono ?_; rintro e w1 ⟨rfl, rfl⟩)
      go_roundw
      case rel =>
        have hv : ((xs[i / 4]?.getD 0 : Nat) : Int) / 2 ^ (8 * (i % 4)) % 256 = ((UInt8.ofNat (num 4294967296 xs / 256 ^ i)).toNat : Int) := by
          have e2 : ((2 : Int) ^ (8 * (i % 4))) = ((256 ^ (i % 4) : Nat) : Int) := by rw [pow256]; simp
          have e3 := hbw.out i
          rw [List.getD_eq_getElem?_getD] at e3
          rw [e2, UInt8.toNat_ofNat']
          show _ = ((num 4294967296 xs / 256 ^ i % 256 : Nat) : Int)
          rw [e3]
          simp
        rw [hv]
        have ho := HS.out (UInt8.ofNat (num 4294967296 xs / 256 ^ i))
        rw [be_step hlt _ _ rfl] at ho
        exact ⟨i + 1, by go_num, by omega, ho, hbr.setCell (p := ⟨w.heap.size, k - 1 - i, none⟩) (Nat.le_refl _) _⟩
      case measure => simp [intOf]; omega
    · have hke : i = k := by omega
      go_wp2
      go_ret
      subst hke
      exact ⟨_, _, rfl, by simpa using hown, hbr⟩
end Go.Proofs.Ytcakdlfhmdkocaa
