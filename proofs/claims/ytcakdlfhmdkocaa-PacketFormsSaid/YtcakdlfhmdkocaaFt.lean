/- The heads of packets, the document's answer. -/
import Derived.Test.YtcakdlfhmdkocaaFs
namespace Go.Proofs.Ytcakdlfhmdkocaa
open Go.RowKit

set_option maxRecDepth 100000 in
set_option maxHeartbeats 800000 in
theorem rLength_calls (n : Nat) (hn : n ≤ 4294967200) (w : World) :
    Calls Try.prog 54 #[.int .i64 (n : Int)] w fun e w' => ∃ A' m' c', e = .returned (.slice A' m' c') ∧ Own w' w.heap.size A' m' c' (lenS n) ∧ Below w.heap.size w w' := by
  by_cases h1 : n < 192
  · have ht := Lib.hid (show lenS n = [UInt8.ofNat n] by rw [lenS, if_pos h1])
    go_enter Try.func54, Try.ntmps54
    go_wp2
    go_ret
    rw [ht.out]
    exact ⟨_, _, _, rfl, own_lit w _ _ (bvs_1 _ _ (by omega)) 1 rfl (by omega), (Below.refl _ _).alloc (Nat.le_refl _) _⟩
  · by_cases h2 : n < 8384
    · have ht := Lib.hid (show lenS n = [UInt8.ofNat ((n - 192) / 256 + 192), UInt8.ofNat (n - 192)] by rw [lenS, if_neg h1, if_pos h2])
      go_enter Try.func54, Try.ntmps54
      go_wp2
      go_ret
      rw [ht.out]
      exact ⟨_, _, _, rfl, own_lit w _ _ (bvs_2 _ _ _ _ (by omega) (by omega)) 2 rfl (by omega), (Below.refl _ _).alloc (Nat.le_refl _) _⟩
    · have ht := Lib.hid (show lenS n = 255 :: be 4 n by rw [lenS, if_neg h1, if_neg h2])
      have hp := Lib.hid (show putS [255] n 4 = (255 :: be 4 n, 0) by rw [putS, if_pos ⟨by omega, by omega, by show n < 256 ^ 4; omega⟩]; rfl)
      have hlit := own_lit w #[Value.int .u8 255] [255] rfl 1 rfl (by omega)
      go_enter Try.func54, Try.ntmps54
      go_wp2_with (go_at_call 47; refine (rPut_any hlit.bs (by omega) n (by omega) 4).mono ?_; rintro e w2 ⟨A2, m2, c2, r2, rfl, ho2, hr2, hb2⟩; rw [hp.out] at ho2 hr2; simp only at ho2 hr2; subst hr2)
      go_ret
      rw [ht.out]
      have hz : w.heap.size ≤ (w.alloc (.cells #[Value.int .u8 255] 5)).heap.size := by simp
      exact ⟨_, _, _, rfl, ho2.lower hz, below_then ((Below.refl _ _).alloc (Nat.le_refl _) _) hz hb2⟩

theorem checkS_cases (tag n last : Int) : (checkS tag n last = 1 ∧ (tag < 0 ∨ last < tag ∨ n < 0)) ∨ (checkS tag n last = 4 ∧ 0 ≤ tag ∧ tag ≤ last ∧ 60000 < n) ∨ (checkS tag n last = 0 ∧ 0 ≤ tag ∧ tag ≤ last ∧ 0 ≤ n ∧ n ≤ 60000) := by
  unfold checkS
  split
  · rename_i h; exact .inl ⟨rfl, h⟩
  · split
    · exact .inr (.inl ⟨rfl, by omega, by omega, by omega⟩)
    · exact .inr (.inr ⟨rfl, by omega, by omega, by omega, by omega⟩)

set_option maxRecDepth 100000 in
set_option maxHeartbeats 800000 in
theorem rHead_calls (tag n : Int) (w : World) : Calls Try.prog 19 #[.int .i64 tag, .int .i64 n] w fun e w' => ∃ A' m' c' r, e = .returned (.tuple #[.slice A' m' c', .int .i64 r]) ∧ Own w' w.heap.size A' m' c' (headS tag n).1 ∧ r = (headS tag n).2 ∧ Below w.heap.size w w' := by
  rcases checkS_cases tag n 63 with ⟨hc, h⟩ | ⟨hc, h1, h2, h3⟩ | ⟨hc, h1, h2, h3, h4⟩
  · have ht := Lib.hid (show headS tag n = ([], 1) by rw [headS, hc]; rfl)
    clear hc
    rcases h with h | h | h
    all_goals
      go_enter Try.func19, Try.ntmps19
      go_wp2
      all_goals (go_ret2; rw [ht.out]; exact ⟨_, _, _, _, rfl, Own.nil_ _ _, rfl, Below.refl _ _⟩)
  · have ht := Lib.hid (show headS tag n = ([], 4) by rw [headS, hc]; rfl)
    have h5 : ¬ n < 0 := by omega
    clear hc
    go_enter Try.func19, Try.ntmps19
    go_wp2
    go_ret2
    rw [ht.out]
    exact ⟨_, _, _, _, rfl, Own.nil_ _ _, rfl, Below.refl _ _⟩
  · have ht := Lib.hid (show headS tag n = (UInt8.ofNat (192 + tag.toNat) :: lenS n.toNat, 0) by rw [headS, if_pos hc])
    obtain ⟨t, rfl⟩ := Int.eq_ofNat_of_zero_le h1
    obtain ⟨k, rfl⟩ := Int.eq_ofNat_of_zero_le h3
    simp only [Int.toNat_natCast] at ht
    have hkl := lenS_length k
    clear hc
    have hlit := own_lit w #[Value.int .u8 (192 + (t : Int))] [UInt8.ofNat (192 + t)] (bvs_1 _ _ (by omega)) 1 rfl (by omega)
    have hbl : Below w.heap.size w (w.alloc (.cells #[Value.int .u8 (192 + (t : Int))] 5)) := (Below.refl _ _).alloc (Nat.le_refl _) _
    go_enter Try.func19, Try.ntmps19
    go_wp2_with (first
      | (go_at_call 54; refine (rLength_calls k (by omega) _).mono ?_; rintro e w2 ⟨A2, m2, c2, rfl, ho2, hb2⟩; have hlit2 := hlit.below hb2; have hB2 := below_then hbl hbl.size hb2; have hm2 := ho2.2)
      | (at_builtin; go_must (refine app8 (.tmp 23) (.tmp 25) rfl rfl rfl hlit2 rfl ho2.bs (by omega) hB2.size ?_); intro A3 c3 w3 hown3 hg3 hat3))
    go_ret2
    rw [ht.out]
    exact ⟨_, _, _, _, rfl, hown3, rfl, hB2.grown hg3 hB2.size (fun j hj => by cases hj; exact Nat.le_refl _)⟩

set_option maxRecDepth 100000 in
set_option maxHeartbeats 800000 in
theorem rOld_calls (tag n : Int) (w : World) : Calls Try.prog 21 #[.int .i64 tag, .int .i64 n] w fun e w' => ∃ A' m' c' r, e = .returned (.tuple #[.slice A' m' c', .int .i64 r]) ∧ Own w' w.heap.size A' m' c' (oldS tag n).1 ∧ r = (oldS tag n).2 ∧ Below w.heap.size w w' := by
  rcases checkS_cases tag n 15 with ⟨hc, h⟩ | ⟨hc, h1, h2, h3⟩ | ⟨hc, h1, h2, h3, h4⟩
  · have ht := Lib.hid (show oldS tag n = ([], 1) by rw [oldS, hc]; rfl)
    clear hc
    rcases h with h | h | h
    all_goals
      go_enter Try.func21, Try.ntmps21
      go_wp2
      all_goals (go_ret2; rw [ht.out]; exact ⟨_, _, _, _, rfl, Own.nil_ _ _, rfl, Below.refl _ _⟩)
  · have ht := Lib.hid (show oldS tag n = ([], 4) by rw [oldS, hc]; rfl)
    have h5 : ¬ n < 0 := by omega
    clear hc
    go_enter Try.func21, Try.ntmps21
    go_wp2
    go_ret2
    rw [ht.out]
    exact ⟨_, _, _, _, rfl, Own.nil_ _ _, rfl, Below.refl _ _⟩
  · have ht := Lib.hid (show oldS tag n = (UInt8.ofNat (128 + 4 * tag.toNat + oldW n.toNat) :: be (2 ^ oldW n.toNat) n.toNat, 0) by rw [oldS, if_pos hc])
    obtain ⟨t, rfl⟩ := Int.eq_ofNat_of_zero_le h1
    obtain ⟨k, rfl⟩ := Int.eq_ofNat_of_zero_le h3
    simp only [Int.toNat_natCast] at ht
    clear hc
    by_cases hk : k < 256
    · have hw : oldW k = 0 := by unfold oldW; rw [if_pos hk]
      have hlit := own_lit w #[Value.int .u8 (128 + 4 * (t : Int))] [UInt8.ofNat (128 + 4 * t + 0)] (bvs_1 _ _ (by omega)) 1 rfl (by omega)
      have hp := Lib.hid (show putS [UInt8.ofNat (128 + 4 * t + 0)] k 1 = (UInt8.ofNat (128 + 4 * t + 0) :: be 1 k, 0) by rw [putS, if_pos ⟨by omega, by omega, by show k < 256 ^ 1; omega⟩]; rfl)
      rw [hw] at ht
      have hk2 : ¬ (255 : Int) < (k : Int) := by omega
      have hk3 : ¬ (65535 : Int) < (k : Int) := by omega
      have hz : w.heap.size ≤ (w.alloc (.cells #[Value.int .u8 (128 + 4 * (t : Int))] 5)).heap.size := by simp
      go_enter Try.func21, Try.ntmps21
      go_wp2_with (go_at_call 47; refine (rPut_any hlit.bs (by omega) k (by omega) 1).mono ?_; rintro e w2 ⟨A2, m2, c2, r2, rfl, ho2, hr2, hb2⟩; rw [hp.out] at ho2 hr2; simp only at ho2 hr2; subst hr2)
      go_ret2
      rw [ht.out]
      exact ⟨_, _, _, _, rfl, ho2.lower hz, rfl, below_then ((Below.refl _ _).alloc (Nat.le_refl _) _) hz hb2⟩
    · have hw : oldW k = 1 := by unfold oldW; rw [if_neg (by omega), if_pos (by omega)]
      have hlit := own_lit w #[Value.int .u8 (128 + 4 * (t : Int) + 1)] [UInt8.ofNat (128 + 4 * t + 1)] (bvs_1 _ _ (by omega)) 1 rfl (by omega)
      have hp := Lib.hid (show putS [UInt8.ofNat (128 + 4 * t + 1)] k 2 = (UInt8.ofNat (128 + 4 * t + 1) :: be 2 k, 0) by rw [putS, if_pos ⟨by omega, by omega, by show k < 256 ^ 2; omega⟩]; rfl)
      rw [hw] at ht
      have hk2 : (255 : Int) < (k : Int) := by omega
      have hk3 : ¬ (65535 : Int) < (k : Int) := by omega
      have hz : w.heap.size ≤ (w.alloc (.cells #[Value.int .u8 (128 + 4 * (t : Int) + 1)] 5)).heap.size := by simp
      go_enter Try.func21, Try.ntmps21
      go_wp2_with (go_at_call 47; refine (rPut_any hlit.bs (by omega) k (by omega) 2).mono ?_; rintro e w2 ⟨A2, m2, c2, r2, rfl, ho2, hr2, hb2⟩; rw [hp.out] at ho2 hr2; simp only at ho2 hr2; subst hr2)
      go_ret2
      rw [ht.out]
      exact ⟨_, _, _, _, rfl, ho2.lower hz, rfl, below_then ((Below.refl _ _).alloc (Nat.le_refl _) _) hz hb2⟩
end Go.Proofs.Ytcakdlfhmdkocaa
