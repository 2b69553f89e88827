/- The heads of packets, further. -/
import Derived.Test.YtcakdlfhmdkocaaFr
import Derived.Laws.BitsAllLaws
namespace Go.Proofs.Ytcakdlfhmdkocaa
open Go.RowKit

theorem or_head {t : Nat} (h : t ≤ 63) : bits BinOp.or IntKind.u8 192 ((t : Int)) = ((192 + t : Nat) : Int) := by
  have h1 := u8_or_nat 192 t (by omega) (by omega)
  have h2 := nat_join 6 192 t (by omega) (by omega)
  rw [h2] at h1
  exact h1
theorem own_lit (w : World) (cs : Array Value) (l : List UInt8) (hcs : cs.toList = bvs l) (m : Nat) (hm : l.length = m) (hm2 : m ≤ 140737488355328) : Own (w.alloc (.cells cs 5)) w.heap.size (some ⟨w.heap.size, 0, none⟩) m m l := by
  have hsz : cs.size = m := by rw [← Array.length_toList, hcs]; simp [hm]
  refine ⟨⟨by simp [hm], .inr ⟨_, m, cs, rfl, Nat.le_refl _, heap_alloc_new w _, Nat.le_refl _, by simp only [maxLen]; omega, by omega, ?_⟩⟩, hm⟩
  rw [hcs, Nat.mul_one, List.take_of_length_le (by simp [hm])]
theorem below_lit {w w1 : World} {cs : Array Value} {t : TypeId} (hg : (w.alloc (.cells cs t)).grownBy w1 (Option.map (fun x : Addr => x.block) (some ⟨w.heap.size, 0, none⟩))) : Below w.heap.size w w1 :=
  ((Below.refl _ _).alloc (Nat.le_refl _) _).grown hg (by simp) (fun k hk => by cases hk; exact Nat.le_refl _)

set_option maxRecDepth 100000 in
set_option maxHeartbeats 800000 in
theorem Head_calls (tag n : Int) (w : World) : Calls Try.prog 18 #[.int .i64 tag, .int .i64 n] w fun e w' => ∃ A' m' c' r, e = .returned (.tuple #[.slice A' m' c', .int .i64 r]) ∧ Own w' w.heap.size A' m' c' (headS tag n).1 ∧ r = (headS tag n).2 ∧ Below w.heap.size w w' := by
  by_cases hc : checkS tag n 63 = 0
  · have hb : 0 ≤ tag ∧ tag ≤ 63 ∧ 0 ≤ n ∧ n ≤ 60000 := by
      unfold checkS at hc
      split at hc
      · omega
      · split at hc <;> omega
    obtain ⟨h1, h2, h3, h4⟩ := hb
    have ht := Lib.hid (show headS tag n = (UInt8.ofNat (192 + tag.toNat) :: lenS n.toNat, 0) by rw [headS, if_pos hc])
    obtain ⟨t, rfl⟩ := Int.eq_ofNat_of_zero_le h1
    obtain ⟨k, rfl⟩ := Int.eq_ofNat_of_zero_le h3
    simp only [Int.toNat_natCast] at ht
    have hcl := check_calls t k 63
    rw [hc] at hcl
    have Hc := Lib.hid hcl
    have hor := or_head (t := t) (by omega)
    clear hc hcl
    go_enter Try.func18, Try.ntmps18
    go_wp2_with (first
      | (go_at_call 52; refine (Hc.out _).mono ?_; rintro e w1 ⟨rfl, rfl⟩)
      | (go_at_call 53; refine (length_calls (own_lit w _ [UInt8.ofNat (192 + t)] (bvs_1 _ _ (by omega)) 1 rfl (by omega)) (by simp) (by omega) k (by omega)).mono ?_; rintro e w1 ⟨A1, m1, c1, rfl, ho1, hg1⟩))
    go_ret2
    rw [ht.out]
    exact ⟨_, _, _, _, rfl, ho1, rfl, below_lit hg1⟩
  · have ht := Lib.hid (show headS tag n = ([], checkS tag n 63) by rw [headS, if_neg hc])
    have hne : (checkS tag n 63 != 0) = true := by rw [bne_iff_ne]; exact hc
    clear hc
    go_enter Try.func18, Try.ntmps18
    go_wp2_with (go_at_call 52; refine (check_calls tag n 63 _).mono ?_; rintro e w1 ⟨rfl, rfl⟩)
    go_ret2
    rw [ht.out]
    exact ⟨_, _, _, _, rfl, Own.nil_ _ _, rfl, Below.refl _ _⟩

theorem or_old {t : Nat} (h : t ≤ 15) (j : Nat) (hj : j < 4) : bits BinOp.or IntKind.u8 (128 + (t : Int) * 4) (j : Int) = ((128 + 4 * t + j : Nat) : Int) := by
  have h1 := u8_or_nat (128 + 4 * t) j (by omega) (by omega)
  have h2 := nat_join 2 (128 + 4 * t) j (by omega) (by omega)
  rw [h2] at h1
  rw [← h1]
  congr 1
  omega

set_option maxRecDepth 100000 in
set_option maxHeartbeats 800000 in
theorem Old_calls (tag n : Int) (w : World) : Calls Try.prog 20 #[.int .i64 tag, .int .i64 n] w fun e w' => ∃ A' m' c' r, e = .returned (.tuple #[.slice A' m' c', .int .i64 r]) ∧ Own w' w.heap.size A' m' c' (oldS tag n).1 ∧ r = (oldS tag n).2 ∧ Below w.heap.size w w' := by
  by_cases hc : checkS tag n 15 = 0
  · have hb : 0 ≤ tag ∧ tag ≤ 15 ∧ 0 ≤ n ∧ n ≤ 60000 := by
      unfold checkS at hc
      split at hc
      · omega
      · split at hc <;> omega
    obtain ⟨h1, h2, h3, h4⟩ := hb
    have ht := Lib.hid (show oldS tag n = (UInt8.ofNat (128 + 4 * tag.toNat + oldW n.toNat) :: be (2 ^ oldW n.toNat) n.toNat, 0) by rw [oldS, if_pos hc])
    obtain ⟨t, rfl⟩ := Int.eq_ofNat_of_zero_le h1
    obtain ⟨k, rfl⟩ := Int.eq_ofNat_of_zero_le h3
    simp only [Int.toNat_natCast] at ht
    have hcl := check_calls t k 15
    rw [hc] at hcl
    have Hc := Lib.hid hcl
    clear hc hcl
    go_enter Try.func20, Try.ntmps20
    go_wp2_with (first
      | (go_at_call 52; refine (Hc.out _).mono ?_; rintro e w1 ⟨rfl, rfl⟩))
    go_loop [7] (fun v => v = .int .i64 0 ∨ (v = .int .i64 1 ∧ 256 ≤ k)) (fun v => 3 - (intOf v).toNat)
    case atStart => exact .inl rfl
    case round =>
      rcases hrel with rfl | ⟨rfl, h5⟩
      · by_cases hk : k < 256
        · have hw : oldW k = 0 := by unfold oldW; rw [if_pos hk]
          have hd : ((k : Int) / 256 != 0) = false := by rw [bne_eq_false_iff_eq]; omega
          have hlit := own_lit w #[Value.int .u8 (bits BinOp.or IntKind.u8 (128 + (t : Int) * 4) 0)] [UInt8.ofNat (128 + 4 * t + 0)] (bvs_1 _ _ ((or_old (by omega) 0 (by omega)).trans (by omega))) 1 rfl (by omega)
          have hp := Lib.hid (show putS [UInt8.ofNat (128 + 4 * t + 0)] k 1 = (UInt8.ofNat (128 + 4 * t + 0) :: be 1 k, 0) by rw [putS, if_pos ⟨by omega, by omega, by show k < 256 ^ 1; omega⟩]; rfl)
          rw [hw] at ht
          go_wp2_with (go_at_call 44; refine (Put_any hlit.bs (by omega) k (by omega) 1).mono ?_; rintro e w2 ⟨A2, m2, c2, r2, rfl, ho2, hr2, hb2⟩; rw [hp.out] at ho2 hr2; simp only at ho2 hr2; subst hr2)
          go_ret2
          rw [ht.out]
          have hz : w.heap.size ≤ (w.alloc (.cells #[Value.int .u8 (bits BinOp.or IntKind.u8 (128 + (t : Int) * 4) 0)] 5)).heap.size := by simp
          exact ⟨_, _, _, _, rfl, ho2.lower hz, rfl, below_then ((Below.refl _ _).alloc (Nat.le_refl _) _) hz hb2⟩
        · have hd : ((k : Int) / 256 != 0) = true := by rw [bne_iff_ne]; omega
          go_wp2
          go_round
          case rel => exact .inr ⟨rfl, by omega⟩
          case measure => simp [intOf]
      · have hw : oldW k = 1 := by unfold oldW; rw [if_neg (by omega), if_pos (by omega)]
        have hd : ((k : Int) / 65536 != 0) = false := by rw [bne_eq_false_iff_eq]; omega
        have hlit := own_lit w #[Value.int .u8 (bits BinOp.or IntKind.u8 (128 + (t : Int) * 4) 1)] [UInt8.ofNat (128 + 4 * t + 1)] (bvs_1 _ _ ((or_old (by omega) 1 (by omega)).trans (by omega))) 1 rfl (by omega)
        have hp := Lib.hid (show putS [UInt8.ofNat (128 + 4 * t + 1)] k 2 = (UInt8.ofNat (128 + 4 * t + 1) :: be 2 k, 0) by rw [putS, if_pos ⟨by omega, by omega, by show k < 256 ^ 2; omega⟩]; rfl)
        rw [hw] at ht
        go_wp2_with (go_at_call 44; refine (Put_any hlit.bs (by omega) k (by omega) 2).mono ?_; rintro e w2 ⟨A2, m2, c2, r2, rfl, ho2, hr2, hb2⟩; rw [hp.out] at ho2 hr2; simp only at ho2 hr2; subst hr2)
        go_ret2
        rw [ht.out]
        have hz : w.heap.size ≤ (w.alloc (.cells #[Value.int .u8 (bits BinOp.or IntKind.u8 (128 + (t : Int) * 4) 1)] 5)).heap.size := by simp
        exact ⟨_, _, _, _, rfl, ho2.lower hz, rfl, below_then ((Below.refl _ _).alloc (Nat.le_refl _) _) hz hb2⟩
  · have ht := Lib.hid (show oldS tag n = ([], checkS tag n 15) by rw [oldS, if_neg hc])
    have hne : (checkS tag n 15 != 0) = true := by rw [bne_iff_ne]; exact hc
    clear hc
    go_enter Try.func20, Try.ntmps20
    go_wp2_with (go_at_call 52; refine (check_calls tag n 15 _).mono ?_; rintro e w1 ⟨rfl, rfl⟩)
    go_ret2
    rw [ht.out]
    exact ⟨_, _, _, _, rfl, Own.nil_ _ _, rfl, Below.refl _ _⟩
end Go.Proofs.Ytcakdlfhmdkocaa
