/- There and back. -/
import Derived.Test.YthopnficbgkebaaLw1
import Derived.Deep.RegionHeld3
namespace Go.Proofs.Ythopnficbgkebaa
open Go.RowKit

theorem val_be_aux (k : Nat) (hk : k ≤ 8) (n : Nat) : ∀ a : Nat, a * 256 ^ k + n % 256 ^ k < 18446744073709551616 → (be k n).foldl valStep (a : Int) = ((a * 256 ^ k + n % 256 ^ k : Nat) : Int) := by
  induction k with
  | zero => intro a _; simp [be, Nat.mod_one]
  | succ k ih =>
    intro a ha
    rw [be, List.foldl_cons]
    have hp : 0 < 256 ^ k := Nat.pow_pos (by omega)
    have e1 : n % 256 ^ (k + 1) = (n / 256 ^ k % 256) * 256 ^ k + n % 256 ^ k := by
      rw [Nat.pow_succ, Nat.mod_mul, Nat.mul_comm (256 ^ k) (n / 256 ^ k % 256), Nat.add_comm]
    have e2 : a * 256 ^ (k + 1) + n % 256 ^ (k + 1) = (a * 256 + n / 256 ^ k % 256) * 256 ^ k + n % 256 ^ k := by
      rw [e1, Nat.pow_succ, Nat.add_mul, Nat.mul_assoc, Nat.mul_comm 256 (256 ^ k), Nat.add_assoc]
    have hlt : a * 256 + n / 256 ^ k % 256 < 18446744073709551616 := by
      have : (a * 256 + n / 256 ^ k % 256) * 1 ≤ (a * 256 + n / 256 ^ k % 256) * 256 ^ k := Nat.mul_le_mul_left _ hp
      omega
    have e3 : valStep (a : Int) (UInt8.ofNat (n / 256 ^ k)) = ((a * 256 + n / 256 ^ k % 256 : Nat) : Int) := by
      unfold valStep
      simp only [UInt8.toNat_ofNat']
      omega
    rw [e3, ih (by omega) _ (by rw [← e2]; exact ha), e2]
theorem val_be {k n : Nat} (hk : k ≤ 8) (hn : n < 256 ^ k) : val (be k n) = (n : Int) := by
  have h8 : 256 ^ k ≤ 256 ^ 8 := Nat.pow_le_pow_right (by omega) hk
  have := val_be_aux k hk n 0 (by rw [Nat.mod_eq_of_lt hn]; omega)
  rw [Nat.mod_eq_of_lt hn] at this
  simpa [val] using this

theorem numS_be {k x : Nat} (h1 : 1 ≤ k) (h8 : k ≤ 8) (hx : x < 256 ^ k) (l : List UInt8) : numS (be k x ++ l) 0 k = ((x : Int), 0, k) := by
  have ht : takeS (be k x ++ l) 0 (k : Int) = (be k x, 0, k) := by
    rw [takeS, if_neg (by omega), if_neg (by simp [be_length]; omega)]
    simp only [List.drop_zero, Int.toNat_natCast, Nat.zero_add]
    rw [List.take_append_of_le_length (by rw [be_length]; omega), List.take_of_length_le (by rw [be_length]; omega)]
  rw [numS, if_neg (by omega), ht]
  simp only
  rw [val_be h8 hx]

set_option maxHeartbeats 1600000 in
theorem CursorBack_walk (x : Nat) (hx : x < 18446744073709551616) (wd : Int) {A : Option Addr} {n c : Nat} {l : List UInt8} {w : World} (h : Bs w A n c l) :
    Calls Try.prog 9 #[.int .u64 (x : Int), .int .i64 wd, .slice A n c] w fun e w' => e = .returned (.bool true) ∧ Below w.heap.size w w' := by
  by_cases hn : 300 < n
  · go_enter Try.func9, Try.ntmps9
    go_wp2_with (go_at_call 12; refine (alive1_calls _).mono ?_; rintro e w1 ⟨rfl, hb1⟩)
    go_ret
    exact ⟨rfl, hb1⟩
  · by_cases hf : 1 ≤ wd ∧ wd ≤ 8 ∧ x < 256 ^ wd.toNat
    · obtain ⟨k, rfl⟩ := Int.eq_ofNat_of_zero_le (by omega : 0 ≤ wd)
      simp only [Int.toNat_natCast] at hf
      have hp := Lib.hid (show putS [] x k = (be k x, 0) by rw [putS, if_pos (by simpa using hf)]; simp)
      have hk1 : 1 ≤ k := by omega
      have hk8 : k ≤ 8 := by omega
      have hns := Lib.hid (numS_be hk1 hk8 hf.2.2 l)
      have hbl := be_length k x
      have Hbl := Lib.hid hbl
      clear hf hbl
      go_enter Try.func9, Try.ntmps9
      go_wp2_with fail
      refine (Put_any (Bs.nil_ w) (by omega) x hx k).mono ?_
      rintro e w1 ⟨A1, m1, c1, r1, rfl, ho1, hr1, hb1⟩
      rw [hp.out] at ho1 hr1
      simp only at ho1 hr1
      subst hr1
      obtain rfl : k = m1 := by rw [← ho1.2, Hbl.out]
      have h1 := h.below hb1
      go_wp2_with (first
        | (at_builtin; refine app8 (.tmp 31) (.tmp 32) rfl rfl rfl (empty8 w1) rfl (ho1.bs.alloc _) (by omega) (by simp) ?_; intro A2 c2 w2 hown2 hg2 hat2; have hb2 := below_empty hg2; simp only [Nat.zero_add, List.nil_append] at hown2; clear hg2 hat2; have h2 := h1.below hb2)
        | (at_builtin; refine app8 (.tmp 34) (.tmp 35) rfl rfl rfl hown2 rfl h2 (by omega) hb2.size ?_; intro A3 c3 w3 hown3 hg3 hat3))
      have hb3 : Below w1.heap.size w1 w3 := hb2.grown hg3 hb2.size (fun j hj => by
        cases A2 with
        | none => cases hj
        | some ad => cases hj; exact (hown2.blk _ rfl).1)
      clear hg3 hat3 h2 hown2 hb2
      refine (Over_calls hown3.bs (by omega)).mono ?_
      rintro e w4 ⟨g, rfl, hg, hcur, hb4⟩
      go_wp2_with fail
      refine (Number_any hcur k).mono ?_
      rintro e w5 ⟨rfl, hcur5, hg5⟩
      rw [hns.out] at hcur5
      rw [hns.out]
      simp only
      go_wp2_with fail
      have hdr : List.drop k (be k x ++ l) = l := by rw [List.drop_append, List.drop_of_length_le (by rw [Hbl.out]; omega), Hbl.out]; simp
      have Hdr := Lib.hid hdr
      clear hdr
      have hB3 := below_then hb1 hb1.size hb3
      have hB4 := below_then hB3 hB3.size hb4
      have hgw : w.heap.size ≤ g := Nat.le_trans hB3.size hg
      have hB5 : Below w.heap.size w w5 := hB4.grown hg5 hB4.size (fun j hj => by cases hj; exact hgw)
      have s5 : (convert 22 9 (.slice A n c)).run Try.prog w5 = .ok (.string (strOf l)) w5 := (h.below hB5).str
      have s5d : (convert 22 9 (.slice A n c)).run Try.prog w5.drew = .ok (.string (strOf l)) w5.drew := (h.below hB5).drew.str
      go_region_held (fun w' => (convert 22 9 (.slice A n c)).run Try.prog w' = .ok (.string (strOf l)) w') (first | exact s5 | exact s5d | exact s6 | exact t7 | exact t8) (first
        | (go_at_call 12; refine (alive1_calls _).mono ?_; rintro e w6 ⟨rfl, hb6⟩; have hcur6 := hcur5.drew.below hb6; have hB6 : Below w.heap.size w w6 := below_then hB5.drew hB5.size hb6; have s6 := (h.below hB6).str)
        | (go_at_call 26; refine (Rest_calls hcur6).mono ?_; rintro e w7 ⟨A7, m7, c7, rfl, ho7, hcur7, hg7⟩; rw [Hdr.out] at ho7; have s7 := ho7.bs.str; have hB7 : Below w.heap.size w w7 := hB6.grown hg7 hB6.size (fun j hj => by cases hj; exact hgw); have t7 := (h.below hB7).str)
        | (go_at_call 28; refine (Left_calls hcur7).mono ?_; rintro e w8 ⟨rfl, nq, rfl⟩; have t8 := (h.below (below_drewN hB7 nq)).str))
      go_wp2
      go_ret
      exact ⟨rfl, below_drewN hB7 nq⟩
    · have hp := Lib.hid (show putS [] x wd = ([], 1) by rw [putS, if_neg hf])
      clear hf
      go_enter Try.func9, Try.ntmps9
      go_wp2_with fail
      refine (Put_any (Bs.nil_ w) (by omega) x hx wd).mono ?_
      rintro e w1 ⟨A1, m1, c1, r1, rfl, ho1, hr1, hb1⟩
      rw [hp.out] at ho1 hr1
      simp only at ho1 hr1
      subst hr1
      obtain rfl : m1 = 0 := by have := ho1.2; simpa using this.symm
      go_wp2_with (go_at_call 12; refine (alive1_calls _).mono ?_; rintro e w2 ⟨rfl, hb2⟩)
      go_ret
      exact ⟨rfl, below_then hb1 hb1.size hb2⟩
end Go.Proofs.Ythopnficbgkebaa
