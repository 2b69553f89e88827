/- Put. -/
import Derived.Test.YtegbncngencfnaaCuq
namespace Go.Proofs.Ytegbncngencfnaa
open Go.RowKit

/-- The last k bytes of n, the highest first. -/
def be : Nat → Nat → List UInt8
  | 0, _ => []
  | k + 1, n => UInt8.ofNat (n / 256 ^ k) :: be k n
theorem be_length (k n : Nat) : (be k n).length = k := by induction k with | zero => rfl | succ k ih => simp [be, ih]
theorem be_len {X : List UInt8} {r k n : Nat} (h : X ++ be r n = be k n) : X.length + r = k := by
  have := congrArg List.length h
  simpa [be_length] using this
/-- What putting n in width w behind l comes to. -/
def putS (l : List UInt8) (n : Nat) (w : Int) : List UInt8 × Int := if 1 ≤ w ∧ w ≤ 8 ∧ n < 256 ^ w.toNat then (l ++ be w.toNat n, 0) else ([], 1)

theorem pow256 (k : Nat) : 256 ^ k = 2 ^ (8 * k) := by rw [show (256 : Nat) = 2 ^ 8 from rfl, ← Nat.pow_mul]
theorem shl_fits {n k : Nat} (h : k ≤ 8) (hf : n < 256 ^ k) (hk : k < 8) : decide (IntKind.u64.wrap (2 ^ (8 * k)) ≤ (n : Int)) = false := by
  have hb : 256 ^ k ≤ 256 ^ 7 := Nat.pow_le_pow_right (by omega) (by omega)
  rw [IntKind.wrap_u64, decide_eq_false_iff_not]
  have e2 : ((2 : Int) ^ (8 * k)) = ((256 ^ k : Nat) : Int) := by rw [pow256]; simp
  rw [e2]
  generalize 256 ^ k = q at *
  omega
theorem shl_not {n k : Nat} (h : k < 8) (hf : ¬ n < 256 ^ k) : decide (IntKind.u64.wrap (2 ^ (8 * k)) ≤ (n : Int)) = true := by
  have hb : 256 ^ k ≤ 256 ^ 7 := Nat.pow_le_pow_right (by omega) (by omega)
  rw [IntKind.wrap_u64, decide_eq_true_iff]
  have e2 : ((2 : Int) ^ (8 * k)) = ((256 ^ k : Nat) : Int) := by rw [pow256]; simp
  rw [e2]
  generalize 256 ^ k = q at *
  omega
theorem byte_of (n r : Nat) : #[Value.int IntKind.u8 ((n : Int) / 2 ^ (8 * r) % 256)].toList = bvs [UInt8.ofNat (n / 256 ^ r)] := by
  have e2 : ((2 : Int) ^ (8 * r)) = ((256 ^ r : Nat) : Int) := by rw [pow256]; simp
  rw [e2]
  simp [bvs, bv]
theorem put_lt8 {n k : Nat} (h1 : 1 ≤ k) (h8 : k ≤ 8) (hn : n < 18446744073709551616) (hf : ¬ n < 256 ^ k) : k < 8 := by
  rcases Nat.lt_or_ge k 8 with h | h
  · exact h
  · obtain rfl : k = 8 := by omega
    omega

set_option maxHeartbeats 1600000 in
theorem rPut_any {A : Option Addr} {m c : Nat} {l : List UInt8} {w : World} (h : Bs w A m c l) (hm : m ≤ 4294967296) (n : Nat) (hn : n < 18446744073709551616) (wd : Int) :
    Calls Try.prog 71 #[.slice A m c, .int .u64 (n : Int), .int .i64 wd] w fun e w' => ∃ A' m' c' r, e = .returned (.tuple #[.slice A' m' c', .int .i64 r]) ∧ Own w' w.heap.size A' m' c' (putS l n wd).1 ∧ r = (putS l n wd).2 ∧ Below w.heap.size w w' := by
  have hlm : l.length ≤ 4294967296 := by rw [h.len]; exact hm
  by_cases h0 : wd < 1
  · have ht := Lib.hid (show putS l n wd = ([], 1) by rw [putS, if_neg (by omega)])
    go_enter Try.func71, Try.ntmps71
    go_wp2
    go_ret2
    rw [ht.out]
    exact ⟨_, _, _, _, rfl, Own.nil_ _ _, rfl, Below.refl _ _⟩
  · by_cases h1 : 8 < wd
    · have ht := Lib.hid (show putS l n wd = ([], 1) by rw [putS, if_neg (by omega)])
      go_enter Try.func71, Try.ntmps71
      go_wp2
      go_ret2
      rw [ht.out]
      exact ⟨_, _, _, _, rfl, Own.nil_ _ _, rfl, Below.refl _ _⟩
    · obtain ⟨k, rfl⟩ := Int.eq_ofNat_of_zero_le (by omega : 0 ≤ wd)
      have hk1 : 1 ≤ k := by omega
      have hk8 : k ≤ 8 := by omega
      by_cases hfit : n < 256 ^ k
      · have ht := Lib.hid (show putS l n k = (l ++ be k n, 0) by rw [putS, if_pos ⟨by omega, by omega, by simpa using hfit⟩]; simp)
        have hw := Lib.hid (shl_fits hk8 hfit)
        have hempty : Own (w.alloc (.cells #[] 5)) w.heap.size (some ⟨w.heap.size, 0, none⟩) 0 0 [] := ⟨World.ownsRow_made w #[] 0 (Nat.le_refl _) (by simp [maxLen]) rfl, rfl⟩
        clear hfit
        by_cases h8 : k < 8
        all_goals first | (have hd := hw.out h8) | (have hd : True := trivial)
        all_goals
          go_enter Try.func71, Try.ntmps71
          go_wp2_with (at_builtin; go_must (refine app8 (.tmp 28) (.tmp 29) rfl rfl rfl hempty rfl (h.alloc _) (by omega) (by simp) ?_); intro A1 c1 w1 hown1 hg1 hat1)
          have hb1 : Below w.heap.size w w1 := ((Below.refl _ _).alloc (Nat.le_refl _) _).grown hg1 (by simp) (fun k hk => by cases hk; exact Nat.le_refl _)
          simp only [Nat.zero_add, List.nil_append] at hown1
          clear hg1 hat1 hd
          go_loopw [8, 9] (fun v i wr => ∃ (r : Nat) (A' : Option Addr) (m' c' : Nat) (X : List UInt8), r ≤ k ∧ i = .int .i64 ((r : Int) - 1) ∧ v = .slice A' m' c' ∧ Own wr w.heap.size A' m' c' (l ++ X) ∧ Hid (X ++ be r n = be k n) ∧ Below w.heap.size w wr) (fun _ i _ => (intOf i + 1).toNat)
          case atStart => exact ⟨k, A1, m, c1, [], Nat.le_refl _, rfl, rfl, by simpa using hown1, Lib.hid rfl, hb1⟩
          case round =>
            obtain ⟨r, A2, m2, c2, X, hr, rfl, rfl, hown2, hX, hb2⟩ := hrel
            cases r with
            | zero =>
              go_wp2
              go_ret2
              rw [ht.out]
              exact ⟨_, _, _, _, rfl, by simpa [← hX.out, be] using hown2, rfl, hb2⟩
            | succ r =>
              have hbl := hb2.size
              have hml := hown2.2
              have hxl := be_len hX.out
              simp only [List.length_append] at hml
              go_wp2_with (at_builtin; go_must (refine app8_one (.tmp 37) (.tmp 44) rfl rfl rfl hown2 [UInt8.ofNat (n / 256 ^ r)] _ (byte_of n r) 1 rfl rfl (by omega) hbl ?_); intro A3 c3 w3 hown3 hg3 hat3)
              go_roundw
              case rel => exact ⟨r, A3, _, c3, X ++ [UInt8.ofNat (n / 256 ^ r)], by omega, rfl, rfl, by simpa using hown3, Lib.hid (by rw [← hX.out]; simp [be]), hb2.grown hg3 hbl (fun k hk => by
                cases A2 with
                | none => cases hk
                | some ad => cases hk; exact (hown2.blk _ rfl).1)⟩
              case measure => simp [intOf]
      · have ht := Lib.hid (show putS l n k = ([], 1) by rw [putS, if_neg (by simpa using fun _ _ => Nat.le_of_not_lt hfit)])
        have h8 := put_lt8 hk1 hk8 hn hfit
        have hd := shl_not h8 hfit
        clear hfit
        go_enter Try.func71, Try.ntmps71
        go_wp2
        go_ret2
        rw [ht.out]
        exact ⟨_, _, _, _, rfl, Own.nil_ _ _, rfl, Below.refl _ _⟩

theorem shr_fits {n k : Nat} (hf : n < 256 ^ k) : ((n : Int) / 2 ^ (8 * k) != 0) = false := by
  have e2 : ((2 : Int) ^ (8 * k)) = ((256 ^ k : Nat) : Int) := by rw [pow256]; simp
  rw [e2, ← Int.natCast_ediv, Nat.div_eq_of_lt hf]
  rfl
theorem shr_not {n k : Nat} (hf : ¬ n < 256 ^ k) : ((n : Int) / 2 ^ (8 * k) != 0) = true := by
  have e2 : ((2 : Int) ^ (8 * k)) = ((256 ^ k : Nat) : Int) := by rw [pow256]; simp
  have := Nat.div_pos (Nat.le_of_not_lt hf) (Nat.pow_pos (by omega : 0 < 256))
  rw [e2, ← Int.natCast_ediv, bne_iff_ne]
  omega

set_option maxHeartbeats 1600000 in
theorem Put_any {A : Option Addr} {m c : Nat} {l : List UInt8} {w : World} (h : Bs w A m c l) (hm : m ≤ 4294967296) (n : Nat) (hn : n < 18446744073709551616) (wd : Int) :
    Calls Try.prog 70 #[.slice A m c, .int .u64 (n : Int), .int .i64 wd] w fun e w' => ∃ A' m' c' r, e = .returned (.tuple #[.slice A' m' c', .int .i64 r]) ∧ Own w' w.heap.size A' m' c' (putS l n wd).1 ∧ r = (putS l n wd).2 ∧ Below w.heap.size w w' := by
  have hlm : l.length ≤ 4294967296 := by rw [h.len]; exact hm
  by_cases h0 : wd < 1
  · have ht := Lib.hid (show putS l n wd = ([], 1) by rw [putS, if_neg (by omega)])
    go_enter Try.func70, Try.ntmps70
    go_wp2
    go_ret2
    rw [ht.out]
    exact ⟨_, _, _, _, rfl, Own.nil_ _ _, rfl, Below.refl _ _⟩
  · by_cases h1 : 8 < wd
    · have ht := Lib.hid (show putS l n wd = ([], 1) by rw [putS, if_neg (by omega)])
      go_enter Try.func70, Try.ntmps70
      go_wp2
      go_ret2
      rw [ht.out]
      exact ⟨_, _, _, _, rfl, Own.nil_ _ _, rfl, Below.refl _ _⟩
    · obtain ⟨k, rfl⟩ := Int.eq_ofNat_of_zero_le (by omega : 0 ≤ wd)
      have hk1 : 1 ≤ k := by omega
      have hk8 : k ≤ 8 := by omega
      by_cases hfit : n < 256 ^ k
      · have ht := Lib.hid (show putS l n k = (l ++ be k n, 0) by rw [putS, if_pos ⟨by omega, by omega, by simpa using hfit⟩]; simp)
        have hd := shr_fits hfit
        have hmk := fun W => run_make8 m (m + k) (by omega) (by omega) ((m : Int) + k) (by omega) W
        have hmade := Own.made w w.heap.size m (m + k) (Nat.le_refl _) (by omega) (by omega)
        clear hfit
        by_cases h8 : k < 8
        all_goals
          go_enter Try.func70, Try.ntmps70
          go_wp2_with (with_reducible refine copy8 (.tmp 34) (.tmp 35) rfl rfl rfl hmade rfl (h.alloc _) (Nat.le_refl _) ?_; intro w1 hown1 hg1)
          have hb1 : Below w.heap.size w w1 := ((Below.refl _ _).alloc (Nat.le_refl _) _).grown hg1 (by simp) (fun k hk => by cases hk; exact Nat.le_refl _)
          rw [List.drop_of_length_le (by simp), List.append_nil] at hown1
          clear hg1 hd hmk hmade
          go_loopw [8, 9] (fun v i wr => ∃ (r : Nat) (A' : Option Addr) (m' c' : Nat) (X : List UInt8), r ≤ k ∧ i = .int .i64 (8 * ((r : Int) - 1)) ∧ v = .slice A' m' c' ∧ Own wr w.heap.size A' m' c' (l ++ X) ∧ Hid (X ++ be r n = be k n) ∧ Below w.heap.size w wr) (fun _ i _ => (intOf i + 8).toNat)
          case atStart => exact ⟨k, _, m, _, [], Nat.le_refl _, rfl, rfl, by simpa using hown1, Lib.hid rfl, hb1⟩
          case round =>
            obtain ⟨r, A2, m2, c2, X, hr, rfl, rfl, hown2, hX, hb2⟩ := hrel
            cases r with
            | zero =>
              go_wp2
              go_ret2
              rw [ht.out]
              exact ⟨_, _, _, _, rfl, by simpa [← hX.out, be] using hown2, rfl, hb2⟩
            | succ r =>
              have hbl := hb2.size
              have hml := hown2.2
              have hxl := be_len hX.out
              simp only [List.length_append] at hml
              go_wp2_with (at_builtin; go_must (refine app8_one (.tmp 44) (.tmp 49) rfl rfl rfl hown2 [UInt8.ofNat (n / 256 ^ r)] _ (byte_of n r) 1 rfl rfl (by omega) hbl ?_); intro A3 c3 w3 hown3 hg3 hat3)
              go_roundw
              case rel => exact ⟨r, A3, _, c3, X ++ [UInt8.ofNat (n / 256 ^ r)], by omega, by go_num, rfl, by simpa using hown3, Lib.hid (by rw [← hX.out]; simp [be]), hb2.grown hg3 hbl (fun k hk => by
                cases A2 with
                | none => cases hk
                | some ad => cases hk; exact (hown2.blk _ rfl).1)⟩
              case measure => simp [intOf]; omega
      · have ht := Lib.hid (show putS l n k = ([], 1) by rw [putS, if_neg (by simpa using fun _ _ => Nat.le_of_not_lt hfit)])
        have h8 := put_lt8 hk1 hk8 hn hfit
        have hd := shr_not hfit
        clear hfit
        go_enter Try.func70, Try.ntmps70
        go_wp2
        go_ret2
        rw [ht.out]
        exact ⟨_, _, _, _, rfl, Own.nil_ _ _, rfl, Below.refl _ _⟩
end Go.Proofs.Ytegbncngencfnaa
