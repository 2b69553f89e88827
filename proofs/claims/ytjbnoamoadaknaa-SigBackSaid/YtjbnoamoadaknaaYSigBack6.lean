import Derived.Test.YtjbnoamoadaknaaYSigBack3
import Derived.Lib.ItoaNum
import Derived.Test.YtjbnoamoadaknaaYSigBack2
import Derived.Deep.RegionHeldLaw
/- Put. -/
section
namespace Go.Proofs.Ytjbnoamoadaknaa
open Go.RowKit

/-- The last k bytes of n, the highest first. -/
def be : Nat → Nat → List UInt8
  | 0, _ => []
  | k + 1, n => UInt8.ofNat (n / 256 ^ k) :: be k n
theorem be_length (k n : Nat) : (be k n).length = k := by induction k with | zero => rfl | succ k ih => simp [be, ih]
theorem be_len {X : List UInt8} {r k n : Nat} (h : X ++ be r n = be k n) : X.length + r = k := by
  have := congrArg List.length h
  simpa [be_length] using this
/-- What putting n in width w behind l comes to. -/
def putS (l : List UInt8) (n : Nat) (w : Int) : List UInt8 × Int := if 1 ≤ w ∧ w ≤ 8 ∧ n < 256 ^ w.toNat then (l ++ be w.toNat n, 0) else ([], 1)

theorem pow256 (k : Nat) : 256 ^ k = 2 ^ (8 * k) := by rw [show (256 : Nat) = 2 ^ 8 from rfl, ← Nat.pow_mul]
theorem shl_fits {n k : Nat} (h : k ≤ 8) (hf : n < 256 ^ k) (hk : k < 8) : decide (IntKind.u64.wrap (2 ^ (8 * k)) ≤ (n : Int)) = false := by
  have hb : 256 ^ k ≤ 256 ^ 7 := Nat.pow_le_pow_right (by omega) (by omega)
  rw [IntKind.wrap_u64, decide_eq_false_iff_not]
  have e2 : ((2 : Int) ^ (8 * k)) = ((256 ^ k : Nat) : Int) := by rw [pow256]; simp
  rw [e2]
  generalize 256 ^ k = q at *
  omega
theorem shl_not {n k : Nat} (h : k < 8) (hf : ¬ n < 256 ^ k) : decide (IntKind.u64.wrap (2 ^ (8 * k)) ≤ (n : Int)) = true := by
  have hb : 256 ^ k ≤ 256 ^ 7 := Nat.pow_le_pow_right (by omega) (by omega)
  rw [IntKind.wrap_u64, decide_eq_true_iff]
  have e2 : ((2 : Int) ^ (8 * k)) = ((256 ^ k : Nat) : Int) := by rw [pow256]; simp
  rw [e2]
  generalize 256 ^ k = q at *
  omega
theorem byte_of (n r : Nat) : #[Value.int IntKind.u8 ((n : Int) / 2 ^ (8 * r) % 256)].toList = bvs [UInt8.ofNat (n / 256 ^ r)] := by
  have e2 : ((2 : Int) ^ (8 * r)) = ((256 ^ r : Nat) : Int) := by rw [pow256]; simp
  rw [e2]
  simp [bvs, bv]
theorem put_lt8 {n k : Nat} (h1 : 1 ≤ k) (h8 : k ≤ 8) (hn : n < 18446744073709551616) (hf : ¬ n < 256 ^ k) : k < 8 := by
  rcases Nat.lt_or_ge k 8 with h | h
  · exact h
  · obtain rfl : k = 8 := by omega
    omega

set_option maxHeartbeats 1600000 in
theorem rPut_any {A : Option Addr} {m c : Nat} {l : List UInt8} {w : World} (h : Bs w A m c l) (hm : m ≤ 4294967296) (n : Nat) (hn : n < 18446744073709551616) (wd : Int) :
    Calls Try.prog 67 #[.slice A m c, .int .u64 (n : Int), .int .i64 wd] w fun e w' => ∃ A' m' c' r, e = .returned (.tuple #[.slice A' m' c', .int .i64 r]) ∧ Own w' w.heap.size A' m' c' (putS l n wd).1 ∧ r = (putS l n wd).2 ∧ Below w.heap.size w w' := by
  have hlm : l.length ≤ 4294967296 := by rw [h.len]; exact hm
  by_cases h0 : wd < 1
  · have ht := Lib.hid (show putS l n wd = ([], 1) by rw [putS, if_neg (by omega)])
    go_enter Try.func67, Try.ntmps67
    go_wp2
    go_ret2
    rw [ht.out]
    exact ⟨_, _, _, _, rfl, Own.nil_ _ _, rfl, Below.refl _ _⟩
  · by_cases h1 : 8 < wd
    · have ht := Lib.hid (show putS l n wd = ([], 1) by rw [putS, if_neg (by omega)])
      go_enter Try.func67, Try.ntmps67
      go_wp2
      go_ret2
      rw [ht.out]
      exact ⟨_, _, _, _, rfl, Own.nil_ _ _, rfl, Below.refl _ _⟩
    · obtain ⟨k, rfl⟩ := Int.eq_ofNat_of_zero_le (by omega : 0 ≤ wd)
      have hk1 : 1 ≤ k := by omega
      have hk8 : k ≤ 8 := by omega
      by_cases hfit : n < 256 ^ k
      · have ht := Lib.hid (show putS l n k = (l ++ be k n, 0) by rw [putS, if_pos ⟨by omega, by omega, by simpa using hfit⟩]; simp)
        have hw := Lib.hid (shl_fits hk8 hfit)
        have hempty : Own (w.alloc (.cells #[] 5)) w.heap.size (some ⟨w.heap.size, 0, none⟩) 0 0 [] := ⟨World.ownsRow_made w #[] 0 (Nat.le_refl _) (by simp [maxLen]) rfl, rfl⟩
        clear hfit
        by_cases h8 : k < 8
        all_goals first | (have hd := hw.out h8) | (have hd : True := trivial)
        all_goals
          go_enter Try.func67, Try.ntmps67
          go_wp2_with (at_builtin; go_must (refine app8 (.tmp 28) (.tmp 29) rfl rfl rfl hempty rfl (h.alloc _) (by omega) (by simp) ?_); intro A1 c1 w1 hown1 hg1 hat1)
          have hb1 : Below w.heap.size w w1 := ((Below.refl _ _).alloc (Nat.le_refl _) _).grown hg1 (by simp) (fun k hk => by cases hk; exact Nat.le_refl _)
          simp only [Nat.zero_add, List.nil_append] at hown1
          clear hg1 hat1 hd
          go_loopw [8, 9] (fun v i wr => ∃ (r : Nat) (A' : Option Addr) (m' c' : Nat) (X : List UInt8), r ≤ k ∧ i = .int .i64 ((r : Int) - 1) ∧ v = .slice A' m' c' ∧ Own wr w.heap.size A' m' c' (l ++ X) ∧ Hid (X ++ be r n = be k n) ∧ Below w.heap.size w wr) (fun _ i _ => (intOf i + 1).toNat)
          case atStart => exact ⟨k, A1, m, c1, [], Nat.le_refl _, rfl, rfl, by simpa using hown1, Lib.hid rfl, hb1⟩
          case round =>
            obtain ⟨r, A2, m2, c2, X, hr, rfl, rfl, hown2, hX, hb2⟩ := hrel
            cases r with
            | zero =>
              go_wp2
              go_ret2
              rw [ht.out]
              exact ⟨_, _, _, _, rfl, by simpa [← hX.out, be] using hown2, rfl, hb2⟩
            | succ r =>
              have hbl := hb2.size
              have hml := hown2.2
              have hxl := be_len hX.out
              simp only [List.length_append] at hml
              go_wp2_with (at_builtin; go_must (refine app8_one (.tmp 37) (.tmp 44) rfl rfl rfl hown2 [UInt8.ofNat (n / 256 ^ r)] _ (byte_of n r) 1 rfl rfl (by omega) hbl ?_); intro A3 c3 w3 hown3 hg3 hat3)
              go_roundw
              case rel => exact ⟨r, A3, _, c3, X ++ [UInt8.ofNat (n / 256 ^ r)], by omega, rfl, rfl, by simpa using hown3, Lib.hid (by rw [← hX.out]; simp [be]), hb2.grown hg3 hbl (fun k hk => by
                cases A2 with
                | none => cases hk
                | some ad => cases hk; exact (hown2.blk _ rfl).1)⟩
              case measure => simp [intOf]
      · have ht := Lib.hid (show putS l n k = ([], 1) by rw [putS, if_neg (by simpa using fun _ _ => Nat.le_of_not_lt hfit)])
        have h8 := put_lt8 hk1 hk8 hn hfit
        have hd := shl_not h8 hfit
        clear hfit
        go_enter Try.func67, Try.ntmps67
        go_wp2
        go_ret2
        rw [ht.out]
        exact ⟨_, _, _, _, rfl, Own.nil_ _ _, rfl, Below.refl _ _⟩

theorem shr_fits {n k : Nat} (hf : n < 256 ^ k) : ((n : Int) / 2 ^ (8 * k) != 0) = false := by
  have e2 : ((2 : Int) ^ (8 * k)) = ((256 ^ k : Nat) : Int) := by rw [pow256]; simp
  rw [e2, ← Int.natCast_ediv, Nat.div_eq_of_lt hf]
  rfl
theorem shr_not {n k : Nat} (hf : ¬ n < 256 ^ k) : ((n : Int) / 2 ^ (8 * k) != 0) = true := by
  have e2 : ((2 : Int) ^ (8 * k)) = ((256 ^ k : Nat) : Int) := by rw [pow256]; simp
  have := Nat.div_pos (Nat.le_of_not_lt hf) (Nat.pow_pos (by omega : 0 < 256))
  rw [e2, ← Int.natCast_ediv, bne_iff_ne]
  omega

set_option maxHeartbeats 1600000 in
theorem Put_any {A : Option Addr} {m c : Nat} {l : List UInt8} {w : World} (h : Bs w A m c l) (hm : m ≤ 4294967296) (n : Nat) (hn : n < 18446744073709551616) (wd : Int) :
    Calls Try.prog 64 #[.slice A m c, .int .u64 (n : Int), .int .i64 wd] w fun e w' => ∃ A' m' c' r, e = .returned (.tuple #[.slice A' m' c', .int .i64 r]) ∧ Own w' w.heap.size A' m' c' (putS l n wd).1 ∧ r = (putS l n wd).2 ∧ Below w.heap.size w w' := by
  have hlm : l.length ≤ 4294967296 := by rw [h.len]; exact hm
  by_cases h0 : wd < 1
  · have ht := Lib.hid (show putS l n wd = ([], 1) by rw [putS, if_neg (by omega)])
    go_enter Try.func64, Try.ntmps64
    go_wp2
    go_ret2
    rw [ht.out]
    exact ⟨_, _, _, _, rfl, Own.nil_ _ _, rfl, Below.refl _ _⟩
  · by_cases h1 : 8 < wd
    · have ht := Lib.hid (show putS l n wd = ([], 1) by rw [putS, if_neg (by omega)])
      go_enter Try.func64, Try.ntmps64
      go_wp2
      go_ret2
      rw [ht.out]
      exact ⟨_, _, _, _, rfl, Own.nil_ _ _, rfl, Below.refl _ _⟩
    · obtain ⟨k, rfl⟩ := Int.eq_ofNat_of_zero_le (by omega : 0 ≤ wd)
      have hk1 : 1 ≤ k := by omega
      have hk8 : k ≤ 8 := by omega
      by_cases hfit : n < 256 ^ k
      · have ht := Lib.hid (show putS l n k = (l ++ be k n, 0) by rw [putS, if_pos ⟨by omega, by omega, by simpa using hfit⟩]; simp)
        have hd := shr_fits hfit
        have hmk := fun W => run_make8 m (m + k) (by omega) (by omega) ((m : Int) + k) (by omega) W
        have hmade := Own.made w w.heap.size m (m + k) (Nat.le_refl _) (by omega) (by omega)
        clear hfit
        by_cases h8 : k < 8
        all_goals
          go_enter Try.func64, Try.ntmps64
          go_wp2_with (with_reducible refine copy8 (.tmp 34) (.tmp 35) rfl rfl rfl hmade rfl (h.alloc _) (Nat.le_refl _) ?_; intro w1 hown1 hg1)
          have hb1 : Below w.heap.size w w1 := ((Below.refl _ _).alloc (Nat.le_refl _) _).grown hg1 (by simp) (fun k hk => by cases hk; exact Nat.le_refl _)
          rw [List.drop_of_length_le (by simp), List.append_nil] at hown1
          clear hg1 hd hmk hmade
          go_loopw [8, 9] (fun v i wr => ∃ (r : Nat) (A' : Option Addr) (m' c' : Nat) (X : List UInt8), r ≤ k ∧ i = .int .i64 (8 * ((r : Int) - 1)) ∧ v = .slice A' m' c' ∧ Own wr w.heap.size A' m' c' (l ++ X) ∧ Hid (X ++ be r n = be k n) ∧ Below w.heap.size w wr) (fun _ i _ => (intOf i + 8).toNat)
          case atStart => exact ⟨k, _, m, _, [], Nat.le_refl _, rfl, rfl, by simpa using hown1, Lib.hid rfl, hb1⟩
          case round =>
            obtain ⟨r, A2, m2, c2, X, hr, rfl, rfl, hown2, hX, hb2⟩ := hrel
            cases r with
            | zero =>
              go_wp2
              go_ret2
              rw [ht.out]
              exact ⟨_, _, _, _, rfl, by simpa [← hX.out, be] using hown2, rfl, hb2⟩
            | succ r =>
              have hbl := hb2.size
              have hml := hown2.2
              have hxl := be_len hX.out
              simp only [List.length_append] at hml
              go_wp2_with (at_builtin; go_must (refine app8_one (.tmp 44) (.tmp 49) rfl rfl rfl hown2 [UInt8.ofNat (n / 256 ^ r)] _ (byte_of n r) 1 rfl rfl (by omega) hbl ?_); intro A3 c3 w3 hown3 hg3 hat3)
              go_roundw
              case rel => exact ⟨r, A3, _, c3, X ++ [UInt8.ofNat (n / 256 ^ r)], by omega, by go_num, rfl, by simpa using hown3, Lib.hid (by rw [← hX.out]; simp [be]), hb2.grown hg3 hbl (fun k hk => by
                cases A2 with
                | none => cases hk
                | some ad => cases hk; exact (hown2.blk _ rfl).1)⟩
              case measure => simp [intOf]; omega
      · have ht := Lib.hid (show putS l n k = ([], 1) by rw [putS, if_neg (by simpa using fun _ _ => Nat.le_of_not_lt hfit)])
        have h8 := put_lt8 hk1 hk8 hn hfit
        have hd := shr_not hfit
        clear hfit
        go_enter Try.func64, Try.ntmps64
        go_wp2
        go_ret2
        rw [ht.out]
        exact ⟨_, _, _, _, rfl, Own.nil_ _ _, rfl, Below.refl _ _⟩
end Go.Proofs.Ytjbnoamoadaknaa
end

/- What is taken off bytes, by what stands there. -/
section
namespace Go.Proofs.Ytjbnoamoadaknaa
open Go.RowKit

theorem val_be_aux (k : Nat) (hk : k ≤ 8) (n : Nat) : ∀ a : Nat, a * 256 ^ k + n % 256 ^ k < 18446744073709551616 → (be k n).foldl valStep (a : Int) = ((a * 256 ^ k + n % 256 ^ k : Nat) : Int) := by
  induction k with
  | zero => intro a _; simp [be, Nat.mod_one]
  | succ k ih =>
    intro a ha
    rw [be, List.foldl_cons]
    have hp : 0 < 256 ^ k := Nat.pow_pos (by omega)
    have e1 : n % 256 ^ (k + 1) = (n / 256 ^ k % 256) * 256 ^ k + n % 256 ^ k := by
      rw [Nat.pow_succ, Nat.mod_mul, Nat.mul_comm (256 ^ k) (n / 256 ^ k % 256), Nat.add_comm]
    have e2 : a * 256 ^ (k + 1) + n % 256 ^ (k + 1) = (a * 256 + n / 256 ^ k % 256) * 256 ^ k + n % 256 ^ k := by
      rw [e1, Nat.pow_succ, Nat.add_mul, Nat.mul_assoc, Nat.mul_comm 256 (256 ^ k), Nat.add_assoc]
    have hlt : a * 256 + n / 256 ^ k % 256 < 18446744073709551616 := by
      have : (a * 256 + n / 256 ^ k % 256) * 1 ≤ (a * 256 + n / 256 ^ k % 256) * 256 ^ k := Nat.mul_le_mul_left _ hp
      omega
    have e3 : valStep (a : Int) (UInt8.ofNat (n / 256 ^ k)) = ((a * 256 + n / 256 ^ k % 256 : Nat) : Int) := by
      unfold valStep
      simp only [UInt8.toNat_ofNat']
      omega
    rw [e3, ih (by omega) _ (by rw [← e2]; exact ha), e2]
theorem val_be {k n : Nat} (hk : k ≤ 8) (hn : n < 256 ^ k) : val (be k n) = (n : Int) := by
  have h8 : 256 ^ k ≤ 256 ^ 8 := Nat.pow_le_pow_right (by omega) hk
  have := val_be_aux k hk n 0 (by rw [Nat.mod_eq_of_lt hn]; omega)
  rw [Nat.mod_eq_of_lt hn] at this
  simpa [val] using this
/-- At place a of l stands r. -/
def Lk (l : List UInt8) (a : Nat) (r : List UInt8) : Prop := l.drop a = r ∧ a ≤ l.length
section
variable {l x r : List UInt8} {a : Nat}
theorem Lk.zero (l : List UInt8) : Lk l 0 l := ⟨rfl, Nat.zero_le _⟩
theorem Lk.len (h : Lk l a r) : l.length = a + r.length := by
  have := h.2
  rw [← h.1, List.length_drop]
  omega
theorem Lk.step (h : Lk l a (x ++ r)) : Lk l (a + x.length) r := by
  refine ⟨?_, ?_⟩
  · rw [← List.drop_drop, h.1]; simp
  · have := h.len
    simp only [List.length_append] at this
    omega
theorem Lk.cons {b : UInt8} (h : Lk l a (b :: r)) : Lk l (a + 1) r := Lk.step (x := [b]) h
theorem takeS_ok (h : Lk l a (x ++ r)) {n : Int} (hn : n = x.length) : takeS l a n = (x, 0, a + x.length) := by
  subst hn
  have := h.len
  simp only [List.length_append] at this
  rw [takeS, if_neg (by omega), if_neg (by omega), h.1]
  simp
theorem takeS_sh (h : Lk l a r) {n : Int} (hn : (r.length : Int) < n) : takeS l a n = ([], 2, a) := by
  have := h.len
  rw [takeS, if_neg (by omega), if_pos (by omega)]
theorem numS_ok {k v : Nat} (h : Lk l a (be k v ++ r)) (h1 : 1 ≤ k) (h8 : k ≤ 8) (hv : v < 256 ^ k) {n : Int} (hn : n = k) : numS l a n = ((v : Int), 0, a + k) := by
  subst hn
  rw [numS, if_neg (by omega), takeS_ok h (by rw [be_length])]
  simp only
  rw [val_be h8 hv, be_length]
theorem numS_sh {k : Nat} (h : Lk l a r) (h1 : 1 ≤ k) (h8 : k ≤ 8) (hk : r.length < k) {n : Int} (hn : n = k) : numS l a n = (0, 2, a) := by
  subst hn
  rw [numS, if_neg (by omega), takeS_sh h (by omega)]
  rfl
end
end Go.Proofs.Ytjbnoamoadaknaa
end

/- Natural numbers by words, and as bytes: plain laws. -/
section
namespace Go.Proofs.Ytjbnoamoadaknaa

/-- The number of words of base β, the lowest first. -/
def num (β : Nat) : List Nat → Nat
  | [] => 0
  | x :: xs => x + β * num β xs
def Lo (β : Nat) (xs : List Nat) : Prop := ∀ x ∈ xs, x < β
/-- The last word is not 0. -/
def Trim (xs : List Nat) : Prop := ∀ y, xs.getLast? = some y → y ≠ 0

theorem Lo.nil (β : Nat) : Lo β [] := fun x h => by cases h
theorem Lo.cons {β x : Nat} {xs : List Nat} (h : Lo β (x :: xs)) : x < β ∧ Lo β xs := ⟨h x (by simp), fun y hy => h y (by simp [hy])⟩
theorem Lo.at_ {β k : Nat} {xs : List Nat} (h : Lo β xs) (hk : k < xs.length) : xs[k] < β := h _ (List.getElem_mem hk)
theorem Lo.take {β k : Nat} {xs : List Nat} (h : Lo β xs) : Lo β (xs.take k) := fun x hx => h x (List.mem_of_mem_take hx)
theorem Lo.snoc {β x : Nat} {xs : List Nat} (h : Lo β xs) (hx : x < β) : Lo β (xs ++ [x]) := fun y hy => by
  rcases List.mem_append.1 hy with hy | hy
  · exact h y hy
  · rw [List.mem_singleton.1 hy]; exact hx
theorem Lo.set {β x k : Nat} {xs : List Nat} (h : Lo β xs) (hx : x < β) : Lo β (xs.set k x) := fun y hy => by
  rcases List.mem_or_eq_of_mem_set hy with hy | hy
  · exact h y hy
  · rw [hy]; exact hx
theorem Lo.zeros {β : Nat} (hβ : 0 < β) (n : Nat) : Lo β (List.replicate n 0) := fun y hy => by
  rw [(List.mem_replicate.1 hy).2]; exact hβ

theorem num_append (β : Nat) : ∀ xs ys : List Nat, num β (xs ++ ys) = num β xs + β ^ xs.length * num β ys
  | [], ys => by simp [num]
  | x :: xs, ys => by
    simp only [List.cons_append, num, num_append β xs ys, List.length_cons, Nat.pow_succ]
    rw [Nat.mul_add, ← Nat.mul_assoc, Nat.mul_comm (β ^ xs.length) β, Nat.add_assoc]
theorem num_zeros (β n : Nat) : num β (List.replicate n 0) = 0 := by
  induction n with
  | zero => rfl
  | succ n ih => rw [List.replicate_succ, num, ih]; simp
theorem num_lt {β : Nat} (hβ : 0 < β) : ∀ {xs : List Nat}, Lo β xs → num β xs < β ^ xs.length
  | [], _ => by simp [num]
  | x :: xs, h => by
    obtain ⟨h1, h2⟩ := h.cons
    have ih := num_lt hβ h2
    rw [num, List.length_cons, Nat.pow_succ, Nat.mul_comm (β ^ xs.length) β]
    calc x + β * num β xs < β + β * num β xs := by omega
      _ = β * (num β xs + 1) := by rw [Nat.mul_add, Nat.mul_one, Nat.add_comm]
      _ ≤ β * β ^ xs.length := Nat.mul_le_mul_left _ ih
theorem num_digit {β : Nat} (hβ : 0 < β) : ∀ {xs : List Nat} (i : Nat), Lo β xs → num β xs / β ^ i % β = xs.getD i 0
  | [], i, _ => by simp [num]
  | x :: xs, 0, h => by
    obtain ⟨h1, _⟩ := h.cons
    simp [num, Nat.add_mul_mod_self_left, Nat.mod_eq_of_lt h1]
  | x :: xs, i + 1, h => by
    obtain ⟨h1, h2⟩ := h.cons
    have ih := num_digit hβ i h2
    have e : (x + β * num β xs) / β = num β xs := by rw [Nat.add_mul_div_left _ _ hβ, Nat.div_eq_of_lt h1, Nat.zero_add]
    rw [num, Nat.pow_succ, Nat.mul_comm (β ^ i) β, ← Nat.div_div_eq_div_mul, e, ih]
    simp
theorem num_set {β : Nat} : ∀ {xs : List Nat} {k : Nat} (v : Nat) (hk : k < xs.length), num β (xs.set k v) + β ^ k * xs[k] = num β xs + β ^ k * v
  | x :: xs, 0, v, _ => by simp [num]; omega
  | x :: xs, k + 1, v, hk => by
    have ih := num_set (β := β) v (k := k) (xs := xs) (by simpa using hk)
    simp only [List.set_cons_succ, num, List.getElem_cons_succ]
    have e : ∀ q : Nat, β ^ (k + 1) * q = β * (β ^ k * q) := fun q => by rw [Nat.pow_succ, Nat.mul_comm (β ^ k) β, Nat.mul_assoc]
    rw [e, e]
    have := congrArg (β * ·) ih
    simp only [Nat.mul_add] at this
    omega
theorem num_take_zeros {β n : Nat} {xs : List Nat} (h : ∀ j (hj : j < xs.length), n ≤ j → xs[j] = 0) : num β (xs.take n) = num β xs := by
  have e : xs.drop n = List.replicate (xs.drop n).length 0 := by
    refine List.eq_replicate_iff.2 ⟨rfl, fun b hb => ?_⟩
    obtain ⟨j, hj, rfl⟩ := List.getElem_of_mem hb
    rw [List.getElem_drop]
    exact h _ _ (by omega)
  have := num_append β (xs.take n) (xs.drop n)
  rw [List.take_append_drop, e, num_zeros] at this
  rw [this]; simp

theorem Trim.cons {x : Nat} {xs : List Nat} (h : Trim (x :: xs)) : Trim xs := fun y hy => by
  refine h y ?_
  cases xs with
  | nil => cases hy
  | cons z zs => rw [List.getLast?_cons_cons]; exact hy
theorem trim_zero {β : Nat} (hβ : 0 < β) : ∀ {xs : List Nat}, Trim xs → num β xs = 0 → xs = []
  | [], _, _ => rfl
  | x :: xs, h, h0 => by
    rw [num] at h0
    have h1 : x = 0 := by omega
    have h2 : num β xs = 0 := by
      rcases Nat.mul_eq_zero.1 (show β * num β xs = 0 by omega) with h | h
      · omega
      · exact h
    have e := trim_zero hβ h.cons h2
    subst e
    exact absurd h1 (h x (by simp))
/-- Words without noughts at the end are told by their number. -/
theorem trim_unique {β : Nat} (hβ : 0 < β) : ∀ {xs ys : List Nat}, Lo β xs → Lo β ys → Trim xs → Trim ys → num β xs = num β ys → xs = ys
  | [], ys, _, _, _, hy, e => (trim_zero hβ hy (by rw [← e]; rfl)).symm
  | x :: xs, [], _, _, hx, _, e => trim_zero hβ hx (by rw [e]; rfl)
  | x :: xs, y :: ys, lx, ly, hx, hy, e => by
    obtain ⟨l1, l2⟩ := lx.cons
    obtain ⟨m1, m2⟩ := ly.cons
    simp only [num] at e
    have e1 : x = y := by
      have := congrArg (· % β) e
      simpa [Nat.add_mul_mod_self_left, Nat.mod_eq_of_lt l1, Nat.mod_eq_of_lt m1] using this
    subst e1
    have e2 : num β xs = num β ys := Nat.eq_of_mul_eq_mul_left hβ (by omega)
    rw [trim_unique hβ l2 m2 hx.cons hy.cons e2]
theorem trim_take {n : Nat} {xs : List Nat} (hn : n ≤ xs.length) (h : n = 0 ∨ ∃ hj : n - 1 < xs.length, xs[n - 1] ≠ 0) : Trim (xs.take n) := fun y hy => by
  rcases h with rfl | ⟨hj, h⟩
  · simp at hy
  · rcases Nat.eq_zero_or_pos n with rfl | hp
    · simp at hy
    · rw [List.getLast?_eq_getElem?, List.length_take, Nat.min_eq_left hn, List.getElem?_take, if_pos (by omega), List.getElem?_eq_getElem hj] at hy
      injection hy with hy
      rw [← hy]; exact h

/-- How many bits a number has. -/
def nbits (n : Nat) : Nat := if n = 0 then 0 else n.log2 + 1
theorem nbits_zero : nbits 0 = 0 := rfl
theorem nbits_of {n k : Nat} (h1 : 2 ^ k ≤ n) (h2 : n < 2 ^ (k + 1)) : nbits n = k + 1 := by
  have hp := Nat.two_pow_pos k
  have h0 : n ≠ 0 := by omega
  have := (Nat.log2_eq_iff h0).2 ⟨h1, h2⟩
  rw [nbits, if_neg h0, this]
theorem nbits_lt (n : Nat) : n < 2 ^ nbits n := by
  unfold nbits
  split
  · rename_i h; subst h; decide
  · exact Nat.lt_log2_self
theorem nbits_le {n : Nat} (h : n ≠ 0) : 2 ^ (nbits n - 1) ≤ n := by
  rw [nbits, if_neg h]
  exact Nat.log2_self_le h
theorem nbits_pos {n : Nat} (h : n ≠ 0) : 1 ≤ nbits n := by rw [nbits, if_neg h]; omega
theorem nbits_le_of {n k : Nat} (h : n < 2 ^ k) : nbits n ≤ k := by
  by_cases h0 : n = 0
  · subst h0; exact Nat.zero_le _
  · have h1 := nbits_le h0
    have hp := nbits_pos h0
    have : 2 ^ (nbits n - 1) < 2 ^ k := Nat.lt_of_le_of_lt h1 h
    have := (Nat.pow_lt_pow_iff_right (by decide : 1 < 2)).1 this
    omega
theorem nbits_bitLen {x : Nat} (h : x < 2 ^ 64) : Lib.bitLen x = nbits x := by
  by_cases h0 : x = 0
  · subst h0; rfl
  · obtain ⟨h1, h2, h3⟩ := Lib.bitLenAux_bounds 64 x h h0
    show Lib.bitLenAux 64 x = nbits x
    generalize Lib.bitLenAux 64 x = k at h1 h2 h3
    obtain ⟨k, rfl⟩ : ∃ j, k = j + 1 := ⟨k - 1, by omega⟩
    exact (nbits_of (by simpa using h2) h3).symm
/-- A top word that is not 0 tells the bits. -/
theorem nbits_top {b lo w i : Nat} (hw : w ≠ 0) (hlo : lo < 2 ^ (b * i)) : nbits (lo + 2 ^ (b * i) * w) = b * i + nbits w := by
  have h1 := nbits_le hw
  have h2 := nbits_lt w
  have hp := nbits_pos hw
  obtain ⟨k, hk⟩ : ∃ k, nbits w = k + 1 := ⟨nbits w - 1, by omega⟩
  rw [hk] at h1 h2 ⊢
  simp only [Nat.add_sub_cancel] at h1
  refine nbits_of (k := b * i + k) ?_ ?_
  · rw [Nat.pow_add]
    exact Nat.le_trans (Nat.mul_le_mul_left _ h1) (by omega)
  · rw [Nat.add_assoc, Nat.pow_add (m := b * i)]
    calc lo + 2 ^ (b * i) * w < 2 ^ (b * i) + 2 ^ (b * i) * w := by omega
      _ = 2 ^ (b * i) * (w + 1) := by rw [Nat.mul_add, Nat.mul_one, Nat.add_comm]
      _ ≤ _ := Nat.mul_le_mul_left _ h2

/-- The number of bytes, the highest first. -/
def nb (l : List UInt8) : Nat := l.foldl (fun a b => a * 256 + b.toNat) 0
theorem nb_nil : nb [] = 0 := rfl
theorem nb_snoc (l : List UInt8) (b : UInt8) : nb (l ++ [b]) = nb l * 256 + b.toNat := by simp [nb]
theorem nb_from (l : List UInt8) : ∀ a : Nat, l.foldl (fun a b => a * 256 + b.toNat) a = a * 256 ^ l.length + nb l := by
  induction l with
  | nil => intro a; simp [nb]
  | cons b l ih =>
    intro a
    have e0 : nb (b :: l) = (0 * 256 + b.toNat) * 256 ^ l.length + nb l := ih (0 * 256 + b.toNat)
    have e : (b :: l).foldl (fun a b => a * 256 + b.toNat) a = (a * 256 + b.toNat) * 256 ^ l.length + nb l := ih (a * 256 + b.toNat)
    have e1 : a * 256 ^ (l.length + 1) = a * 256 * 256 ^ l.length := by rw [Nat.pow_succ, Nat.mul_comm (256 ^ l.length) 256, Nat.mul_assoc]
    rw [e, e0, List.length_cons, e1, Nat.add_mul]
    simp only [Nat.zero_mul, Nat.zero_add]
    omega
theorem nb_append (x y : List UInt8) : nb (x ++ y) = nb x * 256 ^ y.length + nb y := by
  rw [nb, List.foldl_append, nb_from y]; rfl
theorem nb_cons (b : UInt8) (l : List UInt8) : nb (b :: l) = b.toNat * 256 ^ l.length + nb l := by
  have := nb_append [b] l
  simpa [nb] using this
theorem nb_lt (l : List UInt8) : nb l < 256 ^ l.length := by
  induction l with
  | nil => decide
  | cons b l ih =>
    rw [nb_cons, List.length_cons, Nat.pow_succ, Nat.mul_comm (256 ^ l.length) 256]
    have hb := b.toNat_lt
    calc b.toNat * 256 ^ l.length + nb l < b.toNat * 256 ^ l.length + 256 ^ l.length := by omega
      _ = (b.toNat + 1) * 256 ^ l.length := by rw [Nat.add_mul, Nat.one_mul]
      _ ≤ _ := Nat.mul_le_mul_right _ (by omega)
theorem nb_be (k n : Nat) : nb (be k n) = n % 256 ^ k := by
  induction k with
  | zero => simp [be, nb, Nat.mod_one]
  | succ k ih =>
    have e : 256 ^ (k + 1) = 256 ^ k * 256 := Nat.pow_succ 256 k
    have h := Nat.mod_mul (a := 256 ^ k) (b := 256) (x := n)
    rw [be, nb_cons, be_length, ih, UInt8.toNat_ofNat', e, h]
    have : n / 256 ^ k % 2 ^ 8 = n / 256 ^ k % 256 := rfl
    rw [this, Nat.mul_comm]
    omega
theorem be_nb (l : List UInt8) : be l.length (nb l) = l := by
  induction l with
  | nil => rfl
  | cons b l ih =>
    have h1 := nb_lt l
    have hb := b.toNat_lt
    have hp : 0 < 256 ^ l.length := Nat.pow_pos (by decide)
    rw [List.length_cons, be, nb_cons]
    have e1 : (b.toNat * 256 ^ l.length + nb l) / 256 ^ l.length = b.toNat := by
      rw [Nat.mul_comm, Nat.mul_add_div hp, Nat.div_eq_of_lt h1, Nat.add_zero]
    rw [e1]
    congr 1
    · simp
    · have : ∀ (k a c : Nat), be k (a * 256 ^ k + c) = be k c := fun k => by
        induction k with
        | zero => intro a c; rfl
        | succ k ih2 =>
          intro a c
          have e2 : a * 256 ^ (k + 1) + c = a * 256 * 256 ^ k + c := by rw [Nat.pow_succ, Nat.mul_comm (256 ^ k) 256, Nat.mul_assoc]
          rw [be, be, e2, ih2 (a * 256) c]
          congr 1
          have hp2 : 0 < 256 ^ k := Nat.pow_pos (by decide)
          rw [Nat.mul_comm (a * 256), Nat.mul_add_div hp2]
          apply UInt8.toNat_inj.1
          simp only [UInt8.toNat_ofNat']
          omega
      rw [this, ih]
end Go.Proofs.Ytjbnoamoadaknaa
end

/- append of bytes as a step of a region that draws its order. -/
section
namespace Go.Proofs.Ytjbnoamoadaknaa
open Go.RowKit

theorem step_app8 {w : World} {ops : Array Oper} {o : Oper} {a : Act} {K : Act → World → Prop} {Q : Exit → Act → World → Prop} {E : Prop} (s x : Operand) (hgd : o.guard = none)
    (ho : o.op = .call { callee := .builtin .append, args := #[s, x], argTypes := #[22, 22] })
    {B : Nat} {A0 : Option Addr} {n0 c0 : Nat} {l0 : List UInt8} (hs : a.eval s = .slice A0 n0 c0) (hown : Own w B A0 n0 c0 l0)
    {A : Option Addr} {m c : Nat} {l : List UInt8} (hx : a.eval x = .slice A m c) (hr : Bs w A m c l) (hb : n0 + m ≤ 140737488355328) (hbase : B ≤ w.heap.size)
    (h : ∀ A' c' w', Own w' B A' (n0 + m) c' (l0 ++ l) → w.grownBy w' (A0.map (·.block)) → (∀ ad, A' = some ad → (A0.map (·.block) = some ad.block ∨ ad.block = w.heap.size)) → K (a.put o.dst (.slice A' (n0 + m) c')) w') :
    if Region.wanted o (yielded ops a.tmps) = true then Oper.wp Try.prog o a w K Q else E := by
  have hw : Region.wanted o (yielded ops a.tmps) = true := by simp [Region.wanted, hgd]
  rw [if_pos hw]
  have hl : m = (bvs l).length := by simp [hr.2]
  obtain ⟨v', w', hrun, h1, h2, h3⟩ := run_app E8 B o.type (.slice A0 n0 c0) n0 (bvs l0) hown.1 A m c (bvs l) (by omega) (fun hm => by obtain ⟨ad, e, _, hc⟩ := hr.1.2.2 (by omega); exact ⟨ad, e, hc⟩) (bvs_one l) (by omega) hb hbase
  rw [show bvs l0 ++ bvs l = bvs (l0 ++ l) by simp [bvs]] at h1
  obtain ⟨A', c', rfl, ho'⟩ := Own.of h1
  unfold Oper.wp execOp
  simp only [ho, resolve, invoke, builtin, Sem.run_bind, Sem.run_pure, Result.andThen_ok, List.map_toArray, List.map_cons, List.map_nil, hs, hx, hrun]
  refine h A' c' w' ho' ?_ ?_
  · cases A0 <;> exact h2
  · intro ad e
    subst e
    cases A0 with
    | none => rcases h3 with h3 | h3 <;> simp [Value.ownBlock] at h3; exact .inr h3
    | some a0 => rcases h3 with h3 | h3 <;> simp [Value.ownBlock] at h3 <;> simp [h3]
/-- Behind an append to a row of one's own. -/
theorem Own.grew {w0 w w' : World} {B : Nat} {A : Option Addr} {n c : Nat} {l : List UInt8} (hown : Own w B A n c l) (h : Below B w0 w) (hB : B ≤ w.heap.size) (hg : w.grownBy w' (A.map (·.block))) : Below B w0 w' :=
  h.grown hg hB (fun i e => by
    cases A with
    | none => cases e
    | some ad => cases e; exact (hown.blk _ rfl).1)
end Go.Proofs.Ytjbnoamoadaknaa
end
