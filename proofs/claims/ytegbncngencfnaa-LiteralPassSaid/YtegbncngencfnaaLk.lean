/- What is taken off bytes, by what stands there. -/
import Derived.Test.YtegbncngencfnaaPut
namespace Go.Proofs.Ytegbncngencfnaa
open Go.RowKit

theorem val_be_aux (k : Nat) (hk : k ≤ 8) (n : Nat) : ∀ a : Nat, a * 256 ^ k + n % 256 ^ k < 18446744073709551616 → (be k n).foldl valStep (a : Int) = ((a * 256 ^ k + n % 256 ^ k : Nat) : Int) := by
  induction k with
  | zero => intro a _; simp [be, Nat.mod_one]
  | succ k ih =>
    intro a ha
    rw [be, List.foldl_cons]
    have hp : 0 < 256 ^ k := Nat.pow_pos (by omega)
    have e1 : n % 256 ^ (k + 1) = (n / 256 ^ k % 256) * 256 ^ k + n % 256 ^ k := by
      rw [Nat.pow_succ, Nat.mod_mul, Nat.mul_comm (256 ^ k) (n / 256 ^ k % 256), Nat.add_comm]
    have e2 : a * 256 ^ (k + 1) + n % 256 ^ (k + 1) = (a * 256 + n / 256 ^ k % 256) * 256 ^ k + n % 256 ^ k := by
      rw [e1, Nat.pow_succ, Nat.add_mul, Nat.mul_assoc, Nat.mul_comm 256 (256 ^ k), Nat.add_assoc]
    have hlt : a * 256 + n / 256 ^ k % 256 < 18446744073709551616 := by
      have : (a * 256 + n / 256 ^ k % 256) * 1 ≤ (a * 256 + n / 256 ^ k % 256) * 256 ^ k := Nat.mul_le_mul_left _ hp
      omega
    have e3 : valStep (a : Int) (UInt8.ofNat (n / 256 ^ k)) = ((a * 256 + n / 256 ^ k % 256 : Nat) : Int) := by
      unfold valStep
      simp only [UInt8.toNat_ofNat']
      omega
    rw [e3, ih (by omega) _ (by rw [← e2]; exact ha), e2]
theorem val_be {k n : Nat} (hk : k ≤ 8) (hn : n < 256 ^ k) : val (be k n) = (n : Int) := by
  have h8 : 256 ^ k ≤ 256 ^ 8 := Nat.pow_le_pow_right (by omega) hk
  have := val_be_aux k hk n 0 (by rw [Nat.mod_eq_of_lt hn]; omega)
  rw [Nat.mod_eq_of_lt hn] at this
  simpa [val] using this
/-- At place a of l stands r. -/
def Lk (l : List UInt8) (a : Nat) (r : List UInt8) : Prop := l.drop a = r ∧ a ≤ l.length
section
variable {l x r : List UInt8} {a : Nat}
theorem Lk.zero (l : List UInt8) : Lk l 0 l := ⟨rfl, Nat.zero_le _⟩
theorem Lk.len (h : Lk l a r) : l.length = a + r.length := by
  have := h.2
  rw [← h.1, List.length_drop]
  omega
theorem Lk.step (h : Lk l a (x ++ r)) : Lk l (a + x.length) r := by
  refine ⟨?_, ?_⟩
  · rw [← List.drop_drop, h.1]; simp
  · have := h.len
    simp only [List.length_append] at this
    omega
theorem Lk.cons {b : UInt8} (h : Lk l a (b :: r)) : Lk l (a + 1) r := Lk.step (x := [b]) h
theorem takeS_ok (h : Lk l a (x ++ r)) {n : Int} (hn : n = x.length) : takeS l a n = (x, 0, a + x.length) := by
  subst hn
  have := h.len
  simp only [List.length_append] at this
  rw [takeS, if_neg (by omega), if_neg (by omega), h.1]
  simp
theorem takeS_sh (h : Lk l a r) {n : Int} (hn : (r.length : Int) < n) : takeS l a n = ([], 2, a) := by
  have := h.len
  rw [takeS, if_neg (by omega), if_pos (by omega)]
theorem numS_ok {k v : Nat} (h : Lk l a (be k v ++ r)) (h1 : 1 ≤ k) (h8 : k ≤ 8) (hv : v < 256 ^ k) {n : Int} (hn : n = k) : numS l a n = ((v : Int), 0, a + k) := by
  subst hn
  rw [numS, if_neg (by omega), takeS_ok h (by rw [be_length])]
  simp only
  rw [val_be h8 hv, be_length]
theorem numS_sh {k : Nat} (h : Lk l a r) (h1 : 1 ≤ k) (h8 : k ≤ 8) (hk : r.length < k) {n : Int} (hn : n = k) : numS l a n = (0, 2, a) := by
  subst hn
  rw [numS, if_neg (by omega), takeS_sh h (by omega)]
  rfl
end
end Go.Proofs.Ytegbncngencfnaa
