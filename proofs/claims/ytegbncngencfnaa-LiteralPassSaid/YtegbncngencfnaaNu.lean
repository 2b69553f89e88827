/- Natural numbers by words, and as bytes: plain laws. -/
import Derived.Test.YtegbncngencfnaaLk
import Derived.Lib.ItoaNum
namespace Go.Proofs.Ytegbncngencfnaa

/-- The number of words of base β, the lowest first. -/
def num (β : Nat) : List Nat → Nat
  | [] => 0
  | x :: xs => x + β * num β xs
def Lo (β : Nat) (xs : List Nat) : Prop := ∀ x ∈ xs, x < β
/-- The last word is not 0. -/
def Trim (xs : List Nat) : Prop := ∀ y, xs.getLast? = some y → y ≠ 0

theorem Lo.nil (β : Nat) : Lo β [] := fun x h => by cases h
theorem Lo.cons {β x : Nat} {xs : List Nat} (h : Lo β (x :: xs)) : x < β ∧ Lo β xs := ⟨h x (by simp), fun y hy => h y (by simp [hy])⟩
theorem Lo.at_ {β k : Nat} {xs : List Nat} (h : Lo β xs) (hk : k < xs.length) : xs[k] < β := h _ (List.getElem_mem hk)
theorem Lo.take {β k : Nat} {xs : List Nat} (h : Lo β xs) : Lo β (xs.take k) := fun x hx => h x (List.mem_of_mem_take hx)
theorem Lo.snoc {β x : Nat} {xs : List Nat} (h : Lo β xs) (hx : x < β) : Lo β (xs ++ [x]) := fun y hy => by
  rcases List.mem_append.1 hy with hy | hy
  · exact h y hy
  · rw [List.mem_singleton.1 hy]; exact hx
theorem Lo.set {β x k : Nat} {xs : List Nat} (h : Lo β xs) (hx : x < β) : Lo β (xs.set k x) := fun y hy => by
  rcases List.mem_or_eq_of_mem_set hy with hy | hy
  · exact h y hy
  · rw [hy]; exact hx
theorem Lo.zeros {β : Nat} (hβ : 0 < β) (n : Nat) : Lo β (List.replicate n 0) := fun y hy => by
  rw [(List.mem_replicate.1 hy).2]; exact hβ

theorem num_append (β : Nat) : ∀ xs ys : List Nat, num β (xs ++ ys) = num β xs + β ^ xs.length * num β ys
  | [], ys => by simp [num]
  | x :: xs, ys => by
    simp only [List.cons_append, num, num_append β xs ys, List.length_cons, Nat.pow_succ]
    rw [Nat.mul_add, ← Nat.mul_assoc, Nat.mul_comm (β ^ xs.length) β, Nat.add_assoc]
theorem num_zeros (β n : Nat) : num β (List.replicate n 0) = 0 := by
  induction n with
  | zero => rfl
  | succ n ih => rw [List.replicate_succ, num, ih]; simp
theorem num_lt {β : Nat} (hβ : 0 < β) : ∀ {xs : List Nat}, Lo β xs → num β xs < β ^ xs.length
  | [], _ => by simp [num]
  | x :: xs, h => by
    obtain ⟨h1, h2⟩ := h.cons
    have ih := num_lt hβ h2
    rw [num, List.length_cons, Nat.pow_succ, Nat.mul_comm (β ^ xs.length) β]
    calc x + β * num β xs < β + β * num β xs := by omega
      _ = β * (num β xs + 1) := by rw [Nat.mul_add, Nat.mul_one, Nat.add_comm]
      _ ≤ β * β ^ xs.length := Nat.mul_le_mul_left _ ih
theorem num_digit {β : Nat} (hβ : 0 < β) : ∀ {xs : List Nat} (i : Nat), Lo β xs → num β xs / β ^ i % β = xs.getD i 0
  | [], i, _ => by simp [num]
  | x :: xs, 0, h => by
    obtain ⟨h1, _⟩ := h.cons
    simp [num, Nat.add_mul_mod_self_left, Nat.mod_eq_of_lt h1]
  | x :: xs, i + 1, h => by
    obtain ⟨h1, h2⟩ := h.cons
    have ih := num_digit hβ i h2
    have e : (x + β * num β xs) / β = num β xs := by rw [Nat.add_mul_div_left _ _ hβ, Nat.div_eq_of_lt h1, Nat.zero_add]
    rw [num, Nat.pow_succ, Nat.mul_comm (β ^ i) β, ← Nat.div_div_eq_div_mul, e, ih]
    simp
theorem num_set {β : Nat} : ∀ {xs : List Nat} {k : Nat} (v : Nat) (hk : k < xs.length), num β (xs.set k v) + β ^ k * xs[k] = num β xs + β ^ k * v
  | x :: xs, 0, v, _ => by simp [num]; omega
  | x :: xs, k + 1, v, hk => by
    have ih := num_set (β := β) v (k := k) (xs := xs) (by simpa using hk)
    simp only [List.set_cons_succ, num, List.getElem_cons_succ]
    have e : ∀ q : Nat, β ^ (k + 1) * q = β * (β ^ k * q) := fun q => by rw [Nat.pow_succ, Nat.mul_comm (β ^ k) β, Nat.mul_assoc]
    rw [e, e]
    have := congrArg (β * ·) ih
    simp only [Nat.mul_add] at this
    omega
theorem num_take_zeros {β n : Nat} {xs : List Nat} (h : ∀ j (hj : j < xs.length), n ≤ j → xs[j] = 0) : num β (xs.take n) = num β xs := by
  have e : xs.drop n = List.replicate (xs.drop n).length 0 := by
    refine List.eq_replicate_iff.2 ⟨rfl, fun b hb => ?_⟩
    obtain ⟨j, hj, rfl⟩ := List.getElem_of_mem hb
    rw [List.getElem_drop]
    exact h _ _ (by omega)
  have := num_append β (xs.take n) (xs.drop n)
  rw [List.take_append_drop, e, num_zeros] at this
  rw [this]; simp

theorem Trim.cons {x : Nat} {xs : List Nat} (h : Trim (x :: xs)) : Trim xs := fun y hy => by
  refine h y ?_
  cases xs with
  | nil => cases hy
  | cons z zs => rw [List.getLast?_cons_cons]; exact hy
theorem trim_zero {β : Nat} (hβ : 0 < β) : ∀ {xs : List Nat}, Trim xs → num β xs = 0 → xs = []
  | [], _, _ => rfl
  | x :: xs, h, h0 => by
    rw [num] at h0
    have h1 : x = 0 := by omega
    have h2 : num β xs = 0 := by
      rcases Nat.mul_eq_zero.1 (show β * num β xs = 0 by omega) with h | h
      · omega
      · exact h
    have e := trim_zero hβ h.cons h2
    subst e
    exact absurd h1 (h x (by simp))
/-- Words without noughts at the end are told by their number. -/
theorem trim_unique {β : Nat} (hβ : 0 < β) : ∀ {xs ys : List Nat}, Lo β xs → Lo β ys → Trim xs → Trim ys → num β xs = num β ys → xs = ys
  | [], ys, _, _, _, hy, e => (trim_zero hβ hy (by rw [← e]; rfl)).symm
  | x :: xs, [], _, _, hx, _, e => trim_zero hβ hx (by rw [e]; rfl)
  | x :: xs, y :: ys, lx, ly, hx, hy, e => by
    obtain ⟨l1, l2⟩ := lx.cons
    obtain ⟨m1, m2⟩ := ly.cons
    simp only [num] at e
    have e1 : x = y := by
      have := congrArg (· % β) e
      simpa [Nat.add_mul_mod_self_left, Nat.mod_eq_of_lt l1, Nat.mod_eq_of_lt m1] using this
    subst e1
    have e2 : num β xs = num β ys := Nat.eq_of_mul_eq_mul_left hβ (by omega)
    rw [trim_unique hβ l2 m2 hx.cons hy.cons e2]
theorem trim_take {n : Nat} {xs : List Nat} (hn : n ≤ xs.length) (h : n = 0 ∨ ∃ hj : n - 1 < xs.length, xs[n - 1] ≠ 0) : Trim (xs.take n) := fun y hy => by
  rcases h with rfl | ⟨hj, h⟩
  · simp at hy
  · rcases Nat.eq_zero_or_pos n with rfl | hp
    · simp at hy
    · rw [List.getLast?_eq_getElem?, List.length_take, Nat.min_eq_left hn, List.getElem?_take, if_pos (by omega), List.getElem?_eq_getElem hj] at hy
      injection hy with hy
      rw [← hy]; exact h

/-- How many bits a number has. -/
def nbits (n : Nat) : Nat := if n = 0 then 0 else n.log2 + 1
theorem nbits_zero : nbits 0 = 0 := rfl
theorem nbits_of {n k : Nat} (h1 : 2 ^ k ≤ n) (h2 : n < 2 ^ (k + 1)) : nbits n = k + 1 := by
  have hp := Nat.two_pow_pos k
  have h0 : n ≠ 0 := by omega
  have := (Nat.log2_eq_iff h0).2 ⟨h1, h2⟩
  rw [nbits, if_neg h0, this]
theorem nbits_lt (n : Nat) : n < 2 ^ nbits n := by
  unfold nbits
  split
  · rename_i h; subst h; decide
  · exact Nat.lt_log2_self
theorem nbits_le {n : Nat} (h : n ≠ 0) : 2 ^ (nbits n - 1) ≤ n := by
  rw [nbits, if_neg h]
  exact Nat.log2_self_le h
theorem nbits_pos {n : Nat} (h : n ≠ 0) : 1 ≤ nbits n := by rw [nbits, if_neg h]; omega
theorem nbits_le_of {n k : Nat} (h : n < 2 ^ k) : nbits n ≤ k := by
  by_cases h0 : n = 0
  · subst h0; exact Nat.zero_le _
  · have h1 := nbits_le h0
    have hp := nbits_pos h0
    have : 2 ^ (nbits n - 1) < 2 ^ k := Nat.lt_of_le_of_lt h1 h
    have := (Nat.pow_lt_pow_iff_right (by decide : 1 < 2)).1 this
    omega
theorem nbits_bitLen {x : Nat} (h : x < 2 ^ 64) : Lib.bitLen x = nbits x := by
  by_cases h0 : x = 0
  · subst h0; rfl
  · obtain ⟨h1, h2, h3⟩ := Lib.bitLenAux_bounds 64 x h h0
    show Lib.bitLenAux 64 x = nbits x
    generalize Lib.bitLenAux 64 x = k at h1 h2 h3
    obtain ⟨k, rfl⟩ : ∃ j, k = j + 1 := ⟨k - 1, by omega⟩
    exact (nbits_of (by simpa using h2) h3).symm
/-- A top word that is not 0 tells the bits. -/
theorem nbits_top {b lo w i : Nat} (hw : w ≠ 0) (hlo : lo < 2 ^ (b * i)) : nbits (lo + 2 ^ (b * i) * w) = b * i + nbits w := by
  have h1 := nbits_le hw
  have h2 := nbits_lt w
  have hp := nbits_pos hw
  obtain ⟨k, hk⟩ : ∃ k, nbits w = k + 1 := ⟨nbits w - 1, by omega⟩
  rw [hk] at h1 h2 ⊢
  simp only [Nat.add_sub_cancel] at h1
  refine nbits_of (k := b * i + k) ?_ ?_
  · rw [Nat.pow_add]
    exact Nat.le_trans (Nat.mul_le_mul_left _ h1) (by omega)
  · rw [Nat.add_assoc, Nat.pow_add (m := b * i)]
    calc lo + 2 ^ (b * i) * w < 2 ^ (b * i) + 2 ^ (b * i) * w := by omega
      _ = 2 ^ (b * i) * (w + 1) := by rw [Nat.mul_add, Nat.mul_one, Nat.add_comm]
      _ ≤ _ := Nat.mul_le_mul_left _ h2

/-- The number of bytes, the highest first. -/
def nb (l : List UInt8) : Nat := l.foldl (fun a b => a * 256 + b.toNat) 0
theorem nb_nil : nb [] = 0 := rfl
theorem nb_snoc (l : List UInt8) (b : UInt8) : nb (l ++ [b]) = nb l * 256 + b.toNat := by simp [nb]
theorem nb_from (l : List UInt8) : ∀ a : Nat, l.foldl (fun a b => a * 256 + b.toNat) a = a * 256 ^ l.length + nb l := by
  induction l with
  | nil => intro a; simp [nb]
  | cons b l ih =>
    intro a
    have e0 : nb (b :: l) = (0 * 256 + b.toNat) * 256 ^ l.length + nb l := ih (0 * 256 + b.toNat)
    have e : (b :: l).foldl (fun a b => a * 256 + b.toNat) a = (a * 256 + b.toNat) * 256 ^ l.length + nb l := ih (a * 256 + b.toNat)
    have e1 : a * 256 ^ (l.length + 1) = a * 256 * 256 ^ l.length := by rw [Nat.pow_succ, Nat.mul_comm (256 ^ l.length) 256, Nat.mul_assoc]
    rw [e, e0, List.length_cons, e1, Nat.add_mul]
    simp only [Nat.zero_mul, Nat.zero_add]
    omega
theorem nb_append (x y : List UInt8) : nb (x ++ y) = nb x * 256 ^ y.length + nb y := by
  rw [nb, List.foldl_append, nb_from y]; rfl
theorem nb_cons (b : UInt8) (l : List UInt8) : nb (b :: l) = b.toNat * 256 ^ l.length + nb l := by
  have := nb_append [b] l
  simpa [nb] using this
theorem nb_lt (l : List UInt8) : nb l < 256 ^ l.length := by
  induction l with
  | nil => decide
  | cons b l ih =>
    rw [nb_cons, List.length_cons, Nat.pow_succ, Nat.mul_comm (256 ^ l.length) 256]
    have hb := b.toNat_lt
    calc b.toNat * 256 ^ l.length + nb l < b.toNat * 256 ^ l.length + 256 ^ l.length := by omega
      _ = (b.toNat + 1) * 256 ^ l.length := by rw [Nat.add_mul, Nat.one_mul]
      _ ≤ _ := Nat.mul_le_mul_right _ (by omega)
theorem nb_be (k n : Nat) : nb (be k n) = n % 256 ^ k := by
  induction k with
  | zero => simp [be, nb, Nat.mod_one]
  | succ k ih =>
    have e : 256 ^ (k + 1) = 256 ^ k * 256 := Nat.pow_succ 256 k
    have h := Nat.mod_mul (a := 256 ^ k) (b := 256) (x := n)
    rw [be, nb_cons, be_length, ih, UInt8.toNat_ofNat', e, h]
    have : n / 256 ^ k % 2 ^ 8 = n / 256 ^ k % 256 := rfl
    rw [this, Nat.mul_comm]
    omega
theorem be_nb (l : List UInt8) : be l.length (nb l) = l := by
  induction l with
  | nil => rfl
  | cons b l ih =>
    have h1 := nb_lt l
    have hb := b.toNat_lt
    have hp : 0 < 256 ^ l.length := Nat.pow_pos (by decide)
    rw [List.length_cons, be, nb_cons]
    have e1 : (b.toNat * 256 ^ l.length + nb l) / 256 ^ l.length = b.toNat := by
      rw [Nat.mul_comm, Nat.mul_add_div hp, Nat.div_eq_of_lt h1, Nat.add_zero]
    rw [e1]
    congr 1
    · simp
    · have : ∀ (k a c : Nat), be k (a * 256 ^ k + c) = be k c := fun k => by
        induction k with
        | zero => intro a c; rfl
        | succ k ih2 =>
          intro a c
          have e2 : a * 256 ^ (k + 1) + c = a * 256 * 256 ^ k + c := by rw [Nat.pow_succ, Nat.mul_comm (256 ^ k) 256, Nat.mul_assoc]
          rw [be, be, e2, ih2 (a * 256) c]
          congr 1
          have hp2 : 0 < 256 ^ k := Nat.pow_pos (by decide)
          rw [Nat.mul_comm (a * 256), Nat.mul_add_div hp2]
          apply UInt8.toNat_inj.1
          simp only [UInt8.toNat_ofNat']
          omega
      rw [this, ih]
end Go.Proofs.Ytegbncngencfnaa
