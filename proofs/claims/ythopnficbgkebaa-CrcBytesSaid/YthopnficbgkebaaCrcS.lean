/- The check sum of 24 bits, as numbers: plain laws. -/
namespace Go.Proofs.Ythopnficbgkebaa

/-- One bit's turn. -/
def turn1 (c : Nat) : Nat := if 16777216 ≤ 2 * c then (2 * c) ^^^ 25578747 else 2 * c
def turnK : Nat → Nat → Nat
  | 0, c => c
  | k + 1, c => turn1 (turnK k c)
def stepS (c : Nat) (b : UInt8) : Nat := turnK 8 (c ^^^ (b.toNat * 65536))
/-- The sum of l from c on. -/
def moreS (c : Nat) (l : List UInt8) : Nat := l.foldl stepS (c % 16777216)
theorem xor_top {a b : Nat} (ha : 16777216 ≤ a) (ha2 : a < 33554432) (hb : 16777216 ≤ b) (hb2 : b < 33554432) : a ^^^ b < 16777216 := by
  have h := Nat.xor_div_two_pow (a := a) (b := b) (n := 24)
  have e1 : a / 2 ^ 24 = 1 := by omega
  have e2 : b / 2 ^ 24 = 1 := by omega
  rw [e1, e2] at h
  have h2 : (a ^^^ b) / 2 ^ 24 = 0 := by rw [h]; rfl
  omega
theorem turn1_lt {c : Nat} (h : c < 16777216) : turn1 c < 16777216 := by
  unfold turn1
  split
  · exact xor_top (by omega) (by omega) (by omega) (by omega)
  · omega
theorem turnK_lt {c : Nat} (h : c < 16777216) : ∀ k, turnK k c < 16777216
  | 0 => h
  | k + 1 => turn1_lt (turnK_lt h k)
theorem xor_lt24 {a b : Nat} (ha : a < 16777216) (hb : b < 16777216) : a ^^^ b < 16777216 := Nat.xor_lt_two_pow (n := 24) ha hb
theorem stepS_lt {c : Nat} (h : c < 16777216) (b : UInt8) : stepS c b < 16777216 := by
  have := b.toNat_lt
  exact turnK_lt (xor_lt24 h (by omega)) 8
theorem foldl_lt (l : List UInt8) : ∀ (c : Nat), c < 16777216 → l.foldl stepS c < 16777216 := by
  induction l with
  | nil => intro c h; exact h
  | cons b l ih => intro c h; rw [List.foldl_cons]; exact ih _ (stepS_lt h b)
theorem moreS_lt (c : Nat) (l : List UInt8) : moreS c l < 16777216 := foldl_lt l _ (Nat.mod_lt _ (by omega))
theorem xor_cancel {a b t : Nat} (h : a ^^^ t = b ^^^ t) : a = b := by
  have := congrArg (· ^^^ t) h
  simpa [Nat.xor_assoc] using this
theorem turn1_inj {a b : Nat} (h : turn1 a = turn1 b) : a = b := by
  have par : ∀ x, (2 * x) ^^^ 25578747 = 2 * ((2 * x ^^^ 25578747) / 2) + 1 := fun x => by
    have h1 : ((2 * x) ^^^ 25578747) % 2 = 1 := by
      have := Nat.xor_mod_two_pow (a := 2 * x) (b := 25578747) (n := 1)
      simp only [Nat.pow_one] at this
      rw [this]
      have e : 2 * x % 2 = 0 := by omega
      rw [e, Nat.zero_xor]
    omega
  unfold turn1 at h
  split at h <;> split at h
  · have := xor_cancel h; omega
  · have := par a; omega
  · have := par b; omega
  · omega
theorem turnK_inj {a b : Nat} : ∀ k, turnK k a = turnK k b → a = b
  | 0, h => h
  | k + 1, h => turnK_inj k (turn1_inj h)
theorem stepS_inj {a b : Nat} (x : UInt8) (h : stepS a x = stepS b x) : a = b := xor_cancel (turnK_inj 8 h)
theorem stepS_byte {c : Nat} {x y : UInt8} (h : stepS c x = stepS c y) : x = y := by
  have h1 := turnK_inj 8 h
  rw [Nat.xor_comm c, Nat.xor_comm c] at h1
  have h2 := xor_cancel h1
  exact UInt8.toNat_inj.1 (by omega)
theorem foldl_inj (l : List UInt8) : ∀ (a b : Nat), l.foldl stepS a = l.foldl stepS b → a = b := by
  induction l with
  | nil => intro a b h; exact h
  | cons x l ih => intro a b h; rw [List.foldl_cons, List.foldl_cons] at h; exact stepS_inj x (ih _ _ h)
theorem moreS_append (c : Nat) (a b : List UInt8) : moreS (moreS c a) b = moreS c (a ++ b) := by
  unfold moreS
  rw [Nat.mod_eq_of_lt (foldl_lt a _ (Nat.mod_lt _ (by omega))), List.foldl_append]
theorem moreS_nil (c : Nat) (a : List UInt8) : moreS (moreS c a) [] = moreS c a := by rw [moreS_append, List.append_nil]
/-- ONE BYTE that is another one: another sum. -/
theorem moreS_one (c : Nat) (l : List UInt8) (k : Nat) (hk : k < l.length) (x : UInt8) (hx : x ≠ l[k]) : moreS c (l.set k x) ≠ moreS c l := by
  intro h
  unfold moreS at h
  have e1 : l = l.take k ++ l[k] :: l.drop (k + 1) := by simp
  have e2 : l.set k x = l.take k ++ x :: l.drop (k + 1) := by rw [List.set_eq_take_append_cons_drop]; simp [hk]
  rw [e2] at h
  conv at h => rhs; rw [e1]
  rw [List.foldl_append, List.foldl_append, List.foldl_cons, List.foldl_cons] at h
  exact hx (stepS_byte (foldl_inj _ _ _ h))
theorem stepS_def (c : Nat) (b : UInt8) : stepS c b = turnK 8 (c ^^^ (b.toNat * 65536)) := rfl
theorem turnK_zero (c : Nat) : turnK 0 c = c := rfl
theorem turnK_succ (k c : Nat) : turnK (k + 1) c = turn1 (turnK k c) := rfl
theorem turn1_yes {q : Nat} (h : 16777216 ≤ 2 * q) : turn1 q = (2 * q) ^^^ 25578747 := by unfold turn1; rw [if_pos h]
theorem turn1_no {q : Nat} (h : ¬ 16777216 ≤ 2 * q) : turn1 q = 2 * q := by unfold turn1; rw [if_neg h]
theorem moreS_zero (x : Nat) : x % 16777216 = moreS x [] := rfl
theorem moreS_snoc {c : Nat} {l : List UInt8} {k : Nat} (hk : k < l.length) : moreS c (l.take (k + 1)) = stepS (moreS c (l.take k)) l[k] := by
  unfold moreS
  rw [List.take_succ_eq_append_getElem hk, List.foldl_append, List.foldl_cons, List.foldl_nil]
attribute [irreducible] turn1 turnK stepS moreS
end Go.Proofs.Ythopnficbgkebaa
