/- Plain laws of layer 24: one-pass packets, what the reader makes of bytes; there and back. -/
import Derived.Test.YtegbncngencfnaaLi
namespace Go.Proofs.Ytegbncngencfnaa

abbrev noP : PassV := (0, 0, 0, 0, [], [], false)
/-- What stands behind the salt: the issuer, and whether it is the last. -/
def tailP (v ty ha pu : Int) (salt : List UInt8) (n : Nat) (r : List UInt8) : PassV × Int :=
  match r.drop n with
  | [] => (noP, 2)
  | x :: s => if 1 < (x.toNat : Int) ∨ s ≠ [] then (noP, 3) else ((v, ty, ha, pu, salt, r.take n, decide ((x.toNat : Int) = 1)), 0)
/-- What a one-pass packet's bytes come to. -/
def parseP : List UInt8 → PassV × Int
  | [] => (noP, 2)
  | v :: r => if (v.toNat : Int) = 3 ∨ (v.toNat : Int) = 6 then (match r with
      | [] => (noP, 2)
      | [_] => (noP, 2)
      | ty :: ha :: r2 => if mayS ha.toNat v.toNat = true then (match r2 with
          | [] => (noP, 2)
          | pu :: r3 => if pubS pu.toNat = true then (if (v.toNat : Int) = 6 then (match r3 with
                | [] => (noP, 2)
                | k :: r4 => if (k.toNat : Int) = saltS ha.toNat then (if r4.length < k.toNat then (noP, 2) else tailP v.toNat ty.toNat ha.toNat pu.toNat (r4.take k.toNat) 32 (r4.drop k.toNat)) else (noP, 3))
              else tailP v.toNat ty.toNat ha.toNat pu.toNat [] 8 r3) else (noP, 9)) else (noP, 9)) else (noP, 3)

/-- The reader's way from the issuer on. -/
def endP (l : List UInt8) (v ty ha pu : Int) (salt : List UInt8) (n : Int) (s : Rs) : PassV × Int :=
  let x11 := bytesR l s n
  let x12 := numR l x11.2 1
  let s13 := failR x12.2 (decide (1 < x12.1) || decide ((x12.2.at_ : Int) < l.length)) 3
  if s13.e = 0 then ((v, ty, ha, pu, salt, x11.1, decide (x12.1 = 1)), 0) else (noP, s13.e)
theorem endP_bad {l : List UInt8} {v ty ha pu : Int} {salt : List UInt8} {n : Int} {a : Nat} {e : Int} (he : e ≠ 0) : endP l v ty ha pu salt n ⟨a, e⟩ = (noP, e) := by
  simp only [endP, bytesR_bad he, numR_bad he, failR_bad he]
  rw [if_neg he]
theorem endP_ok {l r : List UInt8} {v ty ha pu : Int} {salt : List UInt8} {n a : Nat} (h : Lk l a r) : endP l v ty ha pu salt (n : Int) ⟨a, 0⟩ = tailP v ty ha pu salt n r := by
  rw [tailP]
  by_cases hn : r.length < n
  · have h1 := bytesR_sh h (n := (n : Int)) (by omega)
    simp only [endP, h1, numR_bad (e := 2) (by omega), failR_bad (e := 2) (by omega)]
    rw [List.drop_eq_nil_of_le (by omega)]
    rfl
  · have h' : Lk l a (r.take n ++ r.drop n) := by rw [List.take_append_drop]; exact h
    have hl : (r.take n).length = n := by rw [List.length_take]; omega
    have h1 := bytesR_ok h' (n := (n : Int)) (by rw [hl])
    have L2 := h'.step
    rw [hl] at h1 L2
    cases hd : r.drop n with
    | nil =>
      rw [hd] at L2
      have h2 := numR_sh1 L2
      simp only [endP, h1, h2, failR_bad (e := 2) (by omega)]
      rfl
    | cons x s =>
      rw [hd] at L2
      have h2 := numR_ok1 L2
      have hll := L2.cons.len
      simp only [endP, h1, h2]
      by_cases hx : 1 < (x.toNat : Int)
      · rw [decide_eq_true hx, Bool.true_or, failR_yes]
        exact (if_neg (show ¬ (3 : Int) = 0 by decide)).trans (if_pos (.inl hx)).symm
      · rw [decide_eq_false hx, Bool.false_or]
        by_cases hs : s = []
        · subst hs
          simp only [List.length_nil, Nat.add_zero] at hll
          rw [decide_eq_false (by omega), failR_no]
          exact (if_pos rfl).trans (if_neg (fun h => h.elim hx (fun h => h rfl))).symm
        · have : 0 < s.length := List.length_pos_iff.2 hs
          rw [decide_eq_true (by omega), failR_yes]
          exact (if_neg (show ¬ (3 : Int) = 0 by decide)).trans (if_pos (.inr hs)).symm

theorem walkP_end (l : List UInt8) : walkP l = endP l (numR l ⟨0, 0⟩ 1).1 (numR l (failR (numR l ⟨0, 0⟩ 1).2 (!(sizeS (numR l ⟨0, 0⟩ 1).1 0).2.2) 3) 1).1
    (numR l (numR l (failR (numR l ⟨0, 0⟩ 1).2 (!(sizeS (numR l ⟨0, 0⟩ 1).1 0).2.2) 3) 1).2 1).1
    (numR l (failR (numR l (numR l (failR (numR l ⟨0, 0⟩ 1).2 (!(sizeS (numR l ⟨0, 0⟩ 1).1 0).2.2) 3) 1).2 1).2 (!mayS (numR l (numR l (failR (numR l ⟨0, 0⟩ 1).2 (!(sizeS (numR l ⟨0, 0⟩ 1).1 0).2.2) 3) 1).2 1).1 (numR l ⟨0, 0⟩ 1).1) 9) 1).1
    (saltR l (failR (numR l (failR (numR l (numR l (failR (numR l ⟨0, 0⟩ 1).2 (!(sizeS (numR l ⟨0, 0⟩ 1).1 0).2.2) 3) 1).2 1).2 (!mayS (numR l (numR l (failR (numR l ⟨0, 0⟩ 1).2 (!(sizeS (numR l ⟨0, 0⟩ 1).1 0).2.2) 3) 1).2 1).1 (numR l ⟨0, 0⟩ 1).1) 9) 1).2
      (!pubS (numR l (failR (numR l (numR l (failR (numR l ⟨0, 0⟩ 1).2 (!(sizeS (numR l ⟨0, 0⟩ 1).1 0).2.2) 3) 1).2 1).2 (!mayS (numR l (numR l (failR (numR l ⟨0, 0⟩ 1).2 (!(sizeS (numR l ⟨0, 0⟩ 1).1 0).2.2) 3) 1).2 1).1 (numR l ⟨0, 0⟩ 1).1) 9) 1).1) 9)
      (numR l (numR l (failR (numR l ⟨0, 0⟩ 1).2 (!(sizeS (numR l ⟨0, 0⟩ 1).1 0).2.2) 3) 1).2 1).1 (numR l ⟨0, 0⟩ 1).1).1
    (sizeS (numR l ⟨0, 0⟩ 1).1 0).2.1
    (saltR l (failR (numR l (failR (numR l (numR l (failR (numR l ⟨0, 0⟩ 1).2 (!(sizeS (numR l ⟨0, 0⟩ 1).1 0).2.2) 3) 1).2 1).2 (!mayS (numR l (numR l (failR (numR l ⟨0, 0⟩ 1).2 (!(sizeS (numR l ⟨0, 0⟩ 1).1 0).2.2) 3) 1).2 1).1 (numR l ⟨0, 0⟩ 1).1) 9) 1).2
      (!pubS (numR l (failR (numR l (numR l (failR (numR l ⟨0, 0⟩ 1).2 (!(sizeS (numR l ⟨0, 0⟩ 1).1 0).2.2) 3) 1).2 1).2 (!mayS (numR l (numR l (failR (numR l ⟨0, 0⟩ 1).2 (!(sizeS (numR l ⟨0, 0⟩ 1).1 0).2.2) 3) 1).2 1).1 (numR l ⟨0, 0⟩ 1).1) 9) 1).1) 9)
      (numR l (numR l (failR (numR l ⟨0, 0⟩ 1).2 (!(sizeS (numR l ⟨0, 0⟩ 1).1 0).2.2) 3) 1).2 1).1 (numR l ⟨0, 0⟩ 1).1).2 := rfl
theorem saltR_bad {l : List UInt8} {a : Nat} {e ha v : Int} (he : e ≠ 0) : saltR l ⟨a, e⟩ ha v = ([], ⟨a, e⟩) := by
  rw [saltR]
  split
  · simp only [numR_bad he, failR_bad he, bytesR_bad he]
  · rfl

theorem walkP_parse (l : List UInt8) : walkP l = parseP l := by
  rw [walkP_end]
  cases l with
  | nil =>
    have h1 := numR_sh1 (Lk.zero [])
    simp only [h1, failR_bad (e := 2) (by omega), numR_bad (e := 2) (by omega), saltR_bad (e := 2) (by omega), endP_bad (e := 2) (by omega), parseP]
  | cons v r =>
    have L1 : Lk (v :: r) 1 r := (Lk.zero (v :: r)).cons
    have h1 := numR_ok1 (Lk.zero (v :: r))
    simp only [h1, Nat.zero_add, parseP]
    by_cases hv : (v.toNat : Int) = 3 ∨ (v.toNat : Int) = 6
    rotate_left
    · have hz : sizeS (v.toNat : Int) 0 = (0, 0, false) := by rw [sizeS, if_neg (fun h => hv (.inl h)), if_neg (fun h => hv (.inr h))]
      simp only [hz, Bool.not_false, failR_yes, numR_bad (e := 3) (by omega), failR_bad (e := 3) (by omega), saltR_bad (e := 3) (by omega), endP_bad (e := 3) (by omega)]
      rw [if_neg hv]
    have hz : (sizeS (v.toNat : Int) 0).2.2 = true := by
      rcases hv with h | h <;> rw [h] <;> rfl
    simp only [hz, Bool.not_true, failR_no]
    rw [if_pos hv]
    match r, L1 with
    | [], L1 =>
      have h2 := numR_sh1 L1
      simp only [h2, failR_bad (e := 2) (by omega), numR_bad (e := 2) (by omega), saltR_bad (e := 2) (by omega), endP_bad (e := 2) (by omega)]
    | [ty], L1 =>
      have h2 := numR_ok1 L1
      have h3 := numR_sh1 L1.cons
      simp only [h2, h3, failR_bad (e := 2) (by omega), numR_bad (e := 2) (by omega), saltR_bad (e := 2) (by omega), endP_bad (e := 2) (by omega)]
    | ty :: ha :: r2, L1 =>
      have h2 := numR_ok1 L1
      have h3 := numR_ok1 L1.cons
      have L3 := L1.cons.cons
      simp only [h2, h3]
      cases hm : mayS (ha.toNat : Int) (v.toNat : Int) with
      | false =>
        simp only [Bool.not_false, failR_yes, numR_bad (e := 9) (by omega), failR_bad (e := 9) (by omega), saltR_bad (e := 9) (by omega), endP_bad (e := 9) (by omega)]
        rfl
      | true =>
        simp only [Bool.not_true, failR_no, if_true]
        match r2, L3 with
        | [], L3 =>
          have h4 := numR_sh1 L3
          simp only [h4, failR_bad (e := 2) (by omega), numR_bad (e := 2) (by omega), saltR_bad (e := 2) (by omega), endP_bad (e := 2) (by omega)]
        | pu :: r3, L3 =>
          have h4 := numR_ok1 L3
          have L4 := L3.cons
          simp only [h4]
          cases hp : pubS (pu.toNat : Int) with
          | false =>
            simp only [Bool.not_false, failR_yes, saltR_bad (e := 9) (by omega), endP_bad (e := 9) (by omega)]
            rfl
          | true =>
            simp only [Bool.not_true, failR_no, if_true]
            by_cases h6 : (v.toNat : Int) = 6
            · rw [if_pos h6]
              have hz2 : (sizeS (v.toNat : Int) 0).2.1 = ((32 : Nat) : Int) := by rw [h6]; rfl
              rw [hz2]
              simp only [saltR, if_pos h6]
              match r3, L4 with
              | [], L4 =>
                have h5 := numR_sh1 L4
                simp only [h5, failR_bad (e := 2) (by omega), bytesR_bad (e := 2) (by omega), endP_bad (e := 2) (by omega)]
              | k :: r4, L4 =>
                have h5 := numR_ok1 L4
                have L5 := L4.cons
                simp only [h5]
                by_cases hk : (k.toNat : Int) = saltS (ha.toNat : Int)
                · have hb : ((k.toNat : Int) != saltS (ha.toNat : Int)) = false := by rw [bne_eq_false_iff_eq]; exact hk
                  rw [hb, failR_no, if_pos hk]
                  by_cases h7 : r4.length < k.toNat
                  · have h8 := bytesR_sh L5 (n := (k.toNat : Int)) (by omega)
                    rw [h8, if_pos h7]
                    simp only [endP_bad (e := 2) (by omega)]
                  · have L5' : Lk (v :: ty :: ha :: pu :: k :: r4) (1 + 1 + 1 + 1 + 1) (r4.take k.toNat ++ r4.drop k.toNat) := by rw [List.take_append_drop]; exact L5
                    have hl : (r4.take k.toNat).length = k.toNat := by rw [List.length_take]; omega
                    have h8 := bytesR_ok L5' (n := (k.toNat : Int)) (by rw [hl])
                    have L6 := L5'.step
                    rw [h8, if_neg h7]
                    simp only
                    exact endP_ok L6
                · have hb : ((k.toNat : Int) != saltS (ha.toNat : Int)) = true := by rw [bne_iff_ne]; exact hk
                  rw [hb, failR_yes, if_neg hk]
                  simp only [bytesR_bad (e := 3) (by omega), endP_bad (e := 3) (by omega)]
            · rw [if_neg h6]
              have h3' : (v.toNat : Int) = 3 := hv.resolve_right h6
              have hz2 : (sizeS (v.toNat : Int) 0).2.1 = ((8 : Nat) : Int) := by rw [h3']; rfl
              rw [hz2]
              simp only [saltR, if_neg h6]
              exact endP_ok L4
end Go.Proofs.Ytegbncngencfnaa
