/- Plain laws of layer 24: one-pass packets, there and back. -/
import Derived.Test.YtegbncngencfnaaLj
namespace Go.Proofs.Ytegbncngencfnaa

theorem u8i {z : Int} (h0 : 0 ≤ z) (h1 : z ≤ 255) : ((UInt8.ofNat z.toNat).toNat : Int) = z := by
  rw [UInt8.toNat_ofNat']; omega
theorem u8n {k : Nat} (h1 : k ≤ 255) : (UInt8.ofNat k).toNat = k := by
  rw [UInt8.toNat_ofNat']; omega
theorem tailP_put (v ty ha pu : Int) (salt : List UInt8) {iss : List UInt8} {n : Nat} (hn : iss.length = n) (la : Bool) (ex : List UInt8) :
    tailP v ty ha pu salt n (iss ++ ([if la then 1 else 0] ++ ex)) = if ex = [] then ((v, ty, ha, pu, salt, iss, la), 0) else (noP, 3) := by
  rw [tailP, List.drop_left' hn, List.take_left' hn, List.singleton_append]
  simp only
  by_cases he : ex = []
  · rw [if_pos he, if_neg (by cases la <;> simp [he])]
    cases la <;> rfl
  · rw [if_neg he, if_pos (.inr he)]

theorem okP_ver {v ty ha pu : Int} {salt iss : List UInt8} (h : okP v ty ha pu salt iss) : v = 3 ∨ v = 6 := by
  have h1 := h.1
  rw [sizeS] at h1
  by_cases h3 : v = 3
  · exact .inl h3
  · by_cases h6 : v = 6
    · exact .inr h6
    · rw [if_neg h3, if_neg h6] at h1; simp at h1

theorem parse_put {v ty ha pu : Int} {salt iss : List UInt8} (h : okP v ty ha pu salt iss) (la : Bool) (ex : List UInt8) :
    parseP ([UInt8.ofNat v.toNat, UInt8.ofNat ty.toNat, UInt8.ofNat ha.toNat, UInt8.ofNat pu.toNat] ++ saltB v salt ++ iss ++ [if la then 1 else 0] ++ ex) = if ex = [] then ((v, ty, ha, pu, salt, iss, la), 0) else (noP, 3) := by
  have hver := okP_ver h
  obtain ⟨_, h1, h2, h3, h4, h5, h6⟩ := h
  have hh := may_nat h3
  have hp := pub_nat h4
  have e0 : ((UInt8.ofNat v.toNat).toNat : Int) = v := by rcases hver with rfl | rfl <;> rfl
  have e1 := u8i h1 h2
  have e2 := u8i hh.1 hh.2
  have e3 := u8i hp.1 hp.2
  simp only [List.cons_append, List.nil_append, List.append_assoc, parseP, e0, e1, e2, e3, h3, h4, if_true]
  rw [if_pos hver]
  rcases hver with rfl | rfl
  · have hs : salt = [] := by
      have : (salt.length : Int) = 0 := h5
      exact List.length_eq_zero_iff.1 (by omega)
    subst hs
    have hi : iss.length = 8 := by
      have : (iss.length : Int) = 8 := h6
      omega
    rw [if_neg (by omega), saltB, if_neg (by omega), List.nil_append]
    exact tailP_put _ _ _ _ _ hi la ex
  · have hs : (salt.length : Int) = saltS ha := h5
    have hr := saltS_range ha
    have hi : iss.length = 32 := by
      have : (iss.length : Int) = 32 := h6
      omega
    have hk : (UInt8.ofNat salt.length).toNat = salt.length := u8n (by omega)
    rw [if_pos rfl, saltB, if_pos rfl, List.cons_append]
    simp only [hk]
    rw [if_pos hs, if_neg (by simp only [List.length_append]; omega), List.take_left' rfl, List.drop_left' rfl]
    exact tailP_put _ _ _ _ _ hi la ex

theorem emitP_ok {v ty ha pu : Int} {salt iss : List UInt8} {la : Bool} (h : (emitP v ty ha pu salt iss la).2 = 0) : okP v ty ha pu salt iss := by
  rw [emitP] at h
  by_cases hk : okP v ty ha pu salt iss
  · exact hk
  · rw [if_neg hk] at h; simp at h
theorem emitP_no {v ty ha pu : Int} {salt iss : List UInt8} {la : Bool} (h : (emitP v ty ha pu salt iss la).2 ≠ 0) : emitP v ty ha pu salt iss la = ([], 1) := by
  rw [emitP] at h ⊢
  by_cases hk : okP v ty ha pu salt iss
  · rw [if_pos hk] at h; simp at h
  · rw [if_neg hk]
/-- What is emitted is parsed as it was; with one byte more it is none. -/
theorem passBack {v ty ha pu : Int} {salt iss : List UInt8} {la : Bool} (h : (emitP v ty ha pu salt iss la).2 = 0) :
    walkP (emitP v ty ha pu salt iss la).1 = ((v, ty, ha, pu, salt, iss, la), 0) ∧ walkP ((emitP v ty ha pu salt iss la).1 ++ [0]) = (noP, 3) := by
  have hk := emitP_ok h
  rw [emitP, if_pos hk]
  refine ⟨?_, ?_⟩
  · have := parse_put hk la []
    rw [List.append_nil, if_pos rfl] at this
    rw [walkP_parse]
    exact this
  · have := parse_put hk la [0]
    rw [walkP_parse]
    exact this.trans (if_neg (show ¬ ([0] : List UInt8) = [] by simp))

theorem walkP_no {b : List UInt8} (h : (walkP b).2 ≠ 0) : (walkP b).1 = noP := by
  have hw := walkP_end b
  rw [hw] at h ⊢
  simp only [endP] at h ⊢
  split
  · rename_i h0
    rw [if_pos h0] at h
    exact absurd rfl h
  · rfl

theorem tailP_get {v ty ha pu : Int} {salt : List UInt8} {n : Nat} {r : List UInt8} (h : (tailP v ty ha pu salt n r).2 = 0) :
    ∃ la : Bool, tailP v ty ha pu salt n r = ((v, ty, ha, pu, salt, r.take n, la), 0) ∧ (r.take n).length = n ∧ r = r.take n ++ [if la then 1 else 0] := by
  have e : r = r.take n ++ r.drop n := (List.take_append_drop n r).symm
  rw [tailP] at h ⊢
  cases hd : r.drop n with
  | nil => rw [hd] at h; simp at h
  | cons x s =>
    rw [hd] at h
    simp only at h ⊢
    by_cases hx : 1 < (x.toNat : Int) ∨ s ≠ []
    · rw [if_pos hx] at h; simp at h
    · rw [if_neg hx]
      have hlen : n < r.length := by
        rcases Nat.lt_or_ge n r.length with h1 | h1
        · exact h1
        · rw [List.drop_eq_nil_of_le h1] at hd; cases hd
      refine ⟨decide ((x.toNat : Int) = 1), rfl, by rw [List.length_take]; omega, ?_⟩
      have hs : s = [] := Classical.byContradiction fun h => hx (.inr h)
      have h1 : ¬ 1 < (x.toNat : Int) := fun h => hx (.inl h)
      rw [hd, hs] at e
      rw [show (if decide ((x.toNat : Int) = 1) = true then (1 : UInt8) else 0) = x by
        by_cases h2 : (x.toNat : Int) = 1
        · rw [decide_eq_true h2, if_pos rfl]; exact UInt8.toNat_inj.1 (by simp; omega)
        · rw [decide_eq_false h2, if_neg (by simp)]; exact UInt8.toNat_inj.1 (by simp; omega)]
      exact e

/-- What is parsed is emitted as it was. -/
theorem passOnly {b : List UInt8} (h : (walkP b).2 = 0) :
    emitP (walkP b).1.1 (walkP b).1.2.1 (walkP b).1.2.2.1 (walkP b).1.2.2.2.1 (walkP b).1.2.2.2.2.1 (walkP b).1.2.2.2.2.2.1 (walkP b).1.2.2.2.2.2.2 = (b, 0) := by
  rw [walkP_parse] at h ⊢
  match b, h with
  | [], h => simp [parseP] at h
  | [v], h => simp only [parseP] at h; split at h <;> simp at h
  | [v, ty], h => simp only [parseP] at h; split at h <;> simp at h
  | v :: ty :: ha :: r2, h =>
    simp only [parseP] at h ⊢
    by_cases hv : (v.toNat : Int) = 3 ∨ (v.toNat : Int) = 6
    rotate_left
    · rw [if_neg hv] at h; simp at h
    rw [if_pos hv] at h ⊢
    by_cases hm : mayS (ha.toNat : Int) (v.toNat : Int) = true
    rotate_left
    · rw [if_neg hm] at h; simp at h
    rw [if_pos hm] at h ⊢
    match r2, h with
    | [], h => simp at h
    | pu :: r3, h =>
      simp only at h ⊢
      by_cases hp : pubS (pu.toNat : Int) = true
      rotate_left
      · rw [if_neg hp] at h; simp at h
      rw [if_pos hp] at h ⊢
      have b1 := ty.toNat_lt
      have en : ∀ x : UInt8, UInt8.ofNat ((x.toNat : Int)).toNat = x := fun x => by simp
      by_cases h6 : (v.toNat : Int) = 6
      · rw [if_pos h6] at h ⊢
        match r3, h with
        | [], h => simp at h
        | k :: r4, h =>
          simp only at h ⊢
          by_cases hk : (k.toNat : Int) = saltS (ha.toNat : Int)
          rotate_left
          · rw [if_neg hk] at h; simp at h
          rw [if_pos hk] at h ⊢
          by_cases h7 : r4.length < k.toNat
          · rw [if_pos h7] at h; simp at h
          rw [if_neg h7] at h ⊢
          obtain ⟨la, e, hl, hr⟩ := tailP_get h
          rw [e]
          simp only
          have hsl : (r4.take k.toNat).length = k.toNat := by rw [List.length_take]; omega
          have hz : sizeS (v.toNat : Int) (ha.toNat : Int) = (saltS (ha.toNat : Int), 32, true) := by rw [sizeS, if_neg (by omega), if_pos h6]
          rw [emitP, if_pos ⟨by rw [hz], by omega, by omega, hm, hp, by rw [hz, hsl]; exact hk, by rw [hz, hl]; rfl⟩, en, en, en, en, saltB, if_pos h6, hsl, show UInt8.ofNat k.toNat = k by simp]
          simp only [List.cons_append, List.nil_append, List.append_assoc]
          rw [← hr, List.take_append_drop]
      · rw [if_neg h6] at h ⊢
        have h3 := hv.resolve_right h6
        obtain ⟨la, e, hl, hr⟩ := tailP_get h
        rw [e]
        simp only
        have hz : sizeS (v.toNat : Int) (ha.toNat : Int) = (0, 8, true) := by rw [sizeS, if_pos h3]
        rw [emitP, if_pos ⟨by rw [hz], by omega, by omega, hm, hp, by rw [hz]; rfl, by rw [hz, hl]; rfl⟩, en, en, en, en, saltB, if_neg h6]
        simp only [List.cons_append, List.nil_append, List.append_assoc]
        rw [← hr]
end Go.Proofs.Ytegbncngencfnaa
