/- Packets that are joined are split as they were: the plain law. -/
import Derived.Test.YtcakdlfhmdkocaaPs
import Derived.Test.YtcakdlfhmdkocaaTs
namespace Go.Proofs.Ytcakdlfhmdkocaa
open Go.RowKit

/-- The bytes x are taken as the packet p. -/
def Enc (p : Int × List UInt8) (x : List UInt8) : Prop := x ≠ [] ∧ ∀ t, takeF (x ++ t) = (p.1, p.2, t, 0)
/-- The bytes are packets, one behind the other. -/
def Encs : List (Int × List UInt8) → List UInt8 → Prop
  | [], b => b = []
  | p :: ps, b => ∃ x r, b = x ++ r ∧ Enc p x ∧ Encs ps r
theorem Encs.snoc {p : Int × List UInt8} {x : List UInt8} (hx : Enc p x) : ∀ {ps : List (Int × List UInt8)} {b : List UInt8}, Encs ps b → Encs (ps ++ [p]) (b ++ x)
  | [], b, h => by
    have h' : b = [] := h
    subst h'
    exact ⟨x, [], by simp, hx, rfl⟩
  | q :: ps, b, ⟨y, r, e, hy, ht⟩ => by
    subst e
    exact ⟨y, r ++ x, by simp, hy, ht.snoc hx⟩
theorem splitT_encs : ∀ {ps : List (Int × List UInt8)} {b : List UInt8} (acc : List (Int × List UInt8)) (f : Nat), Encs ps b → acc.length + ps.length ≤ 100 → ps.length < f → splitT f acc b = (acc ++ ps, 0)
  | [], b, acc, f, h, _, hf => by
    have h' : b = [] := h
    subst h'
    obtain ⟨f, rfl⟩ : ∃ g, f = g + 1 := ⟨f - 1, by simp at hf; omega⟩
    rw [splitT, if_pos rfl, List.append_nil]
  | p :: ps, b, acc, f, ⟨x, r, e, ⟨hx, ht⟩, hr⟩, hl, hf => by
    subst e
    simp only [List.length_cons] at hl hf
    obtain ⟨f, rfl⟩ : ∃ g, f = g + 1 := ⟨f - 1, by omega⟩
    rw [splitT, if_neg (by simp [hx]), if_neg (by omega), ht]
    simp only [if_true]
    rw [splitT_encs (acc ++ [(p.1, p.2)]) f hr (by simp; omega) (by omega)]
    simp
theorem splitF_encs {ps : List (Int × List UInt8)} {b : List UInt8} (h : Encs ps b) (hb : b.length ≤ 60000) (hl : ps.length ≤ 100) : splitF b = (ps, 0) := by
  rw [splitF, if_neg (by omega), splitT_encs [] 101 h (by simpa using hl) (by omega)]
  rfl

theorem headS_tag {tag : Int} {n : Nat} (h : (headS tag n).2 = 0) : checkS tag n 63 = 0 ∧ ∃ t : Nat, tag = t ∧ t ≤ 63 ∧ n ≤ 60000 ∧ (headS tag n).1 = UInt8.ofNat (192 + t) :: lenS n := by
  by_cases hc : checkS tag n 63 = 0
  · refine ⟨hc, ?_⟩
    rcases checkS_cases tag n 63 with ⟨h1, _⟩ | ⟨h1, _⟩ | ⟨_, h0, h63, _, hn⟩
    · omega
    · omega
    · obtain ⟨t, rfl⟩ := Int.eq_ofNat_of_zero_le h0
      exact ⟨t, rfl, by omega, by omega, by rw [headS, if_pos hc]; simp⟩
  · rw [headS, if_neg hc] at h
    exact absurd h hc
theorem enc_new {tag : Int} {body : List UInt8} (h : (headS tag body.length).2 = 0) : Enc (tag, body) ((headS tag body.length).1 ++ body) := by
  obtain ⟨_, t, rfl, ht, hn, e⟩ := headS_tag h
  rw [e]
  exact ⟨by simp, fun b => take_new ht hn b⟩
/-- What joining gives. -/
theorem joinT_ok : ∀ (ps : List (Int × List UInt8)) (out : List UInt8), (joinT ps out).2 = 0 → ∃ ys, (joinT ps out).1 = out ++ ys ∧ Encs ps ys ∧ (out ++ ys).length ≤ 60000 ∧ ∀ p ∈ ps, (headS p.1 p.2.length).2 = 0
  | [], out, h => by
    rw [joinT] at h ⊢
    split at h
    · cases h
    · rename_i hl
      rw [if_neg hl]
      exact ⟨[], by simp, rfl, by simpa using hl, fun p hp => by cases hp⟩
  | p :: ps, out, h => by
    rw [joinT] at h ⊢
    split at h
    · rename_i h0
      rw [if_pos h0]
      obtain ⟨ys, e, he, hl, ha⟩ := joinT_ok ps _ h
      refine ⟨(headS p.1 p.2.length).1 ++ p.2 ++ ys, by rw [e]; simp, ⟨_, ys, rfl, enc_new h0, he⟩, by simpa using hl, fun q hq => ?_⟩
      rcases List.mem_cons.1 hq with rfl | hq
      · exact h0
      · exact ha q hq
    · rename_i h0
      exact absurd h h0
theorem joinT_no : ∀ (ps : List (Int × List UInt8)) (out : List UInt8), (joinT ps out).2 ≠ 0 → (joinT ps out).1 = []
  | [], out, h => by
    rw [joinT] at h ⊢
    split at h
    · rename_i hl
      rw [if_pos hl]
    · exact absurd rfl h
  | p :: ps, out, h => by
    rw [joinT] at h ⊢
    split at h
    · rename_i h0
      rw [if_pos h0]
      exact joinT_no ps _ h
    · rename_i h0
      rw [if_neg h0]
theorem joinF_ok {ps : List (Int × List UInt8)} (h : (joinF ps).2 = 0) : Encs ps (joinF ps).1 ∧ (joinF ps).1.length ≤ 60000 ∧ ps.length ≤ 100 ∧ ∀ p ∈ ps, (headS p.1 p.2.length).2 = 0 := by
  rw [joinF] at h ⊢
  split at h
  · cases h
  · rename_i hl
    rw [if_neg hl]
    obtain ⟨ys, e, he, hl2, ha⟩ := joinT_ok ps [] h
    rw [e, List.nil_append]
    exact ⟨he, by simpa using hl2, by omega, ha⟩
theorem joinF_no {ps : List (Int × List UInt8)} (h : (joinF ps).2 ≠ 0) : (joinF ps).1 = [] := by
  rw [joinF] at h ⊢
  split at h
  · rename_i hl
    rw [if_pos hl]
  · rename_i hl
    rw [if_neg hl]
    exact joinT_no ps [] h
theorem split_join {ps : List (Int × List UInt8)} (h : (joinF ps).2 = 0) : splitF (joinF ps).1 = (ps, 0) := by
  obtain ⟨h1, h2, h3, _⟩ := joinF_ok h
  exact splitF_encs h1 h2 h3

/-- A packet with a head of one form or another (q: which one). -/
def headF (tag : Int) (n : Nat) (q : Int) : List UInt8 :=
  if q = 1 then (if (oldS tag n).2 = 0 then (oldS tag n).1 else (headS tag n).1) else
  if q = 2 then [UInt8.ofNat (192 + tag.toNat), 255, 0, 0, UInt8.ofNat (n / 256), UInt8.ofNat n] else (headS tag n).1
def headedS (tag : Int) (body : List UInt8) (q : Int) : List UInt8 :=
  if q = 3 ∧ (partsF tag [9] body).2 = 0 then (partsF tag [9] body).1 else headF tag body.length q ++ body
theorem oldS_ok {tag : Int} {n : Nat} (h : (oldS tag n).2 = 0) : ∃ t : Nat, tag = t ∧ t ≤ 15 ∧ (oldS tag n).1 = UInt8.ofNat (128 + 4 * t + oldW n) :: be (2 ^ oldW n) n := by
  by_cases hc : checkS tag n 15 = 0
  · rcases checkS_cases tag n 15 with ⟨h1, _⟩ | ⟨h1, _⟩ | ⟨_, h0, h15, _, hn⟩
    · omega
    · omega
    · obtain ⟨t, rfl⟩ := Int.eq_ofNat_of_zero_le h0
      exact ⟨t, rfl, by omega, by rw [oldS, if_pos hc]; simp⟩
  · rw [oldS, if_neg hc] at h
    exact absurd h hc
theorem take_five {t : Nat} (ht : t ≤ 63) {body : List UInt8} (hb : body.length ≤ 60000) (behind : List UInt8) :
    takeF (UInt8.ofNat (192 + t) :: 255 :: be 4 body.length ++ body ++ behind) = ((t : Int), body, behind, 0) := by
  have h0 : Lk (UInt8.ofNat (192 + t) :: 255 :: be 4 body.length ++ body ++ behind) 0 (UInt8.ofNat (192 + t) :: (255 :: (be 4 body.length ++ (body ++ behind)))) := lk_of (by simp)
  generalize UInt8.ofNat (192 + t) :: 255 :: be 4 body.length ++ body ++ behind = l at h0 ⊢
  have h1 := h0.cons
  have h2 := h1.cons.step
  rw [be_length] at h2
  have h3 := h2.step
  have h := goT_new h0 ht
  rw [freshT_end (longT_five h1 (by omega)) h2 rfl (by simp; omega)] at h
  rw [takeF_ok h rfl, h3.end_]
  rfl
theorem be4 {n : Nat} (h : n ≤ 60000) : be 4 n = [0, 0, UInt8.ofNat (n / 256), UInt8.ofNat n] := by
  have e1 : n / 256 ^ 3 = 0 := Nat.div_eq_of_lt (by omega)
  have e2 : n / 256 ^ 2 = 0 := Nat.div_eq_of_lt (by omega)
  simp only [be, e1, e2, Nat.pow_zero, Nat.pow_one, Nat.div_one]
  rfl
theorem parts_one {t : Nat} (hm : mayPart t = true) {body : List UInt8} (hb : body.length ≤ 60000) :
    partsF t [9] body = if body.length < 512 then ([], 1) else (UInt8.ofNat (192 + t) :: UInt8.ofNat 233 :: (body.take 512 ++ (lenS (body.drop 512).length ++ body.drop 512)), 0) := by
  have b1 : badSize true 9 body.length = decide (body.length < 512) := by unfold badSize; simp
  rw [partsF, if_pos hm]
  by_cases h1 : body.length < 512
  · rw [partsT_bad (by rw [b1]; simpa using h1), if_pos h1]
    rfl
  · rw [partsT_on (by rw [b1]; simpa using h1), if_neg h1, partsT, endT, if_neg (by omega)]
    show (_ ++ lenS (body.drop 512).length ++ body.drop 512, (0 : Int)) = _
    simp
theorem take_part {t : Nat} (hm : mayPart t = true) {body : List UInt8} (hb : body.length ≤ 60000) (h512 : 512 ≤ body.length) (behind : List UInt8) : takeF ((partsF t [9] body).1 ++ behind) = ((t : Int), body, behind, 0) := by
  have ht : t ≤ 63 := by
    obtain ⟨u, hu, h18⟩ := mayPart_le hm
    omega
  rw [parts_one hm hb, if_neg (by omega)]
  have h0 : Lk ((UInt8.ofNat (192 + t) :: UInt8.ofNat 233 :: (body.take 512 ++ (lenS (body.drop 512).length ++ body.drop 512))) ++ behind) 0
      (UInt8.ofNat (192 + t) :: UInt8.ofNat (224 + 9) :: (body.take 512 ++ (lenS (body.drop 512).length ++ (body.drop 512 ++ behind)))) := lk_of (by simp)
  simp only
  generalize (UInt8.ofNat (192 + t) :: UInt8.ofNat 233 :: (body.take 512 ++ (lenS (body.drop 512).length ++ body.drop 512))) ++ behind = l at h0 ⊢
  have h := goT_new h0 ht
  have hlen := h0.len
  simp only [List.length_cons, List.length_append] at hlen
  obtain ⟨f, hf⟩ : ∃ f, l.length = f + 1 := ⟨l.length - 1, by omega⟩
  have h1 := h0.cons
  have l1 : (body.take 512).length = 2 ^ 9 := by rw [List.length_take]; omega
  have l4 : (body.drop 512).length = body.length - 512 := List.length_drop
  have h2 := h1.cons.step
  rw [l1] at h2
  have h5 := h2.step
  have h6 := h5.step
  rw [hf, freshT_next h1 (by omega) hm (fun _ => by omega) l1 (by simp only [List.length_nil]; omega),
    freshT_end (longT_ok h2 (by omega)) h5 rfl (by simp only [List.length_append, List.length_nil, l1]; omega)] at h
  rw [takeF_ok h rfl]
  simp only
  rw [h6.end_, List.nil_append, List.take_append_drop]
theorem partsF_no {tag : Int} {zs : List Int} {body : List UInt8} (hm : mayPart tag = false) : (partsF tag zs body).2 ≠ 0 := by
  rw [partsF, if_neg (by simp [hm])]
  decide
theorem enc_headed {tag : Int} {body : List UInt8} (q : Int) (h : (headS tag body.length).2 = 0) : Enc (tag, body) (headedS tag body q) := by
  obtain ⟨_, t, rfl, ht, hn, e⟩ := headS_tag h
  have hnew := enc_new h
  unfold headedS
  split
  · rename_i hp
    by_cases hm : mayPart (t : Int) = true
    · have h1 := parts_one hm hn
      by_cases h512 : body.length < 512
      · rw [h1, if_pos h512] at hp
        exact absurd hp.2 (by decide)
      · refine ⟨?_, fun b => take_part hm hn (by omega) b⟩
        rw [h1, if_neg h512]
        simp
    · exact absurd hp.2 (partsF_no (by simpa using hm))
  · unfold headF
    split
    · split
      · rename_i ho
        obtain ⟨t', e', h15, eo⟩ := oldS_ok ho
        obtain rfl : t = t' := by omega
        rw [eo]
        exact ⟨by simp, fun b => take_old h15 hn b⟩
      · exact hnew
    · split
      · refine ⟨by simp, fun b => ?_⟩
        have := take_five ht hn b
        rw [be4 hn] at this
        simpa using this
      · exact hnew
theorem headF_len {tag : Int} {n : Nat} (q : Int) (hn : n ≤ 60000) : (headF tag n q).length ≤ 6 := by
  have h6 : (headS tag n).1.length ≤ 6 := headS_len tag n
  unfold headF
  split
  · split
    · rename_i ho
      obtain ⟨t', _, h15, eo⟩ := oldS_ok ho
      rw [eo, List.length_cons, be_length]
      have : 2 ^ oldW n ≤ 2 ^ 2 := Nat.pow_le_pow_right (by omega) (by have := oldW_lt hn; omega)
      omega
    · exact h6
  · split
    · simp
    · exact h6
end Go.Proofs.Ytcakdlfhmdkocaa
