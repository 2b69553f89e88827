/- What is behind a head, and in parts, is taken as it was. -/
import Derived.Test.YtcakdlfhmdkocaaTr
import Derived.Test.YtcakdlfhmdkocaaTt
namespace Go.Proofs.Ytcakdlfhmdkocaa
open Go.RowKit

theorem lk_of {l r : List UInt8} (h : l = r) : Lk l 0 r := ⟨h, Nat.zero_le _⟩
theorem Lk.end_ {l x : List UInt8} {a : Nat} (h : Lk l a x) : l.drop a = x := h.1

theorem take_new {t : Nat} (ht : t ≤ 63) {body : List UInt8} (hb : body.length ≤ 60000) (behind : List UInt8) :
    takeF (UInt8.ofNat (192 + t) :: lenS body.length ++ body ++ behind) = ((t : Int), body, behind, 0) := by
  have h0 : Lk (UInt8.ofNat (192 + t) :: lenS body.length ++ body ++ behind) 0 (UInt8.ofNat (192 + t) :: (lenS body.length ++ (body ++ behind))) := lk_of (by simp)
  generalize UInt8.ofNat (192 + t) :: lenS body.length ++ body ++ behind = l at h0 ⊢
  have h1 := h0.cons
  have h2 := h1.step
  have h3 := h2.step
  have h := goT_new h0 ht
  rw [freshT_end (longT_ok h1 (by omega)) h2 rfl (by simp; omega)] at h
  rw [takeF_ok h rfl, h3.end_]
  rfl
theorem be_take_short (k n m : Nat) (h : m < k) : ((be k n).take m).length < k := by simp [be_length]; omega
/-- Without its last byte it is too short. -/
theorem take_new_short {t : Nat} (ht : t ≤ 63) {body : List UInt8} (hb : body.length ≤ 60000) (m : Nat) (hm : m = (UInt8.ofNat (192 + t) :: lenS body.length ++ body).length - 1) :
    (takeF ((UInt8.ofNat (192 + t) :: lenS body.length ++ body).take m)).2.2.2 = 2 := by
  rcases List.eq_nil_or_concat body with rfl | ⟨b0, x, rfl⟩
  · have e : (UInt8.ofNat (192 + t) :: lenS ([] : List UInt8).length ++ []).take m = UInt8.ofNat (192 + t) :: [] := by
      subst hm
      simp [lenS]
    have h0 : Lk ((UInt8.ofNat (192 + t) :: lenS ([] : List UInt8).length ++ []).take m) 0 (UInt8.ofNat (192 + t) :: []) := lk_of e
    generalize (UInt8.ofNat (192 + t) :: lenS ([] : List UInt8).length ++ []).take m = l at h0 ⊢
    have h := goT_new h0 ht
    rw [freshT_none h0.cons] at h
    rw [takeF_err h (show (2 : Int) ≠ 0 by decide)]
  · rw [List.concat_eq_append] at hb hm ⊢
    have e : (UInt8.ofNat (192 + t) :: lenS (b0 ++ [x]).length ++ (b0 ++ [x])).take m = UInt8.ofNat (192 + t) :: (lenS (b0 ++ [x]).length ++ b0) := by
      have : UInt8.ofNat (192 + t) :: lenS (b0 ++ [x]).length ++ (b0 ++ [x]) = (UInt8.ofNat (192 + t) :: (lenS (b0 ++ [x]).length ++ b0)) ++ [x] := by simp
      rw [this] at hm ⊢
      subst hm
      rw [List.take_append_of_le_length (by simp; omega), List.take_of_length_le (by simp; omega)]
    have hl : (b0 ++ [x]).length = b0.length + 1 := by simp
    have h0 : Lk ((UInt8.ofNat (192 + t) :: lenS (b0 ++ [x]).length ++ (b0 ++ [x])).take m) 0 (UInt8.ofNat (192 + t) :: (lenS (b0 ++ [x]).length ++ b0)) := lk_of e
    generalize (UInt8.ofNat (192 + t) :: lenS (b0 ++ [x]).length ++ (b0 ++ [x])).take m = l at h0 ⊢
    have h1 := h0.cons
    have h2 := h1.step
    have h := goT_new h0 ht
    rw [freshT_sh (longT_ok h1 (by omega)) h2 (by omega) (by simp only [List.length_nil]; omega)] at h
    rw [takeF_err h (show (2 : Int) ≠ 0 by decide)]
theorem oldW_lt {n : Nat} (hn : n ≤ 60000) : oldW n < 3 ∧ n < 256 ^ 2 ^ oldW n := by
  unfold oldW
  split
  · exact ⟨by omega, by omega⟩
  · rw [if_pos (by omega)]
    exact ⟨by omega, by omega⟩
theorem take_old {t : Nat} (ht : t ≤ 15) {body : List UInt8} (hb : body.length ≤ 60000) (behind : List UInt8) :
    takeF (UInt8.ofNat (128 + 4 * t + oldW body.length) :: be (2 ^ oldW body.length) body.length ++ body ++ behind) = ((t : Int), body, behind, 0) := by
  obtain ⟨hw, hn⟩ := oldW_lt hb
  have h0 : Lk (UInt8.ofNat (128 + 4 * t + oldW body.length) :: be (2 ^ oldW body.length) body.length ++ body ++ behind) 0 (UInt8.ofNat (128 + 4 * t + oldW body.length) :: (be (2 ^ oldW body.length) body.length ++ (body ++ behind))) := lk_of (by simp)
  generalize UInt8.ofNat (128 + 4 * t + oldW body.length) :: be (2 ^ oldW body.length) body.length ++ body ++ behind = l at h0 ⊢
  have h1 := h0.cons
  have h2 := h1.step
  rw [be_length] at h2
  have h3 := h2.step
  have h := goT_old h0 ht (by omega)
  rw [oldT_ok hw h1 hn rfl (by simp; omega)] at h
  rw [takeF_ok h rfl]
  simp only
  rw [show 1 + 2 ^ oldW body.length + body.length = 0 + 1 + 2 ^ oldW body.length + body.length by omega, h3.end_]
  rfl

/-- Three parts and what is left. -/
theorem parts_three {t : Nat} (hm : mayPart t = true) {body : List UInt8} (hb : body.length ≤ 60000) :
    partsF t [9, 3, 0] body = if body.length < 521 then ([], 1) else
      (UInt8.ofNat (192 + t) :: UInt8.ofNat 233 :: (body.take 512 ++ (UInt8.ofNat 227 :: ((body.drop 512).take 8 ++ (UInt8.ofNat 224 :: ((body.drop 520).take 1 ++ (lenS (body.drop 521).length ++ body.drop 521)))))), 0) := by
  have b1 : badSize true 9 body.length = decide (body.length < 512) := by unfold badSize; simp
  have b2 : badSize false 3 (body.drop 512).length = decide (body.length - 512 < 8) := by unfold badSize; simp
  have b3 : badSize false 0 (body.drop 520).length = decide (body.length - 520 < 1) := by unfold badSize; simp
  have d1 : (body.drop 512).drop 8 = body.drop 520 := by rw [List.drop_drop]
  have d2 : (body.drop 520).drop 1 = body.drop 521 := by rw [List.drop_drop]
  rw [partsF, if_pos hm]
  by_cases h1 : body.length < 512
  · rw [partsT_bad (by rw [b1]; simpa using h1), if_pos (by omega)]
    rfl
  · rw [partsT_on (by rw [b1]; simpa using h1)]
    by_cases h2 : body.length < 520
    · rw [partsT_bad (by show badSize false 3 (body.drop 512).length = true; rw [b2]; simp; omega), if_pos (by omega)]
      rfl
    · rw [partsT_on (by show badSize false 3 (body.drop 512).length = false; rw [b2]; simp; omega)]
      by_cases h3 : body.length < 521
      · rw [partsT_bad (by show badSize false 0 ((body.drop 512).drop 8).length = true; rw [d1, b3]; simp; omega), if_pos h3]
        rfl
      · rw [partsT_on (by show badSize false 0 ((body.drop 512).drop 8).length = false; rw [d1, b3]; simp; omega), if_neg h3, partsT, endT, if_neg (by omega)]
        show (_ ++ lenS (((body.drop 512).drop 8).drop 1).length ++ ((body.drop 512).drop 8).drop 1, (0 : Int)) = _
        rw [d1, d2]
        simp
theorem take_parts {t : Nat} (hm : mayPart t = true) {body : List UInt8} (hb : body.length ≤ 60000) (h521 : 521 ≤ body.length) (behind : List UInt8) : takeF ((partsF t [9, 3, 0] body).1 ++ behind) = ((t : Int), body, behind, 0) := by
  have ht : t ≤ 63 := by
    obtain ⟨u, hu, h18⟩ := mayPart_le hm
    omega
  rw [parts_three hm hb, if_neg (by omega)]
  have h0 : Lk ((UInt8.ofNat (192 + t) :: UInt8.ofNat 233 :: (body.take 512 ++ (UInt8.ofNat 227 :: ((body.drop 512).take 8 ++ (UInt8.ofNat 224 :: ((body.drop 520).take 1 ++ (lenS (body.drop 521).length ++ body.drop 521))))))) ++ behind) 0
      (UInt8.ofNat (192 + t) :: UInt8.ofNat (224 + 9) :: (body.take 512 ++ (UInt8.ofNat (224 + 3) :: ((body.drop 512).take 8 ++ (UInt8.ofNat (224 + 0) :: ((body.drop 520).take 1 ++ (lenS (body.drop 521).length ++ (body.drop 521 ++ behind)))))))) := lk_of (by simp)
  simp only
  generalize (UInt8.ofNat (192 + t) :: UInt8.ofNat 233 :: (body.take 512 ++ (UInt8.ofNat 227 :: ((body.drop 512).take 8 ++ (UInt8.ofNat 224 :: ((body.drop 520).take 1 ++ (lenS (body.drop 521).length ++ body.drop 521))))))) ++ behind = l at h0 ⊢
  have h := goT_new h0 ht
  have hlen := h0.len
  simp only [List.length_cons, List.length_append] at hlen
  obtain ⟨f, hf⟩ : ∃ f, l.length = f + 3 := ⟨l.length - 3, by omega⟩
  have h1 := h0.cons
  have l1 : (body.take 512).length = 2 ^ 9 := by rw [List.length_take]; omega
  have l2 : ((body.drop 512).take 8).length = 2 ^ 3 := by rw [List.length_take, List.length_drop]; omega
  have l3 : ((body.drop 520).take 1).length = 2 ^ 0 := by rw [List.length_take, List.length_drop]; omega
  have l4 : (body.drop 521).length = body.length - 521 := List.length_drop
  have h2 := h1.cons.step
  rw [l1] at h2
  have h3 := h2.cons.step
  rw [l2] at h3
  have h4 := h3.cons.step
  rw [l3] at h4
  have h5 := h4.step
  have h6 := h5.step
  rw [hf, freshT_next h1 (by omega) hm (fun _ => by omega) l1 (by simp only [List.length_nil]; omega), freshT_next h2 (by omega) hm (fun h => by cases h) l2 (by simp only [List.length_append, List.length_nil, l1]; omega),
    freshT_next h3 (by omega) hm (fun h => by cases h) l3 (by simp only [List.length_append, List.length_nil, l1, l2]; omega),
    freshT_end (longT_ok h4 (by omega)) h5 rfl (by simp only [List.length_append, List.length_nil, l1, l2, l3]; omega)] at h
  rw [takeF_ok h rfl]
  simp only
  rw [h6.end_]
  have e : [] ++ body.take 512 ++ (body.drop 512).take 8 ++ (body.drop 520).take 1 ++ body.drop 521 = body := by
    have d1 : (body.drop 512).drop 8 = body.drop 520 := by rw [List.drop_drop]
    have d2 : (body.drop 520).drop 1 = body.drop 521 := by rw [List.drop_drop]
    rw [List.nil_append, ← d2, List.append_assoc, List.append_assoc, List.take_append_drop, ← d1, List.take_append_drop, List.take_append_drop]
  rw [e]
end Go.Proofs.Ytcakdlfhmdkocaa
