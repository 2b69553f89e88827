/- What the taker of packets takes, by what stands there. -/
import Derived.Test.YtcakdlfhmdkocaaLk
import Derived.Test.YtcakdlfhmdkocaaTq
namespace Go.Proofs.Ytcakdlfhmdkocaa
open Go.RowKit

section
variable {l x r body : List UInt8} {a : Nat}
theorem numT_ok {k v : Nat} (h : Lk l a (be k v ++ r)) (h1 : 1 ≤ k) (h8 : k ≤ 8) (hv : v < 256 ^ k) {n : Int} (hn : n = k) : numT l ⟨a, body, 0⟩ n = ((v : Int), ⟨a + k, body, 0⟩) := by
  rw [numT, if_pos rfl]
  simp only
  rw [numS_ok h h1 h8 hv hn]
theorem numT_sh {k : Nat} (h : Lk l a r) (h1 : 1 ≤ k) (h8 : k ≤ 8) (hk : r.length < k) {n : Int} (hn : n = k) : numT l ⟨a, body, 0⟩ n = (0, ⟨a, body, 2⟩) := by
  rw [numT, if_pos rfl]
  simp only
  rw [numS_sh h h1 h8 hk hn]
theorem be_1 {v : Nat} : be 1 v = [UInt8.ofNat v] := by simp [be]
theorem numT_one_ok {b : UInt8} (h : Lk l a (b :: r)) : numT l ⟨a, body, 0⟩ 1 = ((b.toNat : Int), ⟨a + 1, body, 0⟩) := by
  have hb := b.toNat_lt
  refine numT_ok (k := 1) (v := b.toNat) (r := r) ?_ (by omega) (by omega) (by omega) rfl
  rw [be_1]
  simpa using h
theorem moreT_ok (h : Lk l a (x ++ r)) (hl : body.length + x.length ≤ 60000) {n : Int} (hn : n = x.length) : moreT l ⟨a, body, 0⟩ n = ⟨a + x.length, body ++ x, 0⟩ := by
  rw [moreT, if_pos rfl]
  simp only
  rw [if_neg (by omega), takeS_ok h hn]
theorem moreT_sh (h : Lk l a r) {n : Int} (hn : (r.length : Int) < n) (hl : (body.length : Int) + n ≤ 60000) : moreT l ⟨a, body, 0⟩ n = ⟨a, body, 2⟩ := by
  rw [moreT, if_pos rfl]
  simp only
  rw [if_neg (by omega), takeS_sh h hn]
  simp
theorem moreT_err {s : St} (h : s.e ≠ 0) (n : Int) : moreT l s n = s := by rw [moreT, if_neg h]
theorem longT_ok {n : Nat} (h : Lk l a (lenS n ++ r)) (hn : n < 4294967296) : longT l ⟨a, body, 0⟩ = ((n : Int), false, ⟨a + (lenS n).length, body, 0⟩) := by
  unfold lenS at h ⊢
  split at h
  · rename_i h1
    rw [if_pos h1]
    have e : ((UInt8.ofNat n).toNat : Int) = n := by simp only [UInt8.toNat_ofNat']; omega
    rw [longT, numT_one_ok (b := UInt8.ofNat n) (r := r) h]
    simp only [e]
    rw [if_pos (by omega)]
    rfl
  · rename_i h1
    split at h
    · rename_i h2
      rw [if_neg h1, if_pos h2]
      have e : ((UInt8.ofNat ((n - 192) / 256 + 192)).toNat : Int) = (n - 192) / 256 + 192 := by simp only [UInt8.toNat_ofNat']; omega
      have e2 : ((UInt8.ofNat (n - 192)).toNat : Int) = (n - 192) % 256 := by simp only [UInt8.toNat_ofNat']; omega
      have h3 : Lk l (a + 1) (UInt8.ofNat (n - 192) :: r) := Lk.step (x := [UInt8.ofNat ((n - 192) / 256 + 192)]) (by simpa using h)
      rw [longT, numT_one_ok (b := UInt8.ofNat ((n - 192) / 256 + 192)) (r := UInt8.ofNat (n - 192) :: r) h]
      simp only [e]
      rw [if_neg (by omega), if_pos (by omega), numT_one_ok h3]
      simp only [e2]
      refine Prod.ext ?_ rfl
      show _ = (n : Int)
      omega
    · rename_i h2
      rw [if_neg h1, if_neg h2]
      have h3 : Lk l (a + 1) (be 4 n ++ r) := Lk.step (x := [255]) (by simpa using h)
      rw [longT, numT_one_ok (b := 255) (r := be 4 n ++ r) h]
      simp only
      rw [if_neg (by decide), if_neg (by decide), if_neg (by decide), numT_ok (n := 4) h3 (by omega) (by omega) (by omega) rfl]
      simp [be_length, Nat.add_assoc]
theorem longT_five {n : Nat} (h : Lk l a (255 :: (be 4 n ++ r))) (hn : n < 4294967296) : longT l ⟨a, body, 0⟩ = ((n : Int), false, ⟨a + 5, body, 0⟩) := by
  have h3 : Lk l (a + 1) (be 4 n ++ r) := Lk.step (x := [255]) (by simpa using h)
  rw [longT, numT_one_ok h]
  simp only
  rw [if_neg (by decide), if_neg (by decide), if_neg (by decide), numT_ok (n := 4) h3 (by omega) (by omega) (by omega) rfl]
theorem longT_part {k : Nat} (h : Lk l a (UInt8.ofNat (224 + k) :: r)) (hk : k ≤ 30) : longT l ⟨a, body, 0⟩ = (((2 ^ k : Nat) : Int), true, ⟨a + 1, body, 0⟩) := by
  have e : ((UInt8.ofNat (224 + k)).toNat : Int) = 224 + k := by simp only [UInt8.toNat_ofNat']; omega
  have e2 : (224 + (k : Int) - 224).toNat = k := by omega
  rw [longT, numT_one_ok h]
  simp only [e, e2]
  rw [if_neg (by omega), if_neg (by omega), if_pos (by omega)]
  simp
/-- No length stands there. -/
theorem longT_none (h : Lk l a []) : longT l ⟨a, body, 0⟩ = (0, false, ⟨a, body, 2⟩) := by
  rw [longT, numT_sh (n := 1) (k := 1) h (by omega) (by omega) (by simp) rfl]
  rfl

theorem freshT_end {tag : Int} {f : Nat} {first : Bool} {n : Nat} {a2 : Nat} (hL : longT l ⟨a, body, 0⟩ = ((n : Int), false, ⟨a2, body, 0⟩)) (h : Lk l a2 (x ++ r)) (hn : x.length = n) (hl : body.length + n ≤ 60000) :
    freshT l tag (f + 1) first ⟨a, body, 0⟩ = ⟨a2 + n, body ++ x, 0⟩ := by
  have hp : partT l tag first ⟨a, body, 0⟩ = ⟨a2 + n, body ++ x, 0⟩ := by
    rw [partT, hL]
    simp only [badPart, Bool.false_and, markT, Bool.false_eq_true, if_false]
    rw [moreT_ok h (by omega) (by omega), hn]
  rw [freshT_stop (by rw [stopT, hL]; simp), hp]
theorem freshT_sh {tag : Int} {f : Nat} {first : Bool} {n : Nat} {a2 : Nat} (hL : longT l ⟨a, body, 0⟩ = ((n : Int), false, ⟨a2, body, 0⟩)) (h : Lk l a2 r) (hn : r.length < n) (hl : body.length + n ≤ 60000) :
    freshT l tag (f + 1) first ⟨a, body, 0⟩ = ⟨a2, body, 2⟩ := by
  have hp : partT l tag first ⟨a, body, 0⟩ = ⟨a2, body, 2⟩ := by
    rw [partT, hL]
    simp only [badPart, Bool.false_and, markT, Bool.false_eq_true, if_false]
    rw [moreT_sh h (by omega) (by omega)]
  rw [freshT_stop (by rw [stopT, hL]; simp), hp]
theorem freshT_none {tag : Int} {f : Nat} {first : Bool} (h : Lk l a []) : freshT l tag (f + 1) first ⟨a, body, 0⟩ = ⟨a, body, 2⟩ := by
  have hp : partT l tag first ⟨a, body, 0⟩ = ⟨a, body, 2⟩ := by
    rw [partT, longT_none h]
    simp only [badPart, Bool.false_and, markT, Bool.false_eq_true, if_false]
    rw [moreT_err (show (2 : Int) ≠ 0 by decide)]
  rw [freshT_stop (by rw [stopT, longT_none h]; simp), hp]
theorem freshT_next {tag : Int} {f : Nat} {first : Bool} {k : Nat} (h : Lk l a (UInt8.ofNat (224 + k) :: (x ++ r))) (hk : k ≤ 30) (hm : mayPart tag = true) (hf : first = true → 9 ≤ k) (hx : x.length = 2 ^ k) (hl : body.length + 2 ^ k ≤ 60000) :
    freshT l tag (f + 1) first ⟨a, body, 0⟩ = freshT l tag f false ⟨a + 1 + 2 ^ k, body ++ x, 0⟩ := by
  have h2 : Lk l (a + 1) (x ++ r) := Lk.step (x := [UInt8.ofNat (224 + k)]) (by simpa using h)
  have hb : badPart tag first (((2 ^ k : Nat) : Int), true, (⟨a + 1, body, 0⟩ : St)) = false := by
    unfold badPart
    simp only [hm, Bool.not_true, Bool.false_or, Bool.true_and, Bool.and_eq_false_iff, decide_eq_false_iff_not]
    cases first with
    | false => exact .inl rfl
    | true =>
      refine .inr ?_
      have : 2 ^ 9 ≤ 2 ^ k := Nat.pow_le_pow_right (by omega) (hf rfl)
      omega
  have hp : partT l tag first ⟨a, body, 0⟩ = ⟨a + 1 + 2 ^ k, body ++ x, 0⟩ := by
    rw [partT, longT_part h hk, hb]
    simp only [markT, Bool.false_eq_true, if_false]
    rw [moreT_ok h2 (by omega) (by omega), hx]
  rw [freshT_on (by rw [stopT, hp, longT_part h hk]; rfl), hp]
end
theorem goT_new {l r : List UInt8} {tag : Nat} (h : Lk l 0 (UInt8.ofNat (192 + tag) :: r)) (ht : tag ≤ 63) : goT l = ((tag : Int), freshT l (tag : Int) (l.length + 1) true ⟨1, [], 0⟩) := by
  have e : ((UInt8.ofNat (192 + tag)).toNat : Int) = 192 + tag := by simp only [UInt8.toNat_ofNat']; omega
  have e2 : (192 + (tag : Int) - 192) = tag := by omega
  rw [goT]
  simp only [numT_one_ok h, e]
  rw [if_neg (by simp), if_neg (by omega), if_pos (by omega), e2]
theorem goT_old {l r : List UInt8} {tag w : Nat} (h : Lk l 0 (UInt8.ofNat (128 + 4 * tag + w) :: r)) (ht : tag ≤ 15) (hw : w ≤ 3) : goT l = ((tag : Int), oldT l ⟨1, [], 0⟩ w) := by
  have e : ((UInt8.ofNat (128 + 4 * tag + w)).toNat : Int) = 128 + 4 * tag + w := by simp only [UInt8.toNat_ofNat']; omega
  have e2 : (128 + 4 * (tag : Int) + w - 128) / 4 = tag := by omega
  have e3 : ((128 + 4 * (tag : Int) + w) % 4).toNat = w := by omega
  rw [goT]
  simp only [numT_one_ok h, e]
  rw [if_neg (by simp), if_neg (by omega), if_neg (by omega), e2, e3]
theorem takeF_ok {l : List UInt8} {t : Int} {s : St} (h : goT l = (t, s)) (he : s.e = 0) : takeF l = (t, s.body, l.drop s.at_, 0) := by
  rw [takeF, h]
  simp only
  rw [if_neg (by simpa using he)]
theorem takeF_err {l : List UInt8} {t : Int} {s : St} (h : goT l = (t, s)) (he : s.e ≠ 0) : takeF l = (0, [], [], s.e) := by
  rw [takeF, h]
  simp only
  rw [if_pos he]
theorem oldT_ok {l x r body : List UInt8} {a w n : Nat} (hw : w < 3) (h : Lk l a (be (2 ^ w) n ++ (x ++ r))) (hn : n < 256 ^ 2 ^ w) (hx : x.length = n) (hl : body.length + n ≤ 60000) : oldT l ⟨a, body, 0⟩ w = ⟨a + 2 ^ w + n, body ++ x, 0⟩ := by
  have h1 : 1 ≤ 2 ^ w := Nat.pow_pos (by omega)
  have h8 : 2 ^ w ≤ 2 ^ 3 := Nat.pow_le_pow_right (by omega) (by omega)
  rw [oldT, if_neg (by omega), numT_ok h h1 h8 hn rfl]
  simp only
  have h2 := h.step
  rw [be_length] at h2
  rw [moreT_ok h2 (by omega) (by omega), hx]
theorem oldT_all {l x body : List UInt8} {a : Nat} (h : Lk l a x) (hl : body.length + x.length ≤ 60000) : oldT l ⟨a, body, 0⟩ 3 = ⟨a + x.length, body ++ x, 0⟩ := by
  rw [oldT, if_pos rfl]
  have := h.len
  rw [moreT_ok (r := []) (by simpa using h) hl (by simp only; omega)]
end Go.Proofs.Ytcakdlfhmdkocaa
