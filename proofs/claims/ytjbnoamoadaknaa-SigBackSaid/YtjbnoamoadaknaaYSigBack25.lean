import Derived.Test.YtjbnoamoadaknaaYSigBack17
import Derived.Test.YtjbnoamoadaknaaYSigBack15
import Derived.Test.YtjbnoamoadaknaaYSigBack16
import Derived.Test.YtjbnoamoadaknaaYSigBack24
import Derived.Test.YtjbnoamoadaknaaYSigBack11
import Derived.Test.YtjbnoamoadaknaaYSigBack18
/- Signatures there and back: plain laws. -/
section
namespace Go.Proofs.Ytjbnoamoadaknaa
open Go.RowKit

theorem be_val_wid {x : List UInt8} {v : Int} {n : Nat} (hx : x.length = widS v) (hn : val x = (n : Int)) : be (widS v) n = x := by
  have hw : widS v ≤ 8 := by unfold widS; split <;> omega
  have h1 := val_nb (l := x) (by omega)
  have h2 : nb x = n := by omega
  rw [← hx, ← h2, be_nb]
theorem wid_cases (v : Int) : widS v = 4 ∨ widS v = 2 := by unfold widS; split <;> simp
theorem Lk.unique {l r r2 : List UInt8} {a : Nat} (h : Lk l a r) (h2 : Lk l a r2) : r = r2 := h.1.symm.trans h2.1
theorem takeS_inv {l r : List UInt8} {a : Nat} {n : Int} (L : Lk l a r) (h : (takeS l a n).2.1 = 0) : ∃ x r2, r = x ++ r2 ∧ (x.length : Int) = n ∧ takeS l a n = (x, 0, a + x.length) ∧ Lk l (a + x.length) r2 := by
  unfold takeS at h
  split at h
  · cases h
  · rename_i h1
    split at h
    · cases h
    · rename_i h2
      have hlen := L.len
      have h3 := L.1
      have hxl : (r.take n.toNat).length = n.toNat := by rw [List.length_take]; omega
      have L2 : Lk l a (r.take n.toNat ++ r.drop n.toNat) := by rw [List.take_append_drop]; exact L
      exact ⟨r.take n.toNat, r.drop n.toNat, (List.take_append_drop _ _).symm, by omega, takeS_ok L2 (by omega), L2.step⟩
theorem numR_e {l : List UInt8} {s : Rs} {n : Int} (h : (numR l s n).2.e = 0) : s.e = 0 := by
  unfold numR at h
  split at h
  · assumption
  · exact h
theorem bytesR_e {l : List UInt8} {s : Rs} {n : Int} (h : (bytesR l s n).2.e = 0) : s.e = 0 := by
  unfold bytesR at h
  split at h
  · assumption
  · exact h
theorem failR_e {s : Rs} {b : Bool} {x : Int} (hx : b = true → x ≠ 0) (h : (failR s b x).e = 0) : s.e = 0 ∧ b = false ∧ failR s b x = s := by
  unfold failR at h ⊢
  split at h
  · rename_i h1
    exact absurd h (hx h1.1)
  · rename_i h1
    rw [if_neg h1]
    refine ⟨h, ?_, rfl⟩
    cases b with
    | false => rfl
    | true => exact absurd ⟨rfl, h⟩ h1
theorem numR_inv {l r : List UInt8} {s : Rs} {n : Nat} (h1 : 1 ≤ n) (h8 : n ≤ 8) (hs : s.e = 0) (L : Lk l s.at_ r) (h : (numR l s (n : Int)).2.e = 0) :
    ∃ x r2, r = x ++ r2 ∧ x.length = n ∧ numR l s (n : Int) = (val x, ⟨s.at_ + x.length, 0⟩) ∧ Lk l (s.at_ + x.length) r2 := by
  rw [numR, if_pos hs, numS, if_neg (by omega)] at h
  obtain ⟨x, r2, e1, e2, e3, L2⟩ := takeS_inv L h
  refine ⟨x, r2, e1, by omega, ?_, L2⟩
  rw [numR, if_pos hs, numS, if_neg (by omega), e3]
theorem bytesR_inv {l r : List UInt8} {s : Rs} {n : Int} (hs : s.e = 0) (L : Lk l s.at_ r) (h : (bytesR l s n).2.e = 0) :
    ∃ x r2, r = x ++ r2 ∧ (x.length : Int) = n ∧ bytesR l s n = (x, ⟨s.at_ + x.length, 0⟩) ∧ Lk l (s.at_ + x.length) r2 := by
  rw [bytesR, if_pos hs] at h
  obtain ⟨x, r2, e1, e2, e3, L2⟩ := takeS_inv L h
  refine ⟨x, r2, e1, e2, ?_, L2⟩
  rw [bytesR, if_pos hs, e3]

/-- Areas. -/
theorem areaR_e {l : List UInt8} {s : Rs} {v : Int} (h : (areaR l s v).2.e = 0) : s.e = 0 := by
  simp only [areaR] at h
  split at h
  · rename_i h1
    exact numR_e (bytesR_e h1)
  · rename_i h1
    exact absurd h h1
theorem parse_nil : parseF [] = ([], 0) := rfl
theorem emit_nil : emitF [] = ([], 0) := rfl
theorem emitF_ok {ss : List SubV} {b : List UInt8} (h1 : (emitF ss).1 = b) (h2 : b = [] → ss = []) : emitF ss = (b, 0) := by
  rcases emitF_err ss with h | h | h
  · exact Prod.ext h1 h
  all_goals
    have hb : (emitF ss).1 = [] := by
      unfold emitF endE at h ⊢
      cases he : emitT ss [] with
      | none => rfl
      | some o =>
        rw [he] at h
        simp only at h ⊢
        split at h
        · rename_i h3; rw [if_pos h3]
        · simp at h
    have := h2 (h1.symm.trans hb)
    subst this
    rw [emit_nil] at h
    simp at h
theorem areaR_inv {l r : List UInt8} {s : Rs} {v : Int} (hs : s.e = 0) (L : Lk l s.at_ r) (h : (areaR l s v).2.e = 0) :
    ∃ x r2 a2, r = areaB v x ++ r2 ∧ emitF (areaR l s v).1 = (x, 0) ∧ (areaR l s v).2 = ⟨a2, 0⟩ ∧ Lk l a2 r2 := by
  have hA : areaR l s v = if (bytesR l (numR l s (widS v : Nat)).2 (numR l s (widS v : Nat)).1).2.e = 0 then ((parseF (bytesR l (numR l s (widS v : Nat)).2 (numR l s (widS v : Nat)).1).1).1, failR (failR (bytesR l (numR l s (widS v : Nat)).2 (numR l s (widS v : Nat)).1).2 (decide ((parseF (bytesR l (numR l s (widS v : Nat)).2 (numR l s (widS v : Nat)).1).1).2 ≠ 0)) (parseF (bytesR l (numR l s (widS v : Nat)).2 (numR l s (widS v : Nat)).1).1).2) (!decide ((emitF (parseF (bytesR l (numR l s (widS v : Nat)).2 (numR l s (widS v : Nat)).1).1).1).1 = (bytesR l (numR l s (widS v : Nat)).2 (numR l s (widS v : Nat)).1).1)) 3) else ([], (bytesR l (numR l s (widS v : Nat)).2 (numR l s (widS v : Nat)).1).2) := rfl
  have hw := wid_cases v
  by_cases hb : (bytesR l (numR l s (widS v : Nat)).2 (numR l s (widS v : Nat)).1).2.e = 0
  · rw [if_pos hb] at hA
    obtain ⟨x0, r1, e1, hx0, en, L1⟩ := numR_inv (by omega) (by omega) hs L (bytesR_e hb)
    rw [en] at hb hA
    obtain ⟨x, r2, e2, hx, eb, L2⟩ := bytesR_inv rfl L1 hb
    simp only at L2
    rw [eb] at hA
    rw [hA] at h ⊢
    simp only at h ⊢
    obtain ⟨h4, h5, h6⟩ := failR_e (fun _ => by decide) h
    obtain ⟨h7, h8, h9⟩ := failR_e (fun hd => of_decide_eq_true hd) h4
    rw [h6, h9]
    have hem : (emitF (parseF x).1).1 = x := by simpa using h5
    refine ⟨x, r2, _, ?_, emitF_ok hem (fun h => by subst h; rw [parse_nil]), rfl, L2⟩
    rw [areaB, be_val_wid hx0 hx.symm, e1, e2, List.append_assoc]
  · rw [if_neg hb] at hA
    rw [hA] at h
    exact absurd h hb
theorem val_be_wid {v : Int} {n : Nat} (hn : n ≤ 4000) : val (be (widS v) n) = (n : Int) := by
  rcases wid_cases v with h | h <;> rw [h] <;> exact val_be (by omega) (by simp; omega)
theorem areaR_ok {l r : List UInt8} {a : Nat} {v : Int} {ss : List SubV} {x : List UInt8} (hl : ∀ s ∈ ss, s.2.2.length ≤ 100000) (he : emitF ss = (x, 0)) (L : Lk l a (areaB v x ++ r)) :
    ∃ a2, areaR l ⟨a, 0⟩ v = (ss, ⟨a2, 0⟩) ∧ Lk l a2 r := by
  have hw := wid_cases v
  have hx : x.length ≤ 4000 := by have := emitF_len ss; rw [he] at this; exact this
  have hp := (emit_back hl (by rw [he])).1
  rw [he] at hp
  simp only at hp
  have L1 : Lk l a (be (widS v) x.length ++ (x ++ r)) := by rw [areaB, List.append_assoc] at L; exact L
  have hn := numR_okn (by omega) (by omega) L1 (be_length (widS v) x.length)
  rw [val_be_wid hx] at hn
  have L2 := L1.step
  rw [be_length] at L2
  have hb := bytesR_ok L2 (n := (x.length : Int)) rfl
  refine ⟨a + widS v + x.length, ?_, L2.step⟩
  simp only [areaR, hn, hb, hp, he]
  simp [failR]

/-- The value. -/
theorem valueR_e {l : List UInt8} {s : Rs} {pu : Int} (h : (valueR l s pu).2.e = 0) : s.e = 0 := by
  unfold valueR at h
  split at h
  · exact h
  · rename_i h1; exact Decidable.of_not_not h1
theorem valueR_inv {l r : List UInt8} {s : Rs} {pu : Int} (hs : s.e = 0) (L : Lk l s.at_ r) (h : (valueR l s pu).2.e = 0) :
    valOk pu (valueR l s pu).1 = true ∧ r = (if pu = 27 then (valueR l s pu).1 else be 2 (nbits (nb (valueR l s pu).1)) ++ bytesN (nb (valueR l s pu).1)) := by
  have h3 := L.1
  by_cases hp : pu = 27
  · have hv : valueR l s pu = (r, failR ⟨l.length, 0⟩ (decide (r.length ≠ 64)) 3) := by rw [valueR, if_neg (fun h => h hs), if_pos hp, h3]
    rw [hv] at h ⊢
    simp only at h ⊢
    obtain ⟨-, h5, -⟩ := failR_e (fun _ => by decide) h
    have h6 : r.length = 64 := by simpa using h5
    rw [valOk, if_pos hp, if_pos hp]
    exact ⟨by simp [h6], rfl⟩
  · by_cases hm : (mallF r 1).2 = 0
    · obtain ⟨N, e1, e2⟩ := mall_one r hm
      have hv : valueR l s pu = (bytesN N, ⟨l.length, 0⟩) := by rw [valueR, if_neg (fun h => h hs), if_neg hp, h3, if_neg (fun h => h hm), e1]; rfl
      rw [hv]
      have hq := put_take (l := r) (by rw [e2])
      rw [e2] at hq
      simp only [List.append_nil] at hq
      simp only
      rw [valOk, if_neg hp, if_neg hp, nb_bytesN]
      exact ⟨by simp [hq.1], hq.2.symm⟩
    · have hv : valueR l s pu = ([], ⟨l.length, (mallF r 1).2⟩) := by rw [valueR, if_neg (fun h => h hs), if_neg hp, h3, if_pos hm]
      rw [hv] at h
      exact absurd h hm
theorem mall_put {N : Nat} (h : nbits N ≤ 16384) : mallF (be 2 (nbits N) ++ bytesN N) 1 = ([N], 0) ∧ (mallF (be 2 (nbits N) ++ bytesN N ++ [0]) 1).2 = 3 := by
  have key : ∀ behind : List UInt8, ∀ l, l = be 2 (nbits N) ++ bytesN N ++ behind → (mtakeS l 0).2.1 = 0 ∧ (mtakeS l 0).1 = N ∧ l.drop (mtakeS l 0).2.2 = behind := by
    intro behind l hl
    have ht := take_put h behind
    rw [← hl, ← mTakeF_eq, mTakeF] at ht
    by_cases h1 : (mtakeS l 0).2.1 ≠ 0
    · rw [if_pos h1] at ht
      injection ht with _ ht
      injection ht with _ ht
      exact absurd ht h1
    · rw [if_neg h1] at ht
      injection ht with t1 t2
      injection t2 with t2 t3
      exact ⟨Decidable.of_not_not h1, t1, t2⟩
  have e : ∀ l : List UInt8, mallF l 1 = if (mtakeS l 0).2.1 ≠ 0 then ([], (mtakeS l 0).2.1) else if (mtakeS l 0).2.2 < l.length then ([], 3) else ([(mtakeS l 0).1], 0) := by
    intro l
    rw [mallF, if_neg (by omega)]
    rfl
  constructor
  · obtain ⟨k1, k2, k3⟩ := key [] (be 2 (nbits N) ++ bytesN N) (List.append_nil _).symm
    have k4 := List.drop_eq_nil_iff.1 k3
    rw [e, if_neg (fun h => h k1), if_neg (by omega), k2]
  · obtain ⟨k1, k2, k3⟩ := key [0] (be 2 (nbits N) ++ bytesN N ++ [0]) rfl
    have k4 : (mtakeS (be 2 (nbits N) ++ bytesN N ++ [0]) 0).2.2 < (be 2 (nbits N) ++ bytesN N ++ [0]).length := by
      refine Nat.lt_of_not_le (fun hle => ?_)
      rw [List.drop_eq_nil_of_le hle] at k3
      cases k3
    rw [e, if_neg (fun h => h k1), if_pos k4]
def valB (pu : Int) (v : List UInt8) : List UInt8 := if pu = 27 then v else be 2 (nbits (nb v)) ++ bytesN (nb v)
theorem valueR_ok {l : List UInt8} {a : Nat} {pu : Int} {v : List UInt8} (hv : valOk pu v = true) (L : Lk l a (valB pu v)) : valueR l ⟨a, 0⟩ pu = (v, ⟨l.length, 0⟩) := by
  have h3 := L.1
  by_cases hp : pu = 27
  · rw [valB, if_pos hp] at h3
    rw [valOk, if_pos hp] at hv
    have h6 : v.length = 64 := by simpa using hv
    rw [valueR, if_neg (fun h => h rfl), if_pos hp]
    simp only [h3, h6]
    rfl
  · rw [valB, if_neg hp] at h3
    rw [valOk, if_neg hp] at hv
    simp only [Bool.and_eq_true, decide_eq_true_eq] at hv
    rw [valueR, if_neg (fun h => h rfl), if_neg hp]
    simp only [h3]
    rw [(mall_put hv.2).1, if_neg (fun h => h rfl)]
    simp only [List.headD_cons, hv.1]
theorem valueR_more {l : List UInt8} {a : Nat} {pu : Int} {v : List UInt8} (hv : valOk pu v = true) (L : Lk l a (valB pu v ++ [0])) : (valueR l ⟨a, 0⟩ pu).2.e = 3 := by
  have h3 := L.1
  by_cases hp : pu = 27
  · rw [valB, if_pos hp] at h3
    rw [valOk, if_pos hp] at hv
    have h6 : v.length = 64 := by simpa using hv
    rw [valueR, if_neg (fun h => h rfl), if_pos hp]
    simp only [h3, List.length_append, h6, List.length_singleton]
    rfl
  · rw [valB, if_neg hp] at h3
    rw [valOk, if_neg hp] at hv
    simp only [Bool.and_eq_true, decide_eq_true_eq] at hv
    have hm := (mall_put hv.2).2
    rw [valueR, if_neg (fun h => h rfl), if_neg hp]
    simp only [h3]
    rw [if_pos (by rw [hm]; decide), hm]
/-- The salt. -/
theorem saltR_e {l : List UInt8} {s : Rs} {ha v : Int} (h : (saltR l s ha v).2.e = 0) : s.e = 0 := by
  unfold saltR at h
  split at h
  · exact numR_e (failR_e (fun _ => by decide) (bytesR_e h)).1
  · exact h
def saltB (v : Int) (x : List UInt8) : List UInt8 := if v = 6 then UInt8.ofNat x.length :: x else []
theorem saltR_inv {l r : List UInt8} {s : Rs} {ha v : Int} (hv : verS v = true) (hs : s.e = 0) (L : Lk l s.at_ r) (h : (saltR l s ha v).2.e = 0) :
    ∃ x r2 a2, r = saltB v x ++ r2 ∧ saltR l s ha v = (x, ⟨a2, 0⟩) ∧ saltOk v ha x.length = true ∧ Lk l a2 r2 := by
  rcases ver_nat hv with rfl | rfl
  · have e : saltR l s ha 4 = ([], s) := by rw [saltR, if_neg (by decide)]
    refine ⟨[], r, s.at_, rfl, ?_, rfl, L⟩
    rw [e]
    obtain ⟨at_, e⟩ := s
    simp only at hs
    rw [hs]
  · have hA : saltR l s ha 6 = bytesR l (failR (numR l s 1).2 ((numR l s 1).1 != saltS ha) 3) (numR l s 1).1 := by rw [saltR, if_pos rfl]
    rw [hA] at h
    obtain ⟨h1, h2, h3⟩ := failR_e (fun _ => by decide) (bytesR_e h)
    obtain ⟨x0, r1, e1, hx0, en, L1⟩ := numR_inv (n := 1) (by omega) (by omega) hs L h1
    rw [h3] at hA h
    have en1 : numR l s 1 = (val x0, ⟨s.at_ + x0.length, 0⟩) := en
    rw [en1] at hA h h2
    obtain ⟨x, r2, e2, hx, eb, L2⟩ := bytesR_inv rfl L1 h
    simp only at eb hx
    obtain ⟨b, rfl⟩ : ∃ b, x0 = [b] := by
      match x0, hx0 with
      | [b], _ => exact ⟨b, rfl⟩
    rw [val_one] at hx
    have hx2 : x.length = b.toNat := by omega
    refine ⟨x, r2, _, ?_, hA.trans eb, ?_, L2⟩
    · rw [e1, e2, saltB, if_pos rfl, hx2]
      simp
    · rw [saltOk, if_neg (by decide)]
      have h4 : (b.toNat : Int) = saltS ha := by
        have h5 : (val [b] != saltS ha) = false := h2
        rw [val_one] at h5
        simpa using h5
      simp only [decide_eq_true_eq]
      omega
theorem salt_le (a : Int) : 0 ≤ saltS a ∧ saltS a ≤ 32 := by
  unfold saltS
  repeat' split
  all_goals omega
theorem saltR_ok {l r : List UInt8} {a : Nat} {ha v : Int} {x : List UInt8} (hv : verS v = true) (hx : saltOk v ha x.length = true) (L : Lk l a (saltB v x ++ r)) : ∃ a2, saltR l ⟨a, 0⟩ ha v = (x, ⟨a2, 0⟩) ∧ Lk l a2 r := by
  rcases ver_nat hv with rfl | rfl
  · rw [saltOk, if_pos rfl] at hx
    have : x = [] := List.eq_nil_of_length_eq_zero (by simpa using hx)
    subst this
    refine ⟨a, ?_, by simpa [saltB] using L⟩
    rw [saltR, if_neg (by decide)]
  · rw [saltOk, if_neg (by decide)] at hx
    have hx2 : (x.length : Int) = saltS ha := by simpa using hx
    have hle := salt_le ha
    rw [saltB, if_pos rfl] at L
    have hb : (UInt8.ofNat x.length).toNat = x.length := toNat_of _ (by omega)
    have h1 := numR_ok1 L
    rw [hb] at h1
    have L1 : Lk l (a + 1) (x ++ r) := L.cons
    have h2 := bytesR_ok L1 (n := (x.length : Int)) rfl
    refine ⟨a + 1 + x.length, ?_, L1.step⟩
    rw [saltR, if_pos rfl, h1]
    simp only
    have hne : ((x.length : Int) != saltS ha) = false := by rw [bne_eq_false_iff_eq]; exact hx2
    rw [hne, failR_no]
    exact h2
end Go.Proofs.Ytjbnoamoadaknaa
end

/- Signatures there and back: what is emitted is parsed as it was, with one byte more it is none; what is parsed is emitted as it was. -/
section
namespace Go.Proofs.Ytjbnoamoadaknaa
open Go.RowKit

def midB (s : SigV) (x y z : List UInt8) : List UInt8 := areaB s.ve x ++ (areaB s.ve y ++ ([s.l0, s.l1] ++ (saltB s.ve s.salt ++ z)))

theorem walkS2_inv {l r : List UInt8} {ve ty pu ha : Int} {s7 : Rs} (hv : verS ve = true) (L : Lk l s7.at_ r) (h : (walkS2 l ve ty pu ha s7).2 = 0) :
    s7.e = 0 ∧ ∃ s x y, walkS2 l ve ty pu ha s7 = (s, 0) ∧ s.ve = ve ∧ s.ty = ty ∧ s.pu = pu ∧ s.ha = ha ∧ emitF s.hs = (x, 0) ∧ emitF s.us = (y, 0) ∧ saltOk ve ha s.salt.length = true ∧ valOk pu s.value = true ∧ r = midB s x y (valB pu s.value) := by
  have hW : walkS2 l ve ty pu ha s7 = if (valueR l (saltR l (bytesR l (areaR l (areaR l s7 ve).2 ve).2 2).2 ha ve).2 pu).2.e = 0 then (⟨ve, ty, pu, ha, (areaR l s7 ve).1, (areaR l (areaR l s7 ve).2 ve).1, (bytesR l (areaR l (areaR l s7 ve).2 ve).2 2).1.getD 0 0, (bytesR l (areaR l (areaR l s7 ve).2 ve).2 2).1.getD 1 0, (saltR l (bytesR l (areaR l (areaR l s7 ve).2 ve).2 2).2 ha ve).1, (valueR l (saltR l (bytesR l (areaR l (areaR l s7 ve).2 ve).2 2).2 ha ve).2 pu).1⟩, 0) else (noSig, (valueR l (saltR l (bytesR l (areaR l (areaR l s7 ve).2 ve).2 2).2 ha ve).2 pu).2.e) := rfl
  generalize h8 : areaR l s7 ve = x8 at hW
  generalize h9 : areaR l x8.2 ve = x9 at hW
  generalize h10 : bytesR l x9.2 2 = x10 at hW
  generalize h11 : saltR l x10.2 ha ve = x11 at hW
  generalize h12 : valueR l x11.2 pu = x12 at hW
  by_cases hz : x12.2.e = 0
  rotate_left
  · rw [if_neg hz] at hW
    rw [hW] at h
    exact absurd h hz
  rw [if_pos hz] at hW
  have e11 : x11.2.e = 0 := valueR_e (by rw [h12]; exact hz)
  have e10 : x10.2.e = 0 := saltR_e (by rw [h11]; exact e11)
  have e9 : x9.2.e = 0 := bytesR_e (by rw [h10]; exact e10)
  have e8 : x8.2.e = 0 := areaR_e (by rw [h9]; exact e9)
  have e7 : s7.e = 0 := areaR_e (by rw [h8]; exact e8)
  refine ⟨e7, ?_⟩
  obtain ⟨x, r8, a8, rfl, hx, hs8, L8⟩ := areaR_inv e7 L (by rw [h8]; exact e8)
  rw [h8] at hx hs8
  obtain ⟨y, r9, a9, rfl, hy, hs9, L9⟩ := areaR_inv (s := x8.2) (v := ve) e8 (by rw [hs8]; exact L8) (by rw [h9]; exact e9)
  rw [h9] at hy hs9
  obtain ⟨q, r10, rfl, hq, hs10, L10⟩ := bytesR_inv (s := x9.2) (n := 2) e9 (by rw [hs9]; exact L9) (by rw [h10]; exact e10)
  rw [h10] at hs10
  obtain ⟨q0, q1, rfl⟩ : ∃ q0 q1, q = [q0, q1] := by
    match q, hq with
    | [q0, q1], _ => exact ⟨q0, q1, rfl⟩
    | [], hq => simp at hq
    | [_], hq => simp at hq
    | _ :: _ :: _ :: _, hq => simp at hq; omega
  obtain ⟨t, r11, a11, rfl, hs11, ht, L11⟩ := saltR_inv (s := x10.2) (ha := ha) hv e10 (by rw [hs10]; exact L10) (by rw [h11]; exact e11)
  rw [h11] at hs11
  obtain ⟨hval, rfl⟩ := valueR_inv (s := x11.2) (pu := pu) e11 (by rw [hs11]; exact L11) (by rw [h12]; exact hz)
  rw [h12] at hval
  rw [hs10, hs11] at hW
  refine ⟨_, x, y, hW, rfl, rfl, rfl, rfl, hx, hy, ht, hval, ?_⟩
  rw [h12]
  rfl

theorem walkS2_ok {l z : List UInt8} {a : Nat} {s : SigV} {x y : List UInt8} (hv : verS s.ve = true) (hx : emitF s.hs = (x, 0)) (hy : emitF s.us = (y, 0)) (b4 : ∀ q ∈ s.hs, q.2.2.length ≤ 100000) (b5 : ∀ q ∈ s.us, q.2.2.length ≤ 100000)
    (ht : saltOk s.ve s.ha s.salt.length = true) (L : Lk l a (midB s x y z)) :
    ∃ a2, walkS2 l s.ve s.ty s.pu s.ha ⟨a, 0⟩ = (if (valueR l ⟨a2, 0⟩ s.pu).2.e = 0 then (({ s with value := (valueR l ⟨a2, 0⟩ s.pu).1 } : SigV), (0 : Int)) else (noSig, (valueR l ⟨a2, 0⟩ s.pu).2.e)) ∧ Lk l a2 z := by
  obtain ⟨a1, h1, L1⟩ := areaR_ok b4 hx L
  obtain ⟨a2, h2, L2⟩ := areaR_ok b5 hy L1
  have h3 := bytesR_ok L2 (n := 2) (by simp)
  have L3 := L2.step
  obtain ⟨a4, h4, L4⟩ := saltR_ok hv ht L3
  refine ⟨a4, ?_, L4⟩
  simp only [walkS2, h1, h2, h3, h4]
  rfl

theorem walkS_head {s : SigV} {l r : List UInt8} (hm : verS s.ve = true ∧ 0 ≤ s.ty ∧ s.ty ≤ 255 ∧ pubS s.pu = true ∧ mayS s.ha s.ve = true) (hl : l = headB s ++ r) : walkS l = walkS2 l s.ve s.ty s.pu s.ha ⟨4, 0⟩ ∧ Lk l 4 r := by
  obtain ⟨hv, h0, h1, hp, hh⟩ := hm
  have hv2 : 0 ≤ s.ve ∧ s.ve ≤ 255 := by rcases ver_nat hv with h | h <;> omega
  have hp2 := pub_nat hp
  have hh2 := may_nat hh
  have conv : ∀ n : Int, 0 ≤ n ∧ n ≤ 255 → ((UInt8.ofNat n.toNat).toNat : Int) = n := fun n hn => by rw [toNat_of _ (by omega)]; omega
  have L0 : Lk l 0 (UInt8.ofNat s.ve.toNat :: UInt8.ofNat s.ty.toNat :: UInt8.ofNat s.pu.toNat :: UInt8.ofNat s.ha.toNat :: r) := by rw [hl]; exact Lk.zero _
  have n1 := numR_ok1 L0
  have n2 := numR_ok1 L0.cons
  have n3 := numR_ok1 L0.cons.cons
  have n4 := numR_ok1 L0.cons.cons.cons
  rw [conv _ hv2] at n1
  rw [conv _ ⟨h0, h1⟩] at n2
  rw [conv _ hp2] at n3
  rw [conv _ hh2] at n4
  refine ⟨?_, L0.cons.cons.cons.cons⟩
  simp only [walkS, n1, hv, Bool.not_true, failR_no, n2, n3, hp, n4, hh]

theorem may_parts {s : SigV} (h : mayG s = true) : (verS s.ve = true ∧ 0 ≤ s.ty ∧ s.ty ≤ 255 ∧ pubS s.pu = true ∧ mayS s.ha s.ve = true) ∧ saltOk s.ve s.ha s.salt.length = true ∧ valOk s.pu s.value = true := by
  simp only [mayG, Bool.and_eq_true, decide_eq_true_eq] at h
  obtain ⟨⟨⟨⟨⟨⟨h1, h2⟩, h3⟩, h4⟩, h5⟩, h6⟩, h7⟩ := h
  exact ⟨⟨h1, h2, h3, h4, h5⟩, h6, h7⟩
theorem areasG_parts {s : SigV} (h : (areasG s).2.2 = 0) : mayG s = true ∧ emitF s.hs = ((areasG s).1, 0) ∧ emitF s.us = ((areasG s).2.1, 0) := by
  unfold areasG at h ⊢
  split at h
  · simp at h
  · rename_i h1
    rw [if_neg h1]
    split at h
    · simp at h
    · rename_i h2
      rw [if_neg h2]
      refine ⟨?_, ?_, ?_⟩
      · cases hm : mayG s with
        | true => rfl
        | false => exact absurd (.inl hm) h1
      · exact Prod.ext rfl (Decidable.of_not_not fun h3 => h2 (.inl h3))
      · exact Prod.ext rfl (Decidable.of_not_not fun h3 => h2 (.inr h3))
theorem emitG_mid {s : SigV} (h : (areasG s).2.2 = 0) : emitG s = (headB s ++ midB s (areasG s).1 (areasG s).2.1 (valB s.pu s.value), 0) := by
  rw [emitG, if_neg (fun h2 => h2 h)]
  simp only [midB, List.append_assoc]
  rfl
/-- THERE AND BACK. -/
theorem sigBack {s : SigV} (hL : SigL s) (he : (emitG s).2 = 0) : walkS (emitG s).1 = (s, 0) ∧ (walkS ((emitG s).1 ++ [0])).2 = 3 ∧ (hashedG s).2 = 0 ∧ ∃ t, (emitG s).1 = (hashedG s).1 ++ t := by
  have h0 : (areasG s).2.2 = 0 := by
    by_cases h : (areasG s).2.2 = 0
    · exact h
    · rw [emitG, if_pos h] at he; exact absurd he h
  obtain ⟨hm, hx, hy⟩ := areasG_parts h0
  obtain ⟨hm1, hm2, hm3⟩ := may_parts hm
  rw [emitG_mid h0]
  simp only
  refine ⟨?_, ?_, ?_, ?_⟩
  · obtain ⟨e, L⟩ := walkS_head hm1 (l := headB s ++ midB s (areasG s).1 (areasG s).2.1 (valB s.pu s.value)) rfl
    obtain ⟨a2, e2, L2⟩ := walkS2_ok hm1.1 hx hy hL.b4 hL.b5 hm2 L
    rw [e, e2, valueR_ok hm3 L2]
    rfl
  · obtain ⟨e, L⟩ := walkS_head hm1 (l := headB s ++ midB s (areasG s).1 (areasG s).2.1 (valB s.pu s.value) ++ [0]) (r := midB s (areasG s).1 (areasG s).2.1 (valB s.pu s.value ++ [0])) (by simp [midB, List.append_assoc])
    obtain ⟨a2, e2, L2⟩ := walkS2_ok hm1.1 hx hy hL.b4 hL.b5 hm2 L
    have h3 := valueR_more hm3 L2
    rw [e, e2, if_neg (by rw [h3]; decide)]
    exact h3
  · rw [hashedG, if_neg (fun h2 => h2 h0)]
  · rw [hashedG, if_neg (fun h2 => h2 h0)]
    refine ⟨areaB s.ve (areasG s).2.1 ++ ([s.l0, s.l1] ++ (saltB s.ve s.salt ++ valB s.pu s.value)), ?_⟩
    simp only [midB, List.append_assoc]
theorem sigErr {s : SigV} (he : (emitG s).2 ≠ 0) : (emitG s).1 = [] ∧ (hashedG s).2 = (emitG s).2 := by
  have h0 : (areasG s).2.2 ≠ 0 := by
    intro h
    rw [emitG_mid h] at he
    exact he rfl
  rw [emitG, hashedG, if_pos h0, if_pos h0]
  exact ⟨rfl, rfl⟩
theorem walkS_bad {l : List UInt8} (h : (walkS l).2 ≠ 0) : (walkS l).1 = noSig := by
  simp only [walkS, walkS2] at h ⊢
  split at h
  · exact absurd rfl h
  · rename_i h1; rw [if_neg h1]

theorem emitT_bound : ∀ (ss : List SubV) (out res : List UInt8), emitT ss out = some res → out.length ≤ res.length ∧ ∀ s ∈ ss, s.2.2.length ≤ res.length
  | [], out, res, h => by
    rw [emitT] at h
    injection h with h
    subst h
    exact ⟨Nat.le_refl _, by simp⟩
  | s :: ss, out, res, h => by
    rw [emitT] at h
    split at h
    · cases h
    · obtain ⟨h1, h2⟩ := emitT_bound ss _ res h
      have h3 : s.2.2.length ≤ (subBytes s).length := by simp [subBytes]; omega
      rw [List.length_append] at h1
      refine ⟨by omega, fun q hq => ?_⟩
      rcases List.mem_cons.1 hq with rfl | hq
      · omega
      · exact h2 q hq
theorem emitF_bound {ss : List SubV} {x : List UInt8} (h : emitF ss = (x, 0)) : ss.length ≤ 40 ∧ ∀ s ∈ ss, s.2.2.length ≤ 4000 := by
  rw [emitF] at h
  cases he : emitT ss [] with
  | none => rw [he] at h; simp [endE] at h
  | some o =>
    rw [he, endE] at h
    split at h
    · simp at h
    · rename_i h1
      obtain ⟨-, h2⟩ := emitT_bound ss [] o he
      exact ⟨by omega, fun q hq => by have := h2 q hq; omega⟩

/-- ONLY SO. -/
theorem sigOnly {l : List UInt8} (hll : l.length ≤ 4000) (h : (walkS l).2 = 0) : emitG (walkS l).1 = (l, 0) ∧ SigL (walkS l).1 := by
  have hW : walkS l = walkS2 l (numR l ⟨0, 0⟩ 1).1 (numR l (failR (numR l ⟨0, 0⟩ 1).2 (!verS (numR l ⟨0, 0⟩ 1).1) 3) 1).1 (numR l (numR l (failR (numR l ⟨0, 0⟩ 1).2 (!verS (numR l ⟨0, 0⟩ 1).1) 3) 1).2 1).1
    (numR l (failR (numR l (numR l (failR (numR l ⟨0, 0⟩ 1).2 (!verS (numR l ⟨0, 0⟩ 1).1) 3) 1).2 1).2 (!pubS (numR l (numR l (failR (numR l ⟨0, 0⟩ 1).2 (!verS (numR l ⟨0, 0⟩ 1).1) 3) 1).2 1).1) 9) 1).1
    (failR (numR l (failR (numR l (numR l (failR (numR l ⟨0, 0⟩ 1).2 (!verS (numR l ⟨0, 0⟩ 1).1) 3) 1).2 1).2 (!pubS (numR l (numR l (failR (numR l ⟨0, 0⟩ 1).2 (!verS (numR l ⟨0, 0⟩ 1).1) 3) 1).2 1).1) 9) 1).2
      (!mayS (numR l (failR (numR l (numR l (failR (numR l ⟨0, 0⟩ 1).2 (!verS (numR l ⟨0, 0⟩ 1).1) 3) 1).2 1).2 (!pubS (numR l (numR l (failR (numR l ⟨0, 0⟩ 1).2 (!verS (numR l ⟨0, 0⟩ 1).1) 3) 1).2 1).1) 9) 1).1 (numR l ⟨0, 0⟩ 1).1) 9) := rfl
  have one : ∀ {s : Rs} {r : List UInt8}, s.e = 0 → Lk l s.at_ r → (numR l s 1).2.e = 0 → ∃ b r2, r = b :: r2 ∧ numR l s 1 = ((b.toNat : Int), ⟨s.at_ + 1, 0⟩) ∧ Lk l (s.at_ + 1) r2 := by
    intro s r hs L h
    obtain ⟨x, r2, e1, e2, e3, L2⟩ := numR_inv (n := 1) (by omega) (by omega) hs L h
    obtain ⟨b, rfl⟩ : ∃ b, x = [b] := by
      match x, e2 with
      | [b], _ => exact ⟨b, rfl⟩
    refine ⟨b, r2, e1, ?_, L2⟩
    have e4 : numR l s 1 = (val [b], ⟨s.at_ + 1, 0⟩) := e3
    rw [e4, val_one]
  generalize h1 : numR l ⟨0, 0⟩ 1 = x1 at hW
  generalize h2 : failR x1.2 (!verS x1.1) 3 = s2 at hW
  generalize h3 : numR l s2 1 = x3 at hW
  generalize h4 : numR l x3.2 1 = x4 at hW
  generalize h5 : failR x4.2 (!pubS x4.1) 9 = s5 at hW
  generalize h6 : numR l s5 1 = x6 at hW
  generalize h7 : failR x6.2 (!mayS x6.1 x1.1) 9 = s7 at hW
  rw [hW] at h ⊢
  have e7 : s7.e = 0 := by
    have : ∀ {ve ty pu ha : Int} {s : Rs}, (walkS2 l ve ty pu ha s).2 = 0 → s.e = 0 := by
      intro ve ty pu ha s h
      simp only [walkS2] at h
      split at h
      · rename_i h12
        exact areaR_e (areaR_e (bytesR_e (saltR_e (valueR_e h12))))
      · rename_i h12
        exact absurd h h12
    exact this h
  obtain ⟨e6, m6, f6⟩ := failR_e (fun _ => by decide) (show (failR x6.2 (!mayS x6.1 x1.1) 9).e = 0 by rw [h7]; exact e7)
  rw [h7] at f6
  have e5 : s5.e = 0 := numR_e (by rw [h6]; exact e6)
  obtain ⟨e4, m4, f4⟩ := failR_e (fun _ => by decide) (show (failR x4.2 (!pubS x4.1) 9).e = 0 by rw [h5]; exact e5)
  rw [h5] at f4
  have e3 : x3.2.e = 0 := numR_e (by rw [h4]; exact e4)
  have e2 : s2.e = 0 := numR_e (by rw [h3]; exact e3)
  obtain ⟨e1, m1, f1⟩ := failR_e (fun _ => by decide) (show (failR x1.2 (!verS x1.1) 3).e = 0 by rw [h2]; exact e2)
  rw [h2] at f1
  obtain ⟨b1, r1, hr1, g1, L1⟩ := one (s := ⟨0, 0⟩) rfl (Lk.zero l) (by rw [h1]; exact e1)
  rw [h1] at g1
  obtain ⟨b2, r2, hr2, g2, L2⟩ := one (s := s2) e2 (by rw [f1, g1]; exact L1) (by rw [h3]; exact e3)
  rw [h3] at g2
  obtain ⟨b3, r3, hr3, g3, L3⟩ := one (s := x3.2) e3 (by rw [g2]; exact L2) (by rw [h4]; exact e4)
  rw [h4] at g3
  obtain ⟨b4, r4, hr4, g4, L4⟩ := one (s := s5) e5 (by rw [f4, g3]; exact L3) (by rw [h6]; exact e6)
  rw [h6] at g4
  have hv : verS x1.1 = true := by simpa using m1
  have hp : pubS x4.1 = true := by simpa using m4
  have hh : mayS x6.1 x1.1 = true := by simpa using m6
  obtain ⟨-, s, x, y, hs, q1, q2, q3, q4, hx, hy, ht, hval, hr⟩ := walkS2_inv hv (s7 := s7) (r := r4) (by rw [f6, g4]; exact L4) h
  rw [hs]
  simp only
  have c1 : x1.1 = (b1.toNat : Int) := by rw [g1]
  have c2 : x3.1 = (b2.toNat : Int) := by rw [g2]
  have c3 : x4.1 = (b3.toNat : Int) := by rw [g3]
  have c4 : x6.1 = (b4.toNat : Int) := by rw [g4]
  have hhead : headB s = [b1, b2, b3, b4] := by
    rw [headB, q1, q2, q3, q4, c1, c2, c3, c4]
    simp only [ofNat_toNat]
  have hb2 := b2.toNat_lt
  have hm : mayG s = true := by
    rw [mayG, q1, q2, q3, q4, hv, hp, hh, ht, hval, c2, decide_eq_true (by omega), decide_eq_true (by omega)]
    rfl
  have hA : areasG s = (x, y, 0) := by
    rw [areasG, hm, hx, hy, if_neg (by simp), if_neg (by simp)]
  have hl : l = headB s ++ midB s x y (valB s.pu s.value) := by
    rw [hr1, hr2, hr3, hr4, hr, hhead, q3]
    rfl
  refine ⟨?_, ?_⟩
  · rw [emitG_mid (by rw [hA]), hA]
    exact Prod.ext hl.symm rfl
  · have hb4 := emitF_bound hx
    have hb5 := emitF_bound hy
    have hsv : s.salt.length ≤ 4000 ∧ s.value.length ≤ 4000 := by
      constructor
      · have h32 := salt_le x6.1
        unfold saltOk at ht
        split at ht
        · have : s.salt.length = 0 := by simpa using ht
          omega
        · have : (s.salt.length : Int) = saltS x6.1 := by simpa using ht
          omega
      · have hlen := congrArg List.length hl
        simp only [midB, List.length_append] at hlen
        have hvl : s.value.length ≤ (valB s.pu s.value).length := by
          unfold valB
          split
          · exact Nat.le_refl _
          · rename_i hn
            rw [valOk, if_neg (by rw [← q3]; exact hn)] at hval
            simp only [Bool.and_eq_true, decide_eq_true_eq] at hval
            rw [List.length_append, hval.1]
            omega
        omega
    have h32 : s.salt.length ≤ 1000 := by
      have h32 := salt_le x6.1
      unfold saltOk at ht
      split at ht
      · have : s.salt.length = 0 := by simpa using ht
        omega
      · have : (s.salt.length : Int) = saltS x6.1 := by simpa using ht
        omega
    exact ⟨by omega, fun q hq => by have := hb4.2 q hq; omega, by omega, fun q hq => by have := hb5.2 q hq; omega, h32, by omega⟩
end Go.Proofs.Ytjbnoamoadaknaa
end
