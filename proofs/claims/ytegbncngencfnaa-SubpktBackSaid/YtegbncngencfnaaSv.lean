/- Subpackets that are written are read as they were: the plain law. -/
import Derived.Test.YtegbncngencfnaaSg
import Derived.Test.YtegbncngencfnaaLk
namespace Go.Proofs.Ytegbncngencfnaa
open Go.RowKit

theorem toNat_of (n : Nat) (h : n < 256) : (UInt8.ofNat n).toNat = n := UInt8.toNat_ofNat_of_lt' (by simp [UInt8.size]; omega)
theorem slenE_ne (n : Nat) : slenE n ≠ [] := by
  unfold slenE
  split
  · simp
  · split <;> simp
theorem slenR_E (m : Nat) (hm : m < 4294967296) (t : List UInt8) : slenR (slenE m ++ t) = (m, t, 0) := by
  unfold slenE
  split
  · rename_i h
    rw [List.singleton_append, slenR, toNat_of m (by omega), if_pos h]
  · rename_i h
    split
    · rename_i h2
      have e1 : (UInt8.ofNat ((m - 192) / 256 + 192)).toNat = (m - 192) / 256 + 192 := toNat_of _ (by omega)
      rw [List.cons_append, List.singleton_append, slenR, e1, if_neg (by omega), if_pos (by omega), twoR]
      have e2 : (UInt8.ofNat (m - 192)).toNat = (m - 192) % 256 := by simp
      rw [e2]
      simp only [Prod.mk.injEq, and_true]
      omega
    · rename_i h2
      rw [List.cons_append, slenR, if_neg (by decide), if_neg (by decide), if_neg (by simp [be_length])]
      have e3 : (be 4 m ++ t).take 4 = be 4 m := by rw [List.take_append_of_le_length (by rw [be_length]; omega)]; rw [List.take_of_length_le (by rw [be_length]; omega)]
      have e4 : (be 4 m ++ t).drop 4 = t := by
        have := List.drop_left (l₁ := be 4 m) (l₂ := t)
        rwa [be_length] at this
      rw [e3, e4]
      rw [val_be (by omega) (by rw [show 256 ^ 4 = 4294967296 by decide]; exact hm)]
      rfl
/-- The bytes x are taken as the subpacket s. -/
def EncS (s : SubV) (x : List UInt8) : Prop := x ≠ [] ∧ ∀ t, stakeR (x ++ t) = (s, t, 0)
theorem enc_sub {s : SubV} (h0 : 0 ≤ s.1) (h1 : s.1 ≤ 127) (hb : s.2.2.length ≤ 100000) : EncS s (subBytes s) := by
  obtain ⟨ty, cr, body⟩ := s
  simp only at h0 h1 hb
  obtain ⟨t, rfl⟩ := Int.eq_ofNat_of_zero_le h0
  refine ⟨by simp [subBytes], fun r => ?_⟩
  have hs : slenR (subBytes ((t : Int), cr, body) ++ r) = (body.length + 1, tyB ((t : Int), cr, body) :: body ++ r, 0) := by
    rw [subBytes, List.append_assoc, slenR_E _ (by simp only; omega)]
  have hty : (tyB ((t : Int), cr, body)).toNat = t + if cr then 128 else 0 := by
    rw [tyB]
    simp only [Int.toNat_natCast]
    rw [toNat_of _ (by cases cr <;> simp <;> omega)]
  rw [stakeR, hs]
  simp only [ne_eq, not_true_eq_false, if_false, List.cons_append, List.headD_cons, List.length_cons, List.length_append, hty]
  rw [if_neg (by omega), if_neg (by omega)]
  have e1 : (t + if cr = true then 128 else 0) % 128 = t := by cases cr <;> simp <;> omega
  have e2 : decide (128 ≤ t + if cr = true then 128 else 0) = cr := by cases cr <;> simp <;> omega
  rw [e1, e2]
  simp
theorem cut_sub {s : SubV} (hb : s.2.2.length ≤ 100000) : (subBytes s).dropLast ≠ [] ∧ stakeR (subBytes s).dropLast = ((0, false, []), [], 2) := by
  obtain ⟨ty, cr, body⟩ := s
  simp only at hb
  have e : (subBytes (ty, cr, body)).dropLast = slenE (body.length + 1) ++ (tyB (ty, cr, body) :: body).dropLast := by
    rw [subBytes, List.dropLast_append_of_ne_nil (by simp)]
  rw [e]
  refine ⟨by simp [slenE_ne], ?_⟩
  rw [stakeR, slenR_E _ (by omega)]
  simp only [ne_eq, not_true_eq_false, if_false, List.length_dropLast, List.length_cons]
  rw [if_neg (by omega), if_pos (by omega)]
/-- The bytes are subpackets, one behind the other. -/
def EncsS : List SubV → List UInt8 → Prop
  | [], b => b = []
  | s :: ss, b => ∃ x r, b = x ++ r ∧ EncS s x ∧ EncsS ss r
theorem parseT_encs : ∀ {ss : List SubV} {b : List UInt8} (z : List UInt8) (acc : List SubV) (f : Nat), EncsS ss b → acc.length + ss.length ≤ 40 → parseT (f + ss.length) acc (b ++ z) = parseT f (acc ++ ss) z
  | [], b, z, acc, f, h, _ => by
    have h' : b = [] := h
    subst h'
    simp
  | s :: ss, b, z, acc, f, ⟨x, r, e, ⟨hx, ht⟩, hr⟩, hl => by
    subst e
    simp only [List.length_cons] at hl
    rw [List.length_cons, ← Nat.add_assoc, parseT, if_neg (by simp [hx]), if_neg (by omega), List.append_assoc, ht]
    simp only [if_true]
    rw [parseT_encs z (acc ++ [s]) f hr (by simp; omega)]
    simp
theorem emitT_ok : ∀ (ss : List SubV) (out res : List UInt8), (∀ s ∈ ss, s.2.2.length ≤ 100000) → emitT ss out = some res → ∃ ys, res = out ++ ys ∧ EncsS ss ys
  | [], out, res, _, h => by
    rw [emitT] at h
    injection h with h
    exact ⟨[], by simp [h], rfl⟩
  | s :: ss, out, res, hl, h => by
    rw [emitT] at h
    split at h
    · cases h
    · rename_i hs
      obtain ⟨ys, rfl, hy⟩ := emitT_ok ss _ res (fun s hs => hl s (List.mem_cons_of_mem _ hs)) h
      exact ⟨subBytes s ++ ys, by simp, subBytes s, ys, rfl, enc_sub (by omega) (by omega) (hl s (by simp)), hy⟩
theorem emitT_app : ∀ (ss : List SubV) (s : SubV) (out : List UInt8), emitT (ss ++ [s]) out = (emitT ss out).bind fun o => emitT [s] o
  | [], s, out => rfl
  | q :: ss, s, out => by
    rw [List.cons_append, emitT, emitT]
    split
    · rfl
    · exact emitT_app ss s _
theorem emit_back {ss : List SubV} (hl : ∀ s ∈ ss, s.2.2.length ≤ 100000) (h : (emitF ss).2 = 0) : parseF (emitF ss).1 = (ss, 0) ∧ ((emitF ss).1 ≠ [] → parseF (emitF ss).1.dropLast = ([], 2)) := by
  rw [emitF] at h ⊢
  cases he : emitT ss [] with
  | none => rw [he] at h; cases h
  | some out =>
    rw [he, endE] at h
    split at h
    · cases h
    · rename_i hb
      rw [endE, if_neg hb]
      obtain ⟨ys, e, hy⟩ := emitT_ok ss [] out hl he
      obtain rfl : out = ys := e
      have h40 : ss.length ≤ 40 := by omega
      have h4 : out.length ≤ 4000 := by omega
      constructor
      · simp only
        rw [parseF, if_neg (by omega)]
        have := parseT_encs [] [] (41 - ss.length) hy (by simpa using h40)
        rw [List.append_nil, show 41 - ss.length + ss.length = 41 by omega, List.nil_append] at this
        rw [this, show 41 - ss.length = 40 - ss.length + 1 by omega, parseT, if_pos rfl]
      · intro hne
        rcases List.eq_nil_or_concat ss with rfl | ⟨init, s, rfl⟩
        · exact absurd hy hne
        · rw [List.concat_eq_append] at he hl h40
          rw [emitT_app] at he
          cases hi : emitT init [] with
          | none => rw [hi] at he; cases he
          | some o1 =>
            rw [hi] at he
            simp only [Option.bind_some, emitT] at he
            split at he
            · cases he
            · injection he with he
              obtain ⟨y1, e1, hy1⟩ := emitT_ok init [] o1 (fun q hq => hl q (by simp [hq])) hi
              obtain rfl : o1 = y1 := e1
              have hcut := cut_sub (s := s) (hl s (by simp))
              have ed : out.dropLast = o1 ++ (subBytes s).dropLast := by rw [← he, List.dropLast_append_of_ne_nil (by simp [subBytes])]
              simp only [List.length_append, List.length_singleton] at h40
              simp only
              rw [parseF, if_neg (by rw [List.length_dropLast]; omega), ed]
              have := parseT_encs (subBytes s).dropLast [] (41 - init.length) hy1 (by simp; omega)
              rw [show 41 - init.length + init.length = 41 by omega, List.nil_append] at this
              rw [this, show 41 - init.length = 40 - init.length + 1 by omega, parseT, if_neg hcut.1, if_neg (by omega), hcut.2]
              rfl
end Go.Proofs.Ytegbncngencfnaa
