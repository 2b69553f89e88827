/- Plain laws of layer 24: what the reader makes of bytes, by what stands there; there and back. -/
import Derived.Test.YtegbncngencfnaaLe
import Derived.Test.YtegbncngencfnaaLb
import Derived.Test.YtegbncngencfnaaLg
import Derived.Test.YtegbncngencfnaaLk
namespace Go.Proofs.Ytegbncngencfnaa

theorem val_one (x : UInt8) : val [x] = (x.toNat : Int) := by
  have := x.toNat_lt
  simp only [val, List.foldl_cons, List.foldl_nil, valStep]
  omega
section
variable {l r x : List UInt8} {a : Nat}
theorem numR_ok1 {b : UInt8} (h : Lk l a (b :: r)) : numR l ⟨a, 0⟩ 1 = ((b.toNat : Int), ⟨a + 1, 0⟩) := by
  have ht := takeS_ok (x := [b]) (r := r) h (n := 1) rfl
  rw [numR, if_pos rfl, numS, if_neg (by omega), ht]
  simp only [val_one, List.length_cons, List.length_nil]
theorem numR_sh1 (h : Lk l a []) : numR l ⟨a, 0⟩ 1 = (0, ⟨a, 2⟩) := by
  have ht := takeS_sh h (n := 1) (by simp)
  rw [numR, if_pos rfl, numS, if_neg (by omega), ht]
  rfl
theorem numR_ok4 (h : Lk l a (x ++ r)) (hx : x.length = 4) : numR l ⟨a, 0⟩ 4 = (val x, ⟨a + 4, 0⟩) := by
  have ht := takeS_ok h (n := 4) (by omega)
  rw [numR, if_pos rfl, numS, if_neg (by omega), ht, hx]
theorem numR_sh4 (h : Lk l a r) (hr : r.length < 4) : numR l ⟨a, 0⟩ 4 = (0, ⟨a, 2⟩) := by
  have ht := takeS_sh h (n := 4) (by omega)
  rw [numR, if_pos rfl, numS, if_neg (by omega), ht]
  rfl
theorem bytesR_ok (h : Lk l a (x ++ r)) {n : Int} (hn : n = x.length) : bytesR l ⟨a, 0⟩ n = (x, ⟨a + x.length, 0⟩) := by
  rw [bytesR, if_pos rfl, takeS_ok h hn]
theorem bytesR_sh (h : Lk l a r) {n : Int} (hn : (r.length : Int) < n) : bytesR l ⟨a, 0⟩ n = ([], ⟨a, 2⟩) := by
  rw [bytesR, if_pos rfl, takeS_sh h hn]
theorem numR_bad {e : Int} (he : e ≠ 0) (w : Int) : numR l ⟨a, e⟩ w = (0, ⟨a, e⟩) := by rw [numR, if_neg he]
theorem bytesR_bad {e : Int} (he : e ≠ 0) (w : Int) : bytesR l ⟨a, e⟩ w = ([], ⟨a, e⟩) := by rw [bytesR, if_neg he]
theorem failR_bad {e : Int} (he : e ≠ 0) (b : Bool) (x : Int) : failR ⟨a, e⟩ b x = ⟨a, e⟩ := by rw [failR, if_neg (fun h => he h.2)]
theorem failR_no (s : Rs) (x : Int) : failR s false x = s := by rw [failR, if_neg (fun h => by cases h.1)]
theorem failR_yes (x : Int) : failR ⟨a, 0⟩ true x = ⟨a, x⟩ := by rw [failR, if_pos ⟨rfl, rfl⟩]
theorem ofNat_toNat (b : UInt8) : UInt8.ofNat ((b.toNat : Nat) : Int).toNat = b := by simp
end

/-- What a literal's bytes come to. -/
def parseL : List UInt8 → (UInt8 × List UInt8 × Int × List UInt8) × Int
  | [] => ((0, [], 0, []), 2)
  | c :: r => if fmtS c = true then (match r with
      | [] => ((0, [], 0, []), 2)
      | k :: r2 => if r2.length < k.toNat + 4 then ((0, [], 0, []), 2) else ((c, r2.take k.toNat, val ((r2.drop k.toNat).take 4), r2.drop (k.toNat + 4)), 0)) else ((0, [], 0, []), 3)

theorem walkL_parse (l : List UInt8) : walkL l = parseL l := by
  cases l with
  | nil =>
    have h1 := numR_sh1 (Lk.zero [])
    simp only [walkL, h1, failR_bad (e := 2) (by omega), numR_bad (e := 2) (by omega), bytesR_bad (e := 2) (by omega), parseL]
    rfl
  | cons c r =>
    have L1 : Lk (c :: r) 1 r := (Lk.zero (c :: r)).cons
    have h1 := numR_ok1 (Lk.zero (c :: r))
    simp only [walkL, h1, ofNat_toNat, parseL]
    cases hf : fmtS c with
    | false =>
      simp only [Bool.not_false, failR_yes, numR_bad (e := 3) (by omega), bytesR_bad (e := 3) (by omega)]
      rfl
    | true =>
      simp only [Bool.not_true, failR_no, if_true]
      cases r with
      | nil =>
        have h2 := numR_sh1 L1
        simp only [Nat.zero_add, h2, numR_bad (e := 2) (by omega), bytesR_bad (e := 2) (by omega)]
        rfl
      | cons k r2 =>
        have h2 := numR_ok1 L1
        have L2 := L1.cons
        simp only [Nat.zero_add, h2]
        by_cases hk : r2.length < k.toNat
        · have h3 := bytesR_sh L2 (n := (k.toNat : Int)) (by omega)
          simp only [h3, numR_bad (e := 2) (by omega)]
          rw [if_neg (by omega), if_pos (by omega)]
        · have L2' : Lk (c :: k :: r2) (1 + 1) (r2.take k.toNat ++ r2.drop k.toNat) := by rw [List.take_append_drop]; exact L2
          have hl : (r2.take k.toNat).length = k.toNat := by rw [List.length_take]; omega
          have h3 := bytesR_ok L2' (n := (k.toNat : Int)) (by rw [hl])
          have L3 := L2'.step
          rw [hl] at h3 L3
          simp only [h3]
          by_cases h4 : r2.length < k.toNat + 4
          · have h5 := numR_sh4 L3 (by rw [List.length_drop]; omega)
            simp only [h5]
            rw [if_neg (by omega), if_pos h4]
          · have L3' : Lk (c :: k :: r2) (1 + 1 + k.toNat) ((r2.drop k.toNat).take 4 ++ (r2.drop k.toNat).drop 4) := by rw [List.take_append_drop]; exact L3
            have h5 := numR_ok4 L3' (by rw [List.length_take, List.length_drop]; omega)
            simp only [h5, if_true]
            rw [if_neg h4]
            congr 1
            congr 1
            congr 1
            congr 1
            rw [show 1 + 1 + k.toNat + 4 = (k.toNat + 4) + 1 + 1 by omega, List.drop_succ_cons, List.drop_succ_cons]

theorem be_val4 (x : List UInt8) (hx : x.length = 4) : be 4 (val x).toNat = x := by
  match x, hx with
  | [a, b, c, d], _ =>
    have h1 := a.toNat_lt
    have h2 := b.toNat_lt
    have h3 := c.toNat_lt
    have h4 := d.toNat_lt
    have hv : (val [a, b, c, d]).toNat = ((a.toNat * 256 + b.toNat) * 256 + c.toNat) * 256 + d.toNat := by
      simp only [val, List.foldl_cons, List.foldl_nil, valStep]
      omega
    rw [hv]
    simp only [be, Nat.pow_succ, Nat.pow_zero, Nat.one_mul, Nat.div_one, List.cons.injEq, and_true]
    refine ⟨?_, ?_, ?_, ?_⟩ <;> (apply UInt8.toNat_inj.1; rw [UInt8.toNat_ofNat']; omega)

/-- What is emitted is parsed as it was. -/
theorem litBack {c : UInt8} {name data : List UInt8} {d : Nat} (hd : d < 4294967296) (h : (emitL c name d data).2 = 0) : walkL (emitL c name d data).1 = ((c, name, (d : Int), data), 0) := by
  rw [emitL] at h ⊢
  by_cases hk : fmtS c = true ∧ name.length ≤ 255
  · rw [if_pos hk, walkL_parse]
    have hn : (UInt8.ofNat name.length).toNat = name.length := by rw [UInt8.toNat_ofNat']; omega
    have hb := be_length 4 d
    simp only [List.cons_append, List.nil_append, List.append_assoc, parseL, if_pos hk.1, hn]
    rw [if_neg (by simp only [List.length_append]; omega), List.take_left' rfl, List.drop_left' rfl, List.take_left' hb, val_be (by omega) (by simpa using hd)]
    congr 1
    congr 1
    congr 1
    congr 1
    rw [← List.drop_drop, List.drop_left' rfl, List.drop_left' hb]
  · rw [if_neg hk] at h
    simp at h

/-- What is parsed is emitted as it was. -/
theorem litOnly {b : List UInt8} (h : (walkL b).2 = 0) : emitL (walkL b).1.1 (walkL b).1.2.1 (walkL b).1.2.2.1.toNat (walkL b).1.2.2.2 = (b, 0) ∧ 0 ≤ (walkL b).1.2.2.1 ∧ (walkL b).1.2.2.1 < 4294967296 := by
  rw [walkL_parse] at h ⊢
  match b, h with
  | [], h => simp [parseL] at h
  | c :: r, h =>
    simp only [parseL] at h ⊢
    by_cases hf : fmtS c = true
    · rw [if_pos hf] at h ⊢
      match r, h with
      | [], h => simp at h
      | k :: r2, h =>
        simp only at h ⊢
        by_cases h4 : r2.length < k.toNat + 4
        · rw [if_pos h4] at h; simp at h
        · rw [if_neg h4]
          simp only
          have hl : (r2.take k.toNat).length = k.toNat := by rw [List.length_take]; omega
          have hx : ((r2.drop k.toNat).take 4).length = 4 := by rw [List.length_take, List.length_drop]; omega
          have hk := k.toNat_lt
          refine ⟨?_, (val_range _).1, val_lt _ (by omega)⟩
          rw [emitL, if_pos ⟨hf, by omega⟩, be_val4 _ hx, hl]
          simp only [List.cons_append, List.nil_append, List.append_assoc]
          rw [show UInt8.ofNat k.toNat = k by simp, ← List.drop_drop, List.take_append_drop, List.take_append_drop]
    · rw [if_neg hf] at h; simp at h
end Go.Proofs.Ytegbncngencfnaa
