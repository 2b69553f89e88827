/- A one-pass packet of bytes: literal.ParsePass. -/
import Derived.Test.YtegbncngencfnaaLd
namespace Go.Proofs.Ytegbncngencfnaa
open Go.RowKit

/-- A one-pass packet's parts: version, type, hash, algorithm, salt, issuer, last. -/
abbrev PassV := Int × Int × Int × Int × List UInt8 × List UInt8 × Bool
/-- The salt, by the version. -/
def saltR (l : List UInt8) (s : Rs) (ha v : Int) : List UInt8 × Rs :=
  if v = 6 then bytesR l (failR (numR l s 1).2 ((numR l s 1).1 != saltS ha) 3) (numR l s 1).1 else ([], s)
/-- What the reader makes of a one-pass packet's bytes. -/
def walkP (l : List UInt8) : PassV × Int :=
  let x1 := numR l ⟨0, 0⟩ 1
  let z := sizeS x1.1 0
  let s2 := failR x1.2 (!z.2.2) 3
  let x3 := numR l s2 1
  let x4 := numR l x3.2 1
  let s5 := failR x4.2 (!mayS x4.1 x1.1) 9
  let x6 := numR l s5 1
  let s7 := failR x6.2 (!pubS x6.1) 9
  let x10 := saltR l s7 x4.1 x1.1
  let x11 := bytesR l x10.2 z.2.1
  let x12 := numR l x11.2 1
  let s13 := failR x12.2 (decide (1 < x12.1) || decide ((x12.2.at_ : Int) < l.length)) 3
  if s13.e = 0 then ((x1.1, x3.1, x4.1, x6.1, x10.1, x11.1, decide (x12.1 = 1)), 0) else ((0, 0, 0, 0, [], [], false), s13.e)

theorem own_drewN {w : World} {B n c : Nat} {A : Option Addr} {l : List UInt8} (h : Own w B A n c l) (k : Nat) : Own (w.drewN k) B A n c l := h
theorem drew_cell {w : World} {p : Addr} {v : Option Value} (h : w.cell? p = v) : w.drew.cell? p = v := h

set_option maxRecDepth 100000 in
set_option maxHeartbeats 6400000 in
theorem ParsePass_calls {A : Option Addr} {n c : Nat} {l : List UInt8} {w : World} (h : Bs w A n c l) (hn : n ≤ 4294967296) :
    Calls Try.prog 21 #[.slice A n c] w fun e w' => ∃ A1 m1 c1 A2 m2 c2 r, e = .returned (.tuple #[.agg #[.int .i64 (walkP l).1.1, .int .i64 (walkP l).1.2.1, .int .i64 (walkP l).1.2.2.1, .int .i64 (walkP l).1.2.2.2.1, .slice A1 m1 c1, .slice A2 m2 c2, .bool (walkP l).1.2.2.2.2.2.2], .int .i64 r]) ∧
      Own w' w.heap.size A1 m1 c1 (walkP l).1.2.2.2.2.1 ∧ Own w' w.heap.size A2 m2 c2 (walkP l).1.2.2.2.2.2.1 ∧ r = (walkP l).2 ∧ Below w.heap.size w w' := by
  have hW := walkP.eq_1 l
  skip
  have hr1 := numR_lt l ⟨0, 0⟩ 1 (by omega)
  generalize hx1 : numR l ⟨0, 0⟩ 1 = x1 at hW hr1
  obtain ⟨v, s1⟩ := x1
  simp only at hW hr1
  have hz := fun W => sizes_calls v 0 W
  generalize sizeS v 0 = z at hW hz
  obtain ⟨z1, z2, z3⟩ := z
  simp only at hW hz
  generalize hx2 : failR s1 (!z3) 3 = s2 at hW
  generalize hx3 : numR l s2 1 = x3 at hW
  obtain ⟨ty, s3⟩ := x3
  simp only at hW
  generalize hx4 : numR l s3 1 = x4 at hW
  obtain ⟨ha, s4⟩ := x4
  simp only at hW
  have hm := fun W => isHash_calls ha v W
  generalize mayS ha v = mb at hW hm
  generalize hx5 : failR s4 (!mb) 9 = s5 at hW
  generalize hx6 : numR l s5 1 = x6 at hW
  obtain ⟨pu, s6⟩ := x6
  simp only at hW
  have hp := fun W => isPub_calls pu W
  generalize pubS pu = pb at hW hp
  generalize hx7 : failR s6 (!pb) 9 = s7 at hW
  generalize hx10 : saltR l s7 ha v = x10 at hW
  obtain ⟨salt, s10⟩ := x10
  simp only at hW
  generalize hx11 : bytesR l s10 z2 = x11 at hW
  obtain ⟨iss, s11⟩ := x11
  simp only at hW
  generalize hx12 : numR l s11 1 = x12 at hW
  obtain ⟨la, s12⟩ := x12
  obtain ⟨a12, e12⟩ := s12
  simp only at hW
  generalize hx13 : failR ⟨a12, e12⟩ (decide (1 < la) || decide ((a12 : Int) < l.length)) 3 = s13 at hW
  obtain ⟨a13, e13⟩ := s13
  simp only at hW
  have H1 := Lib.hid hx1
  have H2 := Lib.hid hx2
  have H3 := Lib.hid hx3
  have H4 := Lib.hid hx4
  have H5 := Lib.hid hx5
  have H6 := Lib.hid hx6
  have H7 := Lib.hid hx7
  have H10 := Lib.hid hx10
  have H11 := Lib.hid hx11
  have H12 := Lib.hid hx12
  have H13 := Lib.hid hx13
  have HW := Lib.hid hW
  have HR := Lib.hid hr1
  have HZ := Lib.hid hz
  have HM := Lib.hid hm
  have HP := Lib.hid hp
  clear hx1 hx2 hx3 hx4 hx5 hx6 hx7 hx10 hx11 hx12 hx13 hW hr1 hz hm hp
  have hnew0 := heap_alloc_new w (.cells #[.int .i64 0, .int .i64 0, .int .i64 0, .int .i64 0, .slice none 0 0, .slice none 0 0, .bool false] 42)
  have hba0 := (Below.refl w.heap.size w).alloc (Nat.le_refl _) (.cells #[.int .i64 0, .int .i64 0, .int .i64 0, .int .i64 0, .slice none 0 0, .slice none 0 0, .bool false] 42)
  go_enter Try.func21, Try.ntmps21
  go_wp2_with fail
  generalize hw0 : w.alloc (.cells #[.int .i64 0, .int .i64 0, .int .i64 0, .int .i64 0, .slice none 0 0, .slice none 0 0, .bool false] 42) = w0 at hnew0 hba0 ⊢
  clear hw0
  have hB0 := blk_lt hnew0
  refine (Over_calls (h.below hba0) hn).mono ?_
  rintro e w1 ⟨g, rfl, hg, hcur, hb1⟩
  have hT0 := Rdr.new (B := w.heap.size + 1) hcur (by omega)
  have hb2 := hb1.alloc hb1.size (.cells #[.pointer (some ⟨g, 0, none⟩), .int .i64 0] 89)
  have hnew2 := (hb2.block w.heap.size hB0).trans hnew0
  have hB2 := below_then hba0 hba0.size hb2
  go_wp2_with fail
  generalize hw2 : w1.alloc (.cells #[.pointer (some ⟨g, 0, none⟩), .int .i64 0] 89) = w2 at hT0 hb2 hnew2 hB2 ⊢
  generalize ht : w1.heap.size = t at hT0 ⊢
  clear hw2 ht hb2 hcur hb1 hnew0 hba0
  refine (rdNumber_calls hT0 1 (by omega)).mono ?_
  rw [H1.out]
  rintro e w3 ⟨rfl, hT3, hw3⟩
  obtain ⟨ho1, ho2, ho3⟩ := hT0.ord
  have hB3 := hB2.trans (hw3.below (B := w.heap.size) hB2.size (by omega) (by omega))
  have hnew3 := (hw3.block (k := w.heap.size) (blk_lt hnew2) (by omega) (by omega)).trans hnew2
  clear hw3 hT0 hnew2 hB2
  have hnl := heap_alloc_new w3 (.cells #[.int .i64 0, .int .i64 0, .int .i64 0, .int .i64 0, .slice none 0 0, .slice none 0 0, .bool false] 42)
  have hbl := (Below.refl w3.heap.size w3).alloc (Nat.le_refl _) (.cells #[.int .i64 0, .int .i64 0, .int .i64 0, .int .i64 0, .slice none 0 0, .slice none 0 0, .bool false] 42)
  generalize hv4 : w3.alloc (.cells #[.int .i64 0, .int .i64 0, .int .i64 0, .int .i64 0, .slice none 0 0, .slice none 0 0, .bool false] 42) = v4 at hnl hbl
  generalize hL : w3.heap.size = L at hnl hv4
  have af0 := blk_frozen hnl 0
  have ac0 : v4.cell? ⟨L, 0, none⟩ = some (.int .i64 0) := blk_cell hnl 0
  have af1 := blk_frozen hnl 1
  have ac1 : v4.cell? ⟨L, 1, none⟩ = some (.int .i64 0) := blk_cell hnl 1
  have af2 := blk_frozen hnl 2
  have ac2 : v4.cell? ⟨L, 2, none⟩ = some (.int .i64 0) := blk_cell hnl 2
  have af3 := blk_frozen hnl 3
  have ac3 : v4.cell? ⟨L, 3, none⟩ = some (.int .i64 0) := blk_cell hnl 3
  have af4 := blk_frozen hnl 4
  have ac4 : v4.cell? ⟨L, 4, none⟩ = some (.slice none 0 0) := blk_cell hnl 4
  have af5 := blk_frozen hnl 5
  have ac5 : v4.cell? ⟨L, 5, none⟩ = some (.slice none 0 0) := blk_cell hnl 5
  have af6 := blk_frozen hnl 6
  have ac6 : v4.cell? ⟨L, 6, none⟩ = some (.bool false) := blk_cell hnl 6
  have hS0 := setRow_block (k := L) [.int .i64 v, .int .i64 0, .int .i64 0, .int .i64 0, .slice none 0 0, .slice none 0 0, .bool false] 0 hnl
  have hG0 := hbl.grown (setRow_grown (k := L) [.int .i64 v, .int .i64 0, .int .i64 0, .int .i64 0, .slice none 0 0, .slice none 0 0, .bool false] v4 0) hbl.size (fun k e => by cases e; omega)
  generalize hw5 : setRow L v4 0 [.int .i64 v, .int .i64 0, .int .i64 0, .int .i64 0, .slice none 0 0, .slice none 0 0, .bool false] = w5 at hS0 hG0
  simp only [setRow, Nat.reduceAdd, Nat.zero_add] at hw5
  have hL5 : w5.heap[L]? = some (.cells #[.int .i64 v, .int .i64 0, .int .i64 0, .int .i64 0, .slice none 0 0, .slice none 0 0, .bool false] 42 (0, 0)) := hS0
  have HW5 := Lib.hid hw5
  clear hS0 hw5 hbl hnl
  go_wp2_with fail
  rw [HW5.out]
  clear HW5 hv4 af0 ac0 af1 ac1 af2 ac2 af3 ac3 af4 ac4 af5 ac5 af6 ac6
  have ho4 := hT3.ord
  have hlt : t < L := by omega
  have hRL : w.heap.size < L := by have := blk_lt hnew3; omega
  have hne1 : ¬ L = t := by omega
  have hne2 : ¬ t = L := by omega
  have hne3 : ¬ L = w.heap.size := by omega
  have hne4 : ¬ w.heap.size = L := by omega
  have hgL : ¬ L = g := by omega
  have hT5 := hT3.below hG0
  have hB5 := below_then hB3 hB3.size hG0
  have hn5 := (hG0.block w.heap.size (blk_lt hnew3)).trans hnew3
  clear hT3 hB3 hnew3 hG0 ho4
  refine (HZ.out w5).mono ?_
  rintro e w5' ⟨rfl, rfl⟩
  have c0 : w5.cell? ⟨L, 0, none⟩ = some (.int .i64 v) := blk_cell hL5 0
  have c1 : w5.cell? ⟨L, 1, none⟩ = some (.int .i64 0) := blk_cell hL5 1
  have c2 : w5.cell? ⟨L, 2, none⟩ = some (.int .i64 0) := blk_cell hL5 2
  have c3 : w5.cell? ⟨L, 3, none⟩ = some (.int .i64 0) := blk_cell hL5 3
  have c4 : w5.cell? ⟨L, 4, none⟩ = some (.slice none 0 0) := blk_cell hL5 4
  have c5 : w5.cell? ⟨L, 5, none⟩ = some (.slice none 0 0) := blk_cell hL5 5
  have c6 : w5.cell? ⟨L, 6, none⟩ = some (.bool false) := blk_cell hL5 6
  go_wp2_with fail
  clear c0 c1 c2 c3 c4 c5 c6
  refine (rdFail_calls hT5 (!z3) 3).mono ?_
  rw [H2.out]
  rintro e w6 ⟨rfl, hT6, hw6⟩
  have hLs := blk_lt hL5
  have hL6 := (hw6.block (k := L) hLs (by omega) (by omega)).trans hL5
  have hn6 := (hw6.block (k := w.heap.size) (blk_lt hn5) (by omega) (by omega)).trans hn5
  have hB6 := hB5.trans (hw6.below (B := w.heap.size) hB5.size (by omega) (by omega))
  clear hL5 hn5 hB5 hT5 hw6 
  have c0 : w6.cell? ⟨L, 0, none⟩ = some (.int .i64 v) := blk_cell hL6 0
  have c1 : w6.cell? ⟨L, 1, none⟩ = some (.int .i64 0) := blk_cell hL6 1
  have c2 : w6.cell? ⟨L, 2, none⟩ = some (.int .i64 0) := blk_cell hL6 2
  have c3 : w6.cell? ⟨L, 3, none⟩ = some (.int .i64 0) := blk_cell hL6 3
  have c4 : w6.cell? ⟨L, 4, none⟩ = some (.slice none 0 0) := blk_cell hL6 4
  have c5 : w6.cell? ⟨L, 5, none⟩ = some (.slice none 0 0) := blk_cell hL6 5
  have c6 : w6.cell? ⟨L, 6, none⟩ = some (.bool false) := blk_cell hL6 6
  go_wp2_with fail
  clear c0 c1 c2 c3 c4 c5 c6
  refine (rdNumber_calls hT6 1 (by omega)).mono ?_
  rw [H3.out]
  rintro e w7 ⟨rfl, hT7, hw7⟩
  have hLs := blk_lt hL6
  have hL7 := (hw7.block (k := L) hLs (by omega) (by omega)).trans hL6
  have hn7 := (hw7.block (k := w.heap.size) (blk_lt hn6) (by omega) (by omega)).trans hn6
  have hB7 := hB6.trans (hw7.below (B := w.heap.size) hB6.size (by omega) (by omega))
  clear hL6 hn6 hB6 hT6 hw7 
  have c0 : w7.cell? ⟨L, 0, none⟩ = some (.int .i64 v) := blk_cell hL7 0
  have c1 : w7.cell? ⟨L, 1, none⟩ = some (.int .i64 0) := blk_cell hL7 1
  have c2 : w7.cell? ⟨L, 2, none⟩ = some (.int .i64 0) := blk_cell hL7 2
  have c3 : w7.cell? ⟨L, 3, none⟩ = some (.int .i64 0) := blk_cell hL7 3
  have c4 : w7.cell? ⟨L, 4, none⟩ = some (.slice none 0 0) := blk_cell hL7 4
  have c5 : w7.cell? ⟨L, 5, none⟩ = some (.slice none 0 0) := blk_cell hL7 5
  have c6 : w7.cell? ⟨L, 6, none⟩ = some (.bool false) := blk_cell hL7 6
  have f1 := blk_frozen hL7 1
  have hL8 : (w7.setCell ⟨L, 1, none⟩ (.int .i64 ty)).heap[L]? = some (.cells #[.int .i64 v, .int .i64 ty, .int .i64 0, .int .i64 0, .slice none 0 0, .slice none 0 0, .bool false] 42 (0, 0)) := blk_set hL7 1 _
  have hg8 := grown_setCell w7 L 1 (.int .i64 ty)
  go_wp2_with fail
  generalize w7.setCell ⟨L, 1, none⟩ (.int .i64 ty) = w8 at hL8 hg8 ⊢
  have hT8 := hT7.other hg8 hlt
  have hn8 := (hg8.block w.heap.size (blk_lt hn7) (fun e => hne4 (Option.some.inj e))).trans hn7
  have hB8 := hB7.grown hg8 hB7.size (fun k e => by cases e; omega)
  clear f1 hL7 hg8 hT7 hn7 hB7 
  clear c0 c1 c2 c3 c4 c5 c6
  refine (rdNumber_calls hT8 1 (by omega)).mono ?_
  rw [H4.out]
  rintro e w9 ⟨rfl, hT9, hw9⟩
  have hLs := blk_lt hL8
  have hL9 := (hw9.block (k := L) hLs (by omega) (by omega)).trans hL8
  have hn9 := (hw9.block (k := w.heap.size) (blk_lt hn8) (by omega) (by omega)).trans hn8
  have hB9 := hB8.trans (hw9.below (B := w.heap.size) hB8.size (by omega) (by omega))
  clear hL8 hn8 hB8 hT8 hw9 
  have c0 : w9.cell? ⟨L, 0, none⟩ = some (.int .i64 v) := blk_cell hL9 0
  have c1 : w9.cell? ⟨L, 1, none⟩ = some (.int .i64 ty) := blk_cell hL9 1
  have c2 : w9.cell? ⟨L, 2, none⟩ = some (.int .i64 0) := blk_cell hL9 2
  have c3 : w9.cell? ⟨L, 3, none⟩ = some (.int .i64 0) := blk_cell hL9 3
  have c4 : w9.cell? ⟨L, 4, none⟩ = some (.slice none 0 0) := blk_cell hL9 4
  have c5 : w9.cell? ⟨L, 5, none⟩ = some (.slice none 0 0) := blk_cell hL9 5
  have c6 : w9.cell? ⟨L, 6, none⟩ = some (.bool false) := blk_cell hL9 6
  have f2 := blk_frozen hL9 2
  have hL10 : (w9.setCell ⟨L, 2, none⟩ (.int .i64 ha)).heap[L]? = some (.cells #[.int .i64 v, .int .i64 ty, .int .i64 ha, .int .i64 0, .slice none 0 0, .slice none 0 0, .bool false] 42 (0, 0)) := blk_set hL9 2 _
  have hg10 := grown_setCell w9 L 2 (.int .i64 ha)
  go_wp2_with fail
  generalize w9.setCell ⟨L, 2, none⟩ (.int .i64 ha) = w10 at hL10 hg10 ⊢
  have hT10 := hT9.other hg10 hlt
  have hn10 := (hg10.block w.heap.size (blk_lt hn9) (fun e => hne4 (Option.some.inj e))).trans hn9
  have hB10 := hB9.grown hg10 hB9.size (fun k e => by cases e; omega)
  clear f2 hL9 hg10 hT9 hn9 hB9 
  clear c0 c1 c2 c3 c4 c5 c6
  refine (HM.out w10).mono ?_
  rintro e wq ⟨rfl, rfl⟩
  have c0 : w10.cell? ⟨L, 0, none⟩ = some (.int .i64 v) := blk_cell hL10 0
  have c1 : w10.cell? ⟨L, 1, none⟩ = some (.int .i64 ty) := blk_cell hL10 1
  have c2 : w10.cell? ⟨L, 2, none⟩ = some (.int .i64 ha) := blk_cell hL10 2
  have c3 : w10.cell? ⟨L, 3, none⟩ = some (.int .i64 0) := blk_cell hL10 3
  have c4 : w10.cell? ⟨L, 4, none⟩ = some (.slice none 0 0) := blk_cell hL10 4
  have c5 : w10.cell? ⟨L, 5, none⟩ = some (.slice none 0 0) := blk_cell hL10 5
  have c6 : w10.cell? ⟨L, 6, none⟩ = some (.bool false) := blk_cell hL10 6
  go_wp2_with fail
  clear c0 c1 c2 c3 c4 c5 c6
  refine (rdFail_calls hT10 (!mb) 9).mono ?_
  rw [H5.out]
  rintro e w11 ⟨rfl, hT11, hw11⟩
  have hLs := blk_lt hL10
  have hL11 := (hw11.block (k := L) hLs (by omega) (by omega)).trans hL10
  have hn11 := (hw11.block (k := w.heap.size) (blk_lt hn10) (by omega) (by omega)).trans hn10
  have hB11 := hB10.trans (hw11.below (B := w.heap.size) hB10.size (by omega) (by omega))
  clear hL10 hn10 hB10 hT10 hw11 
  have c0 : w11.cell? ⟨L, 0, none⟩ = some (.int .i64 v) := blk_cell hL11 0
  have c1 : w11.cell? ⟨L, 1, none⟩ = some (.int .i64 ty) := blk_cell hL11 1
  have c2 : w11.cell? ⟨L, 2, none⟩ = some (.int .i64 ha) := blk_cell hL11 2
  have c3 : w11.cell? ⟨L, 3, none⟩ = some (.int .i64 0) := blk_cell hL11 3
  have c4 : w11.cell? ⟨L, 4, none⟩ = some (.slice none 0 0) := blk_cell hL11 4
  have c5 : w11.cell? ⟨L, 5, none⟩ = some (.slice none 0 0) := blk_cell hL11 5
  have c6 : w11.cell? ⟨L, 6, none⟩ = some (.bool false) := blk_cell hL11 6
  go_wp2_with fail
  clear c0 c1 c2 c3 c4 c5 c6
  refine (rdNumber_calls hT11 1 (by omega)).mono ?_
  rw [H6.out]
  rintro e w12 ⟨rfl, hT12, hw12⟩
  have hLs := blk_lt hL11
  have hL12 := (hw12.block (k := L) hLs (by omega) (by omega)).trans hL11
  have hn12 := (hw12.block (k := w.heap.size) (blk_lt hn11) (by omega) (by omega)).trans hn11
  have hB12 := hB11.trans (hw12.below (B := w.heap.size) hB11.size (by omega) (by omega))
  clear hL11 hn11 hB11 hT11 hw12 
  have c0 : w12.cell? ⟨L, 0, none⟩ = some (.int .i64 v) := blk_cell hL12 0
  have c1 : w12.cell? ⟨L, 1, none⟩ = some (.int .i64 ty) := blk_cell hL12 1
  have c2 : w12.cell? ⟨L, 2, none⟩ = some (.int .i64 ha) := blk_cell hL12 2
  have c3 : w12.cell? ⟨L, 3, none⟩ = some (.int .i64 0) := blk_cell hL12 3
  have c4 : w12.cell? ⟨L, 4, none⟩ = some (.slice none 0 0) := blk_cell hL12 4
  have c5 : w12.cell? ⟨L, 5, none⟩ = some (.slice none 0 0) := blk_cell hL12 5
  have c6 : w12.cell? ⟨L, 6, none⟩ = some (.bool false) := blk_cell hL12 6
  have f3 := blk_frozen hL12 3
  have hL13 : (w12.setCell ⟨L, 3, none⟩ (.int .i64 pu)).heap[L]? = some (.cells #[.int .i64 v, .int .i64 ty, .int .i64 ha, .int .i64 pu, .slice none 0 0, .slice none 0 0, .bool false] 42 (0, 0)) := blk_set hL12 3 _
  have hg13 := grown_setCell w12 L 3 (.int .i64 pu)
  go_wp2_with fail
  generalize w12.setCell ⟨L, 3, none⟩ (.int .i64 pu) = w13 at hL13 hg13 ⊢
  have hT13 := hT12.other hg13 hlt
  have hn13 := (hg13.block w.heap.size (blk_lt hn12) (fun e => hne4 (Option.some.inj e))).trans hn12
  have hB13 := hB12.grown hg13 hB12.size (fun k e => by cases e; omega)
  clear f3 hL12 hg13 hT12 hn12 hB12 
  clear c0 c1 c2 c3 c4 c5 c6
  refine (HP.out w13).mono ?_
  rintro e wq ⟨rfl, rfl⟩
  have c0 : w13.cell? ⟨L, 0, none⟩ = some (.int .i64 v) := blk_cell hL13 0
  have c1 : w13.cell? ⟨L, 1, none⟩ = some (.int .i64 ty) := blk_cell hL13 1
  have c2 : w13.cell? ⟨L, 2, none⟩ = some (.int .i64 ha) := blk_cell hL13 2
  have c3 : w13.cell? ⟨L, 3, none⟩ = some (.int .i64 pu) := blk_cell hL13 3
  have c4 : w13.cell? ⟨L, 4, none⟩ = some (.slice none 0 0) := blk_cell hL13 4
  have c5 : w13.cell? ⟨L, 5, none⟩ = some (.slice none 0 0) := blk_cell hL13 5
  have c6 : w13.cell? ⟨L, 6, none⟩ = some (.bool false) := blk_cell hL13 6
  go_wp2_with fail
  clear c0 c1 c2 c3 c4 c5 c6
  refine (rdFail_calls hT13 (!pb) 9).mono ?_
  rw [H7.out]
  rintro e w14 ⟨rfl, hT14, hw14⟩
  have hLs := blk_lt hL13
  have hL14 := (hw14.block (k := L) hLs (by omega) (by omega)).trans hL13
  have hn14 := (hw14.block (k := w.heap.size) (blk_lt hn13) (by omega) (by omega)).trans hn13
  have hB14 := hB13.trans (hw14.below (B := w.heap.size) hB13.size (by omega) (by omega))
  clear hL13 hn13 hB13 hT13 hw14 
  by_cases hv6 : v = 6
  · subst hv6
    have hx10 := H10.out
    rw [saltR, if_pos rfl] at hx10
    generalize hx8 : numR l s7 1 = x8 at hx10
    obtain ⟨n8, s8⟩ := x8
    simp only at hx10
    have hsz := fun W => SaltSize_calls ha W
    generalize saltS ha = sz at hx10 hsz
    generalize hx9 : failR s8 (n8 != sz) 3 = s9 at hx10
    have H8 := Lib.hid hx8
    have H9 := Lib.hid hx9
    have H10' := Lib.hid hx10
    have HSZ := Lib.hid hsz
    clear hx8 hx9 hx10 hsz
    have c0 : w14.cell? ⟨L, 0, none⟩ = some (.int .i64 6) := blk_cell hL14 0
    have c1 : w14.cell? ⟨L, 1, none⟩ = some (.int .i64 ty) := blk_cell hL14 1
    have c2 : w14.cell? ⟨L, 2, none⟩ = some (.int .i64 ha) := blk_cell hL14 2
    have c3 : w14.cell? ⟨L, 3, none⟩ = some (.int .i64 pu) := blk_cell hL14 3
    have c4 : w14.cell? ⟨L, 4, none⟩ = some (.slice none 0 0) := blk_cell hL14 4
    have c5 : w14.cell? ⟨L, 5, none⟩ = some (.slice none 0 0) := blk_cell hL14 5
    have c6 : w14.cell? ⟨L, 6, none⟩ = some (.bool false) := blk_cell hL14 6
    go_wp2_with fail
    clear c0 c1 c2 c3 c4 c5 c6
    refine (rdNumber_calls hT14 1 (by omega)).mono ?_
    rw [H8.out]
    rintro e w15 ⟨rfl, hT15, hw15⟩
    have hLs := blk_lt hL14
    have hL15 := (hw15.block (k := L) hLs (by omega) (by omega)).trans hL14
    have hn15 := (hw15.block (k := w.heap.size) (blk_lt hn14) (by omega) (by omega)).trans hn14
    have hB15 := hB14.trans (hw15.below (B := w.heap.size) hB14.size (by omega) (by omega))
    clear hL14 hn14 hB14 hT14 hw15 
    have c0 : w15.cell? ⟨L, 0, none⟩ = some (.int .i64 6) := blk_cell hL15 0
    have c1 : w15.cell? ⟨L, 1, none⟩ = some (.int .i64 ty) := blk_cell hL15 1
    have c2 : w15.cell? ⟨L, 2, none⟩ = some (.int .i64 ha) := blk_cell hL15 2
    have c3 : w15.cell? ⟨L, 3, none⟩ = some (.int .i64 pu) := blk_cell hL15 3
    have c4 : w15.cell? ⟨L, 4, none⟩ = some (.slice none 0 0) := blk_cell hL15 4
    have c5 : w15.cell? ⟨L, 5, none⟩ = some (.slice none 0 0) := blk_cell hL15 5
    have c6 : w15.cell? ⟨L, 6, none⟩ = some (.bool false) := blk_cell hL15 6
    go_wp2_with fail
    clear c0 c1 c2 c3 c4 c5 c6
    refine (HSZ.out w15).mono ?_
    rintro e wq ⟨rfl, rfl⟩
    have c0 : w15.cell? ⟨L, 0, none⟩ = some (.int .i64 6) := blk_cell hL15 0
    have c1 : w15.cell? ⟨L, 1, none⟩ = some (.int .i64 ty) := blk_cell hL15 1
    have c2 : w15.cell? ⟨L, 2, none⟩ = some (.int .i64 ha) := blk_cell hL15 2
    have c3 : w15.cell? ⟨L, 3, none⟩ = some (.int .i64 pu) := blk_cell hL15 3
    have c4 : w15.cell? ⟨L, 4, none⟩ = some (.slice none 0 0) := blk_cell hL15 4
    have c5 : w15.cell? ⟨L, 5, none⟩ = some (.slice none 0 0) := blk_cell hL15 5
    have c6 : w15.cell? ⟨L, 6, none⟩ = some (.bool false) := blk_cell hL15 6
    go_wp2_with fail
    clear c0 c1 c2 c3 c4 c5 c6
    refine (rdFail_calls hT15 (n8 != sz) 3).mono ?_
    rw [H9.out]
    rintro e w16 ⟨rfl, hT16, hw16⟩
    have hLs := blk_lt hL15
    have hL16 := (hw16.block (k := L) hLs (by omega) (by omega)).trans hL15
    have hn16 := (hw16.block (k := w.heap.size) (blk_lt hn15) (by omega) (by omega)).trans hn15
    have hB16 := hB15.trans (hw16.below (B := w.heap.size) hB15.size (by omega) (by omega))
    clear hL15 hn15 hB15 hT15 hw16 
    have c0 : w16.cell? ⟨L, 0, none⟩ = some (.int .i64 6) := blk_cell hL16 0
    have c1 : w16.cell? ⟨L, 1, none⟩ = some (.int .i64 ty) := blk_cell hL16 1
    have c2 : w16.cell? ⟨L, 2, none⟩ = some (.int .i64 ha) := blk_cell hL16 2
    have c3 : w16.cell? ⟨L, 3, none⟩ = some (.int .i64 pu) := blk_cell hL16 3
    have c4 : w16.cell? ⟨L, 4, none⟩ = some (.slice none 0 0) := blk_cell hL16 4
    have c5 : w16.cell? ⟨L, 5, none⟩ = some (.slice none 0 0) := blk_cell hL16 5
    have c6 : w16.cell? ⟨L, 6, none⟩ = some (.bool false) := blk_cell hL16 6
    go_wp2_with fail
    clear c0 c1 c2 c3 c4 c5 c6
    refine (rdBytes_calls hT16 n8).mono ?_
    rw [H10'.out]
    rintro e w17 ⟨As, ms, cs, rfl, hq17, hT17, hw17⟩
    have hs17 := hq17.lower (B' := L + 1) (blk_lt hL16)
    clear hq17
    have hLs := blk_lt hL16
    have hL17 := (hw17.block (k := L) hLs (by omega) (by omega)).trans hL16
    have hn17 := (hw17.block (k := w.heap.size) (blk_lt hn16) (by omega) (by omega)).trans hn16
    have hB17 := hB16.trans (hw17.below (B := w.heap.size) hB16.size (by omega) (by omega))
    clear hL16 hn16 hB16 hT16 hw17 
    have c0 : w17.cell? ⟨L, 0, none⟩ = some (.int .i64 6) := blk_cell hL17 0
    have c1 : w17.cell? ⟨L, 1, none⟩ = some (.int .i64 ty) := blk_cell hL17 1
    have c2 : w17.cell? ⟨L, 2, none⟩ = some (.int .i64 ha) := blk_cell hL17 2
    have c3 : w17.cell? ⟨L, 3, none⟩ = some (.int .i64 pu) := blk_cell hL17 3
    have c4 : w17.cell? ⟨L, 4, none⟩ = some (.slice none 0 0) := blk_cell hL17 4
    have c5 : w17.cell? ⟨L, 5, none⟩ = some (.slice none 0 0) := blk_cell hL17 5
    have c6 : w17.cell? ⟨L, 6, none⟩ = some (.bool false) := blk_cell hL17 6
    have f4 := blk_frozen hL17 4
    have hL18 : (w17.setCell ⟨L, 4, none⟩ (.slice As ms cs)).heap[L]? = some (.cells #[.int .i64 6, .int .i64 ty, .int .i64 ha, .int .i64 pu, .slice As ms cs, .slice none 0 0, .bool false] 42 (0, 0)) := blk_set hL17 4 _
    have hg18 := grown_setCell w17 L 4 (.slice As ms cs)
    go_wp2_with fail
    generalize w17.setCell ⟨L, 4, none⟩ (.slice As ms cs) = w18 at hL18 hg18 ⊢
    have hT18 := hT17.other hg18 hlt
    have hs18 := hs17.grown hg18 (fun ad e e2 => by have := (hs17.blk ad e).1; injection e2 with e2; omega)
    have hn18 := (hg18.block w.heap.size (blk_lt hn17) (fun e => hne4 (Option.some.inj e))).trans hn17
    have hB18 := hB17.grown hg18 hB17.size (fun k e => by cases e; omega)
    clear f4 hL17 hg18 hT17 hn17 hB17 hs17
    clear c0 c1 c2 c3 c4 c5 c6
    refine (rdBytes_calls hT18 z2).mono ?_
    rw [H11.out]
    rintro e w19 ⟨Ai, mi, ci, rfl, hq19, hT19, hw19⟩
    have hi19 := hq19.lower (B' := L + 1) (blk_lt hL18)
    clear hq19
    have hLs := blk_lt hL18
    have hL19 := (hw19.block (k := L) hLs (by omega) (by omega)).trans hL18
    have hn19 := (hw19.block (k := w.heap.size) (blk_lt hn18) (by omega) (by omega)).trans hn18
    have hB19 := hB18.trans (hw19.below (B := w.heap.size) hB18.size (by omega) (by omega))
    have hs19 := hw19.own hs18 (by omega) (by omega)
    clear hL18 hn18 hB18 hT18 hw19 hs18
    have c0 : w19.cell? ⟨L, 0, none⟩ = some (.int .i64 6) := blk_cell hL19 0
    have c1 : w19.cell? ⟨L, 1, none⟩ = some (.int .i64 ty) := blk_cell hL19 1
    have c2 : w19.cell? ⟨L, 2, none⟩ = some (.int .i64 ha) := blk_cell hL19 2
    have c3 : w19.cell? ⟨L, 3, none⟩ = some (.int .i64 pu) := blk_cell hL19 3
    have c4 : w19.cell? ⟨L, 4, none⟩ = some (.slice As ms cs) := blk_cell hL19 4
    have c5 : w19.cell? ⟨L, 5, none⟩ = some (.slice none 0 0) := blk_cell hL19 5
    have c6 : w19.cell? ⟨L, 6, none⟩ = some (.bool false) := blk_cell hL19 6
    have f5 := blk_frozen hL19 5
    have hL20 : (w19.setCell ⟨L, 5, none⟩ (.slice Ai mi ci)).heap[L]? = some (.cells #[.int .i64 6, .int .i64 ty, .int .i64 ha, .int .i64 pu, .slice As ms cs, .slice Ai mi ci, .bool false] 42 (0, 0)) := blk_set hL19 5 _
    have hg20 := grown_setCell w19 L 5 (.slice Ai mi ci)
    go_wp2_with fail
    generalize w19.setCell ⟨L, 5, none⟩ (.slice Ai mi ci) = w20 at hL20 hg20 ⊢
    have hT20 := hT19.other hg20 hlt
    have hs20 := hs19.grown hg20 (fun ad e e2 => by have := (hs19.blk ad e).1; injection e2 with e2; omega)
    have hi20 := hi19.grown hg20 (fun ad e e2 => by have := (hi19.blk ad e).1; injection e2 with e2; omega)
    have hn20 := (hg20.block w.heap.size (blk_lt hn19) (fun e => hne4 (Option.some.inj e))).trans hn19
    have hB20 := hB19.grown hg20 hB19.size (fun k e => by cases e; omega)
    clear f5 hL19 hg20 hT19 hn19 hB19 hs19 hi19
    clear c0 c1 c2 c3 c4 c5 c6
    refine (rdNumber_calls hT20 1 (by omega)).mono ?_
    rw [H12.out]
    rintro e w21 ⟨rfl, hT21, hw21⟩
    have hLs := blk_lt hL20
    have hL21 := (hw21.block (k := L) hLs (by omega) (by omega)).trans hL20
    have hn21 := (hw21.block (k := w.heap.size) (blk_lt hn20) (by omega) (by omega)).trans hn20
    have hB21 := hB20.trans (hw21.below (B := w.heap.size) hB20.size (by omega) (by omega))
    have hs21 := hw21.own hs20 (by omega) (by omega)
    have hi21 := hw21.own hi20 (by omega) (by omega)
    clear hL20 hn20 hB20 hT20 hw21 hs20 hi20
    by_cases hla : 1 < la
    · have hd1 : decide (1 < la) = true := decide_eq_true hla
      have H13' := Lib.hid (show failR ⟨a12, e12⟩ true 3 = ⟨a13, e13⟩ by have := H13.out; rwa [hd1, Bool.true_or] at this)
      have c0 : w21.cell? ⟨L, 0, none⟩ = some (.int .i64 6) := blk_cell hL21 0
      have c1 : w21.cell? ⟨L, 1, none⟩ = some (.int .i64 ty) := blk_cell hL21 1
      have c2 : w21.cell? ⟨L, 2, none⟩ = some (.int .i64 ha) := blk_cell hL21 2
      have c3 : w21.cell? ⟨L, 3, none⟩ = some (.int .i64 pu) := blk_cell hL21 3
      have c4 : w21.cell? ⟨L, 4, none⟩ = some (.slice As ms cs) := blk_cell hL21 4
      have c5 : w21.cell? ⟨L, 5, none⟩ = some (.slice Ai mi ci) := blk_cell hL21 5
      have c6 : w21.cell? ⟨L, 6, none⟩ = some (.bool false) := blk_cell hL21 6
      go_wp2_with fail
      clear c0 c1 c2 c3 c4 c5 c6
      refine (rdFail_calls hT21 (true) 3).mono ?_
      rw [H13'.out]
      rintro e w22 ⟨rfl, hT22, hw22⟩
      have hLs := blk_lt hL21
      have hL22 := (hw22.block (k := L) hLs (by omega) (by omega)).trans hL21
      have hn22 := (hw22.block (k := w.heap.size) (blk_lt hn21) (by omega) (by omega)).trans hn21
      have hB22 := hB21.trans (hw22.below (B := w.heap.size) hB21.size (by omega) (by omega))
      have hs22 := hw22.own hs21 (by omega) (by omega)
      have hi22 := hw22.own hi21 (by omega) (by omega)
      clear hL21 hn21 hB21 hT21 hw22 hs21 hi21
      obtain ⟨q0, q1, _, _⟩ := hT22.open_
      have rf0 := blk_frozen hn22 0
      have rc0 : w22.cell? ⟨w.heap.size, 0, none⟩ = some (.int .i64 0) := blk_cell hn22 0
      have rf1 := blk_frozen hn22 1
      have rc1 : w22.cell? ⟨w.heap.size, 1, none⟩ = some (.int .i64 0) := blk_cell hn22 1
      have rf2 := blk_frozen hn22 2
      have rc2 : w22.cell? ⟨w.heap.size, 2, none⟩ = some (.int .i64 0) := blk_cell hn22 2
      have rf3 := blk_frozen hn22 3
      have rc3 : w22.cell? ⟨w.heap.size, 3, none⟩ = some (.int .i64 0) := blk_cell hn22 3
      have rf4 := blk_frozen hn22 4
      have rc4 : w22.cell? ⟨w.heap.size, 4, none⟩ = some (.slice none 0 0) := blk_cell hn22 4
      have rf5 := blk_frozen hn22 5
      have rc5 : w22.cell? ⟨w.heap.size, 5, none⟩ = some (.slice none 0 0) := blk_cell hn22 5
      have rf6 := blk_frozen hn22 6
      have rc6 : w22.cell? ⟨w.heap.size, 6, none⟩ = some (.bool false) := blk_cell hn22 6
      have he : ¬ e13 = 0 := by
        have hx := congrArg Rs.e H13'.out
        rw [failR] at hx
        split at hx
        · simp only at hx; omega
        · rename_i hh; simp only at hx hh; intro h0; rw [h0] at hx; exact hh ⟨trivial, hx⟩
      have hne : (e13 != 0) = true := by rw [bne_iff_ne]; exact he
      have HW1 := Lib.hid (show walkP l = ((0, 0, 0, 0, [], [], false), e13) by rw [HW.out, if_neg he])
      clear he
      go_wp2_with fail
      have hb := setRow_block (k := w.heap.size) [.int .i64 0, .int .i64 0, .int .i64 0, .int .i64 0, .slice none 0 0, .slice none 0 0, .bool false] 0 (w := w22.drew) hn22
      have hgR := setRow_grown (k := w.heap.size) [.int .i64 0, .int .i64 0, .int .i64 0, .int .i64 0, .slice none 0 0, .slice none 0 0, .bool false] w22.drew 0
      have hBR := hB22.drew.grown hgR hB22.size (fun k e => by cases e; exact Nat.le_refl _)
      have u0 := blk_cell (setRow_block (k := w.heap.size) [.int .i64 0] 0 hn22) 0
      have u1 := blk_cell (setRow_block (k := w.heap.size) [.int .i64 0, .int .i64 0] 0 hn22) 1
      have u2 := blk_cell (setRow_block (k := w.heap.size) [.int .i64 0, .int .i64 0, .int .i64 0] 0 hn22) 2
      have u3 := blk_cell (setRow_block (k := w.heap.size) [.int .i64 0, .int .i64 0, .int .i64 0, .int .i64 0] 0 hn22) 3
      have u4 := blk_cell (setRow_block (k := w.heap.size) [.int .i64 0, .int .i64 0, .int .i64 0, .int .i64 0, .slice none 0 0] 0 hn22) 4
      have u5 := blk_cell (setRow_block (k := w.heap.size) [.int .i64 0, .int .i64 0, .int .i64 0, .int .i64 0, .slice none 0 0, .slice none 0 0] 0 hn22) 5
      have u6 := blk_cell (setRow_block (k := w.heap.size) [.int .i64 0, .int .i64 0, .int .i64 0, .int .i64 0, .slice none 0 0, .slice none 0 0, .bool false] 0 hn22) 6
      simp only [setRow, setArr, Nat.reduceAdd, Nat.zero_add] at u0 u1 u2 u3 u4 u5 u6
      have Q0 := Lib.hid u0
      have Q1 := Lib.hid u1
      have Q2 := Lib.hid u2
      have Q3 := Lib.hid u3
      have Q4 := Lib.hid u4
      have Q5 := Lib.hid u5
      have Q6 := Lib.hid u6
      have HBR := Lib.hid hBR
      have hgU := setRow_grown (k := w.heap.size) [.int .i64 0, .int .i64 0, .int .i64 0, .int .i64 0, .slice none 0 0, .slice none 0 0, .bool false] w22 0
      have hTu := (hgU.block t (blk_lt hT22.1) (fun e => by injection e with e; omega)).trans hT22.1
      have t0d : (setRow w.heap.size w22 0 [.int .i64 0, .int .i64 0, .int .i64 0, .int .i64 0, .slice none 0 0, .slice none 0 0, .bool false]).drew.cell? ⟨t, 0, none⟩ = some (.pointer (some ⟨g, 0, none⟩)) := drew_cell (blk_cell hTu 0)
      have t1d : (setRow w.heap.size w22 0 [.int .i64 0, .int .i64 0, .int .i64 0, .int .i64 0, .slice none 0 0, .slice none 0 0, .bool false]).drew.cell? ⟨t, 1, none⟩ = some (.int .i64 e13) := drew_cell (blk_cell hTu 1)
      have q0d : w22.drew.cell? ⟨t, 0, none⟩ = some (.pointer (some ⟨g, 0, none⟩)) := drew_cell q0
      have q1d : w22.drew.cell? ⟨t, 1, none⟩ = some (.int .i64 e13) := drew_cell q1
      simp only [setRow, Nat.reduceAdd, Nat.zero_add] at t0d t1d
      have hBU := (hB22.grown hgU hB22.size (fun k e => by cases e; exact Nat.le_refl _)).drew
      simp only [setRow, Nat.reduceAdd, Nat.zero_add] at hBU
      have HBU := Lib.hid hBU
      clear hb hgR hBR u0 u1 u2 u3 u4 u5 u6 hgU hTu q0 q1 hBU
      go_region_held (fun w' => w'.cell? ⟨t, 0, none⟩ = some (.pointer (some ⟨g, 0, none⟩)) ∧ w'.cell? ⟨t, 1, none⟩ = some (.int .i64 e13)) (first | with_reducible exact ⟨q0d, q1d⟩ | with_reducible exact ⟨t0d, t1d⟩) (fail)
      go_wp2
      refine bodyPost_ret (v := .tuple #[.agg #[.int .i64 0, .int .i64 0, .int .i64 0, .int .i64 0, .slice none 0 0, .slice none 0 0, .bool false], .int .i64 e13]) (by simp [results, Try.f21, go_sem, Q0.out, Q1.out, Q2.out, Q3.out, Q4.out, Q5.out, Q6.out]) rfl ?_
      rw [HW1.out]
      exact ⟨none, 0, 0, none, 0, 0, e13, rfl, Own.nil_ _ _, Own.nil_ _ _, rfl, HBU.out⟩
    · have hd1 : decide (1 < la) = false := decide_eq_false hla
      have H13' := Lib.hid (show failR ⟨a12, e12⟩ (decide ((a12 : Int) < l.length)) 3 = ⟨a13, e13⟩ by have := H13.out; rwa [hd1, Bool.false_or] at this)
      obtain ⟨bb, hbb⟩ : ∃ bb, bb = decide (a12 < l.length) := ⟨_, rfl⟩
      have hd2 : decide ((0 : Int) < (l.length : Int) - (a12 : Int)) = bb := by rw [hbb]; exact decide_eq_decide.2 (by omega)
      have hd3 : decide ((a12 : Int) < (l.length : Int)) = bb := by rw [hbb]; exact decide_eq_decide.2 (by omega)
      have hd4 := hbb.symm
      rw [hd3] at H13'
      clear hbb
      obtain ⟨q0, q1, _, hcq⟩ := hT21.open_
      have c0 : w21.cell? ⟨L, 0, none⟩ = some (.int .i64 6) := blk_cell hL21 0
      have c1 : w21.cell? ⟨L, 1, none⟩ = some (.int .i64 ty) := blk_cell hL21 1
      have c2 : w21.cell? ⟨L, 2, none⟩ = some (.int .i64 ha) := blk_cell hL21 2
      have c3 : w21.cell? ⟨L, 3, none⟩ = some (.int .i64 pu) := blk_cell hL21 3
      have c4 : w21.cell? ⟨L, 4, none⟩ = some (.slice As ms cs) := blk_cell hL21 4
      have c5 : w21.cell? ⟨L, 5, none⟩ = some (.slice Ai mi ci) := blk_cell hL21 5
      have c6 : w21.cell? ⟨L, 6, none⟩ = some (.bool false) := blk_cell hL21 6
      go_wp2_with fail
      clear c0 c1 c2 c3 c4 c5 c6
      refine (Left_calls hcq).mono ?_
      rintro e wq ⟨rfl, nq, rfl⟩
      clear q0 q1 hcq
      have hT22 : Rdr (w21.drewN nq) (w.heap.size + 1) t g l ⟨a12, e12⟩ := hT21
      have hL22 : (w21.drewN nq).heap[L]? = _ := hL21
      have hn22 : (w21.drewN nq).heap[w.heap.size]? = _ := hn21
      have hB22 := below_drewN hB21 nq
      have hs22 := own_drewN hs21 nq
      have hi22 := own_drewN hi21 nq
      clear hT21 hL21 hn21 hB21 hs21 hi21
      generalize w21.drewN nq = w22 at hT22 hL22 hn22 hB22 hs22 hi22 ⊢
      have c0 : w22.cell? ⟨L, 0, none⟩ = some (.int .i64 6) := blk_cell hL22 0
      have c1 : w22.cell? ⟨L, 1, none⟩ = some (.int .i64 ty) := blk_cell hL22 1
      have c2 : w22.cell? ⟨L, 2, none⟩ = some (.int .i64 ha) := blk_cell hL22 2
      have c3 : w22.cell? ⟨L, 3, none⟩ = some (.int .i64 pu) := blk_cell hL22 3
      have c4 : w22.cell? ⟨L, 4, none⟩ = some (.slice As ms cs) := blk_cell hL22 4
      have c5 : w22.cell? ⟨L, 5, none⟩ = some (.slice Ai mi ci) := blk_cell hL22 5
      have c6 : w22.cell? ⟨L, 6, none⟩ = some (.bool false) := blk_cell hL22 6
      go_wp2_with fail
      clear c0 c1 c2 c3 c4 c5 c6
      refine (rdFail_calls hT22 (bb) 3).mono ?_
      rw [H13'.out]
      rintro e w23 ⟨rfl, hT23, hw23⟩
      have hLs := blk_lt hL22
      have hL23 := (hw23.block (k := L) hLs (by omega) (by omega)).trans hL22
      have hn23 := (hw23.block (k := w.heap.size) (blk_lt hn22) (by omega) (by omega)).trans hn22
      have hB23 := hB22.trans (hw23.below (B := w.heap.size) hB22.size (by omega) (by omega))
      have hs23 := hw23.own hs22 (by omega) (by omega)
      have hi23 := hw23.own hi22 (by omega) (by omega)
      clear hL22 hn22 hB22 hT22 hw23 hs22 hi22
      obtain ⟨q0, q1, _, _⟩ := hT23.open_
      have rf0 := blk_frozen hn23 0
      have rc0 : w23.cell? ⟨w.heap.size, 0, none⟩ = some (.int .i64 0) := blk_cell hn23 0
      have rf1 := blk_frozen hn23 1
      have rc1 : w23.cell? ⟨w.heap.size, 1, none⟩ = some (.int .i64 0) := blk_cell hn23 1
      have rf2 := blk_frozen hn23 2
      have rc2 : w23.cell? ⟨w.heap.size, 2, none⟩ = some (.int .i64 0) := blk_cell hn23 2
      have rf3 := blk_frozen hn23 3
      have rc3 : w23.cell? ⟨w.heap.size, 3, none⟩ = some (.int .i64 0) := blk_cell hn23 3
      have rf4 := blk_frozen hn23 4
      have rc4 : w23.cell? ⟨w.heap.size, 4, none⟩ = some (.slice none 0 0) := blk_cell hn23 4
      have rf5 := blk_frozen hn23 5
      have rc5 : w23.cell? ⟨w.heap.size, 5, none⟩ = some (.slice none 0 0) := blk_cell hn23 5
      have rf6 := blk_frozen hn23 6
      have rc6 : w23.cell? ⟨w.heap.size, 6, none⟩ = some (.bool false) := blk_cell hn23 6
      by_cases he : e13 = 0
      · subst he
        have c0 : w23.cell? ⟨L, 0, none⟩ = some (.int .i64 6) := blk_cell hL23 0
        have c1 : w23.cell? ⟨L, 1, none⟩ = some (.int .i64 ty) := blk_cell hL23 1
        have c2 : w23.cell? ⟨L, 2, none⟩ = some (.int .i64 ha) := blk_cell hL23 2
        have c3 : w23.cell? ⟨L, 3, none⟩ = some (.int .i64 pu) := blk_cell hL23 3
        have c4 : w23.cell? ⟨L, 4, none⟩ = some (.slice As ms cs) := blk_cell hL23 4
        have c5 : w23.cell? ⟨L, 5, none⟩ = some (.slice Ai mi ci) := blk_cell hL23 5
        have c6 : w23.cell? ⟨L, 6, none⟩ = some (.bool false) := blk_cell hL23 6
        have f6 := blk_frozen hL23 6
        have hgA := grown_setCell w23 L 6 (.bool (la == 1))
        have hnA := (hgA.block w.heap.size (blk_lt hn23) (fun e => hne4 (Option.some.inj e))).trans hn23
        have hb := setRow_block (k := w.heap.size) [.int .i64 6, .int .i64 ty, .int .i64 ha, .int .i64 pu, .slice As ms cs, .slice Ai mi ci, .bool (la == 1)] 0 hnA
        have hgR := setRow_grown (k := w.heap.size) [.int .i64 6, .int .i64 ty, .int .i64 ha, .int .i64 pu, .slice As ms cs, .slice Ai mi ci, .bool (la == 1)] (w23.setCell ⟨L, 6, none⟩ (.bool (la == 1))) 0
        have hBA := hB23.grown hgA hB23.size (fun k e => by cases e; omega)
        have hBR := hBA.grown hgR hBA.size (fun k e => by cases e; exact Nat.le_refl _)
        have hsR := (hs23.grown hgA (fun ad e e2 => by have := (hs23.blk ad e).1; injection e2 with e2; omega)).grown hgR (fun ad e e2 => by have := (hs23.blk ad e).1; injection e2 with e2; omega)
        have hiR := (hi23.grown hgA (fun ad e e2 => by have := (hi23.blk ad e).1; injection e2 with e2; omega)).grown hgR (fun ad e e2 => by have := (hi23.blk ad e).1; injection e2 with e2; omega)
        have u0 := blk_cell hb 0
        have u1 := blk_cell hb 1
        have u2 := blk_cell hb 2
        have u3 := blk_cell hb 3
        have u4 := blk_cell hb 4
        have u5 := blk_cell hb 5
        have u6 := blk_cell hb 6
        simp only [setRow, setArr, Nat.reduceAdd, Nat.zero_add] at u0 u1 u2 u3 u4 u5 u6
        have Q0 := Lib.hid u0
        have Q1 := Lib.hid u1
        have Q2 := Lib.hid u2
        have Q3 := Lib.hid u3
        have Q4 := Lib.hid u4
        have Q5 := Lib.hid u5
        have Q6 := Lib.hid u6
        have HS := Lib.hid hsR
        have HI := Lib.hid hiR
        have HBR := Lib.hid hBR
        have HW1 := Lib.hid (show walkP l = ((6, ty, ha, pu, salt, iss, decide (la = 1)), 0) by rw [HW.out]; simp)
        clear hBR hBA hgR hgA hb hnA u0 u1 u2 u3 u4 u5 u6 hsR hiR
        go_wp2
        refine bodyPost_ret (v := .tuple #[.agg #[.int .i64 6, .int .i64 ty, .int .i64 ha, .int .i64 pu, .slice As ms cs, .slice Ai mi ci, .bool (la == 1)], .int .i64 0]) (by simp [results, Try.f21, go_sem, Q0.out, Q1.out, Q2.out, Q3.out, Q4.out, Q5.out, Q6.out]) rfl ?_
        rw [HW1.out]
        have hbq : (la == 1) = decide (la = 1) := by by_cases h : la = 1 <;> simp [h]
        rw [hbq]
        exact ⟨_, _, _, _, _, _, 0, rfl, HS.out.lower (by omega), HI.out.lower (by omega), rfl, HBR.out⟩
      · have hne : (e13 != 0) = true := by rw [bne_iff_ne]; exact he
        have HW1 := Lib.hid (show walkP l = ((0, 0, 0, 0, [], [], false), e13) by rw [HW.out, if_neg he])
        clear he
        go_wp2_with fail
        have hb := setRow_block (k := w.heap.size) [.int .i64 0, .int .i64 0, .int .i64 0, .int .i64 0, .slice none 0 0, .slice none 0 0, .bool false] 0 (w := w23.drew) hn23
        have hgR := setRow_grown (k := w.heap.size) [.int .i64 0, .int .i64 0, .int .i64 0, .int .i64 0, .slice none 0 0, .slice none 0 0, .bool false] w23.drew 0
        have hBR := hB23.drew.grown hgR hB23.size (fun k e => by cases e; exact Nat.le_refl _)
        have u0 := blk_cell (setRow_block (k := w.heap.size) [.int .i64 0] 0 hn23) 0
        have u1 := blk_cell (setRow_block (k := w.heap.size) [.int .i64 0, .int .i64 0] 0 hn23) 1
        have u2 := blk_cell (setRow_block (k := w.heap.size) [.int .i64 0, .int .i64 0, .int .i64 0] 0 hn23) 2
        have u3 := blk_cell (setRow_block (k := w.heap.size) [.int .i64 0, .int .i64 0, .int .i64 0, .int .i64 0] 0 hn23) 3
        have u4 := blk_cell (setRow_block (k := w.heap.size) [.int .i64 0, .int .i64 0, .int .i64 0, .int .i64 0, .slice none 0 0] 0 hn23) 4
        have u5 := blk_cell (setRow_block (k := w.heap.size) [.int .i64 0, .int .i64 0, .int .i64 0, .int .i64 0, .slice none 0 0, .slice none 0 0] 0 hn23) 5
        have u6 := blk_cell (setRow_block (k := w.heap.size) [.int .i64 0, .int .i64 0, .int .i64 0, .int .i64 0, .slice none 0 0, .slice none 0 0, .bool false] 0 hn23) 6
        simp only [setRow, setArr, Nat.reduceAdd, Nat.zero_add] at u0 u1 u2 u3 u4 u5 u6
        have Q0 := Lib.hid u0
        have Q1 := Lib.hid u1
        have Q2 := Lib.hid u2
        have Q3 := Lib.hid u3
        have Q4 := Lib.hid u4
        have Q5 := Lib.hid u5
        have Q6 := Lib.hid u6
        have HBR := Lib.hid hBR
        have hgU := setRow_grown (k := w.heap.size) [.int .i64 0, .int .i64 0, .int .i64 0, .int .i64 0, .slice none 0 0, .slice none 0 0, .bool false] w23 0
        have hTu := (hgU.block t (blk_lt hT23.1) (fun e => by injection e with e; omega)).trans hT23.1
        have t0d : (setRow w.heap.size w23 0 [.int .i64 0, .int .i64 0, .int .i64 0, .int .i64 0, .slice none 0 0, .slice none 0 0, .bool false]).drew.cell? ⟨t, 0, none⟩ = some (.pointer (some ⟨g, 0, none⟩)) := drew_cell (blk_cell hTu 0)
        have t1d : (setRow w.heap.size w23 0 [.int .i64 0, .int .i64 0, .int .i64 0, .int .i64 0, .slice none 0 0, .slice none 0 0, .bool false]).drew.cell? ⟨t, 1, none⟩ = some (.int .i64 e13) := drew_cell (blk_cell hTu 1)
        have q0d : w23.drew.cell? ⟨t, 0, none⟩ = some (.pointer (some ⟨g, 0, none⟩)) := drew_cell q0
        have q1d : w23.drew.cell? ⟨t, 1, none⟩ = some (.int .i64 e13) := drew_cell q1
        simp only [setRow, Nat.reduceAdd, Nat.zero_add] at t0d t1d
        have hBU := (hB23.grown hgU hB23.size (fun k e => by cases e; exact Nat.le_refl _)).drew
        simp only [setRow, Nat.reduceAdd, Nat.zero_add] at hBU
        have HBU := Lib.hid hBU
        clear hb hgR hBR u0 u1 u2 u3 u4 u5 u6 hgU hTu q0 q1 hBU
        go_region_held (fun w' => w'.cell? ⟨t, 0, none⟩ = some (.pointer (some ⟨g, 0, none⟩)) ∧ w'.cell? ⟨t, 1, none⟩ = some (.int .i64 e13)) (first | with_reducible exact ⟨q0d, q1d⟩ | with_reducible exact ⟨t0d, t1d⟩) (fail)
        go_wp2
        refine bodyPost_ret (v := .tuple #[.agg #[.int .i64 0, .int .i64 0, .int .i64 0, .int .i64 0, .slice none 0 0, .slice none 0 0, .bool false], .int .i64 e13]) (by simp [results, Try.f21, go_sem, Q0.out, Q1.out, Q2.out, Q3.out, Q4.out, Q5.out, Q6.out]) rfl ?_
        rw [HW1.out]
        exact ⟨none, 0, 0, none, 0, 0, e13, rfl, Own.nil_ _ _, Own.nil_ _ _, rfl, HBU.out⟩
  · have hx10 := H10.out
    rw [saltR, if_neg hv6] at hx10
    obtain ⟨rfl, rfl⟩ := Prod.mk.inj hx10
    have hd6 : (v == 6) = false := by rw [beq_eq_false_iff_ne]; exact hv6
    have hsnil := fun W => Own.nil_ W w.heap.size
    clear hx10 hv6
    have c0 : w14.cell? ⟨L, 0, none⟩ = some (.int .i64 v) := blk_cell hL14 0
    have c1 : w14.cell? ⟨L, 1, none⟩ = some (.int .i64 ty) := blk_cell hL14 1
    have c2 : w14.cell? ⟨L, 2, none⟩ = some (.int .i64 ha) := blk_cell hL14 2
    have c3 : w14.cell? ⟨L, 3, none⟩ = some (.int .i64 pu) := blk_cell hL14 3
    have c4 : w14.cell? ⟨L, 4, none⟩ = some (.slice none 0 0) := blk_cell hL14 4
    have c5 : w14.cell? ⟨L, 5, none⟩ = some (.slice none 0 0) := blk_cell hL14 5
    have c6 : w14.cell? ⟨L, 6, none⟩ = some (.bool false) := blk_cell hL14 6
    go_wp2_with fail
    clear c0 c1 c2 c3 c4 c5 c6
    refine (rdBytes_calls hT14 z2).mono ?_
    rw [H11.out]
    rintro e w15 ⟨Ai, mi, ci, rfl, hq15, hT15, hw15⟩
    have hi15 := hq15.lower (B' := L + 1) (blk_lt hL14)
    clear hq15
    have hLs := blk_lt hL14
    have hL15 := (hw15.block (k := L) hLs (by omega) (by omega)).trans hL14
    have hn15 := (hw15.block (k := w.heap.size) (blk_lt hn14) (by omega) (by omega)).trans hn14
    have hB15 := hB14.trans (hw15.below (B := w.heap.size) hB14.size (by omega) (by omega))
    clear hL14 hn14 hB14 hT14 hw15 
    have c0 : w15.cell? ⟨L, 0, none⟩ = some (.int .i64 v) := blk_cell hL15 0
    have c1 : w15.cell? ⟨L, 1, none⟩ = some (.int .i64 ty) := blk_cell hL15 1
    have c2 : w15.cell? ⟨L, 2, none⟩ = some (.int .i64 ha) := blk_cell hL15 2
    have c3 : w15.cell? ⟨L, 3, none⟩ = some (.int .i64 pu) := blk_cell hL15 3
    have c4 : w15.cell? ⟨L, 4, none⟩ = some (.slice none 0 0) := blk_cell hL15 4
    have c5 : w15.cell? ⟨L, 5, none⟩ = some (.slice none 0 0) := blk_cell hL15 5
    have c6 : w15.cell? ⟨L, 6, none⟩ = some (.bool false) := blk_cell hL15 6
    have f5 := blk_frozen hL15 5
    have hL16 : (w15.setCell ⟨L, 5, none⟩ (.slice Ai mi ci)).heap[L]? = some (.cells #[.int .i64 v, .int .i64 ty, .int .i64 ha, .int .i64 pu, .slice none 0 0, .slice Ai mi ci, .bool false] 42 (0, 0)) := blk_set hL15 5 _
    have hg16 := grown_setCell w15 L 5 (.slice Ai mi ci)
    go_wp2_with fail
    generalize w15.setCell ⟨L, 5, none⟩ (.slice Ai mi ci) = w16 at hL16 hg16 ⊢
    have hT16 := hT15.other hg16 hlt
    have hi16 := hi15.grown hg16 (fun ad e e2 => by have := (hi15.blk ad e).1; injection e2 with e2; omega)
    have hn16 := (hg16.block w.heap.size (blk_lt hn15) (fun e => hne4 (Option.some.inj e))).trans hn15
    have hB16 := hB15.grown hg16 hB15.size (fun k e => by cases e; omega)
    clear f5 hL15 hg16 hT15 hn15 hB15 hi15
    clear c0 c1 c2 c3 c4 c5 c6
    refine (rdNumber_calls hT16 1 (by omega)).mono ?_
    rw [H12.out]
    rintro e w17 ⟨rfl, hT17, hw17⟩
    have hLs := blk_lt hL16
    have hL17 := (hw17.block (k := L) hLs (by omega) (by omega)).trans hL16
    have hn17 := (hw17.block (k := w.heap.size) (blk_lt hn16) (by omega) (by omega)).trans hn16
    have hB17 := hB16.trans (hw17.below (B := w.heap.size) hB16.size (by omega) (by omega))
    have hi17 := hw17.own hi16 (by omega) (by omega)
    clear hL16 hn16 hB16 hT16 hw17 hi16
    by_cases hla : 1 < la
    · have hd1 : decide (1 < la) = true := decide_eq_true hla
      have H13' := Lib.hid (show failR ⟨a12, e12⟩ true 3 = ⟨a13, e13⟩ by have := H13.out; rwa [hd1, Bool.true_or] at this)
      have c0 : w17.cell? ⟨L, 0, none⟩ = some (.int .i64 v) := blk_cell hL17 0
      have c1 : w17.cell? ⟨L, 1, none⟩ = some (.int .i64 ty) := blk_cell hL17 1
      have c2 : w17.cell? ⟨L, 2, none⟩ = some (.int .i64 ha) := blk_cell hL17 2
      have c3 : w17.cell? ⟨L, 3, none⟩ = some (.int .i64 pu) := blk_cell hL17 3
      have c4 : w17.cell? ⟨L, 4, none⟩ = some (.slice none 0 0) := blk_cell hL17 4
      have c5 : w17.cell? ⟨L, 5, none⟩ = some (.slice Ai mi ci) := blk_cell hL17 5
      have c6 : w17.cell? ⟨L, 6, none⟩ = some (.bool false) := blk_cell hL17 6
      go_wp2_with fail
      clear c0 c1 c2 c3 c4 c5 c6
      refine (rdFail_calls hT17 (true) 3).mono ?_
      rw [H13'.out]
      rintro e w18 ⟨rfl, hT18, hw18⟩
      have hLs := blk_lt hL17
      have hL18 := (hw18.block (k := L) hLs (by omega) (by omega)).trans hL17
      have hn18 := (hw18.block (k := w.heap.size) (blk_lt hn17) (by omega) (by omega)).trans hn17
      have hB18 := hB17.trans (hw18.below (B := w.heap.size) hB17.size (by omega) (by omega))
      have hi18 := hw18.own hi17 (by omega) (by omega)
      clear hL17 hn17 hB17 hT17 hw18 hi17
      obtain ⟨q0, q1, _, _⟩ := hT18.open_
      have rf0 := blk_frozen hn18 0
      have rc0 : w18.cell? ⟨w.heap.size, 0, none⟩ = some (.int .i64 0) := blk_cell hn18 0
      have rf1 := blk_frozen hn18 1
      have rc1 : w18.cell? ⟨w.heap.size, 1, none⟩ = some (.int .i64 0) := blk_cell hn18 1
      have rf2 := blk_frozen hn18 2
      have rc2 : w18.cell? ⟨w.heap.size, 2, none⟩ = some (.int .i64 0) := blk_cell hn18 2
      have rf3 := blk_frozen hn18 3
      have rc3 : w18.cell? ⟨w.heap.size, 3, none⟩ = some (.int .i64 0) := blk_cell hn18 3
      have rf4 := blk_frozen hn18 4
      have rc4 : w18.cell? ⟨w.heap.size, 4, none⟩ = some (.slice none 0 0) := blk_cell hn18 4
      have rf5 := blk_frozen hn18 5
      have rc5 : w18.cell? ⟨w.heap.size, 5, none⟩ = some (.slice none 0 0) := blk_cell hn18 5
      have rf6 := blk_frozen hn18 6
      have rc6 : w18.cell? ⟨w.heap.size, 6, none⟩ = some (.bool false) := blk_cell hn18 6
      have he : ¬ e13 = 0 := by
        have hx := congrArg Rs.e H13'.out
        rw [failR] at hx
        split at hx
        · simp only at hx; omega
        · rename_i hh; simp only at hx hh; intro h0; rw [h0] at hx; exact hh ⟨trivial, hx⟩
      have hne : (e13 != 0) = true := by rw [bne_iff_ne]; exact he
      have HW1 := Lib.hid (show walkP l = ((0, 0, 0, 0, [], [], false), e13) by rw [HW.out, if_neg he])
      clear he
      go_wp2_with fail
      have hb := setRow_block (k := w.heap.size) [.int .i64 0, .int .i64 0, .int .i64 0, .int .i64 0, .slice none 0 0, .slice none 0 0, .bool false] 0 (w := w18.drew) hn18
      have hgR := setRow_grown (k := w.heap.size) [.int .i64 0, .int .i64 0, .int .i64 0, .int .i64 0, .slice none 0 0, .slice none 0 0, .bool false] w18.drew 0
      have hBR := hB18.drew.grown hgR hB18.size (fun k e => by cases e; exact Nat.le_refl _)
      have u0 := blk_cell (setRow_block (k := w.heap.size) [.int .i64 0] 0 hn18) 0
      have u1 := blk_cell (setRow_block (k := w.heap.size) [.int .i64 0, .int .i64 0] 0 hn18) 1
      have u2 := blk_cell (setRow_block (k := w.heap.size) [.int .i64 0, .int .i64 0, .int .i64 0] 0 hn18) 2
      have u3 := blk_cell (setRow_block (k := w.heap.size) [.int .i64 0, .int .i64 0, .int .i64 0, .int .i64 0] 0 hn18) 3
      have u4 := blk_cell (setRow_block (k := w.heap.size) [.int .i64 0, .int .i64 0, .int .i64 0, .int .i64 0, .slice none 0 0] 0 hn18) 4
      have u5 := blk_cell (setRow_block (k := w.heap.size) [.int .i64 0, .int .i64 0, .int .i64 0, .int .i64 0, .slice none 0 0, .slice none 0 0] 0 hn18) 5
      have u6 := blk_cell (setRow_block (k := w.heap.size) [.int .i64 0, .int .i64 0, .int .i64 0, .int .i64 0, .slice none 0 0, .slice none 0 0, .bool false] 0 hn18) 6
      simp only [setRow, setArr, Nat.reduceAdd, Nat.zero_add] at u0 u1 u2 u3 u4 u5 u6
      have Q0 := Lib.hid u0
      have Q1 := Lib.hid u1
      have Q2 := Lib.hid u2
      have Q3 := Lib.hid u3
      have Q4 := Lib.hid u4
      have Q5 := Lib.hid u5
      have Q6 := Lib.hid u6
      have HBR := Lib.hid hBR
      have hgU := setRow_grown (k := w.heap.size) [.int .i64 0, .int .i64 0, .int .i64 0, .int .i64 0, .slice none 0 0, .slice none 0 0, .bool false] w18 0
      have hTu := (hgU.block t (blk_lt hT18.1) (fun e => by injection e with e; omega)).trans hT18.1
      have t0d : (setRow w.heap.size w18 0 [.int .i64 0, .int .i64 0, .int .i64 0, .int .i64 0, .slice none 0 0, .slice none 0 0, .bool false]).drew.cell? ⟨t, 0, none⟩ = some (.pointer (some ⟨g, 0, none⟩)) := drew_cell (blk_cell hTu 0)
      have t1d : (setRow w.heap.size w18 0 [.int .i64 0, .int .i64 0, .int .i64 0, .int .i64 0, .slice none 0 0, .slice none 0 0, .bool false]).drew.cell? ⟨t, 1, none⟩ = some (.int .i64 e13) := drew_cell (blk_cell hTu 1)
      have q0d : w18.drew.cell? ⟨t, 0, none⟩ = some (.pointer (some ⟨g, 0, none⟩)) := drew_cell q0
      have q1d : w18.drew.cell? ⟨t, 1, none⟩ = some (.int .i64 e13) := drew_cell q1
      simp only [setRow, Nat.reduceAdd, Nat.zero_add] at t0d t1d
      have hBU := (hB18.grown hgU hB18.size (fun k e => by cases e; exact Nat.le_refl _)).drew
      simp only [setRow, Nat.reduceAdd, Nat.zero_add] at hBU
      have HBU := Lib.hid hBU
      clear hb hgR hBR u0 u1 u2 u3 u4 u5 u6 hgU hTu q0 q1 hBU
      go_region_held (fun w' => w'.cell? ⟨t, 0, none⟩ = some (.pointer (some ⟨g, 0, none⟩)) ∧ w'.cell? ⟨t, 1, none⟩ = some (.int .i64 e13)) (first | with_reducible exact ⟨q0d, q1d⟩ | with_reducible exact ⟨t0d, t1d⟩) (fail)
      go_wp2
      refine bodyPost_ret (v := .tuple #[.agg #[.int .i64 0, .int .i64 0, .int .i64 0, .int .i64 0, .slice none 0 0, .slice none 0 0, .bool false], .int .i64 e13]) (by simp [results, Try.f21, go_sem, Q0.out, Q1.out, Q2.out, Q3.out, Q4.out, Q5.out, Q6.out]) rfl ?_
      rw [HW1.out]
      exact ⟨none, 0, 0, none, 0, 0, e13, rfl, Own.nil_ _ _, Own.nil_ _ _, rfl, HBU.out⟩
    · have hd1 : decide (1 < la) = false := decide_eq_false hla
      have H13' := Lib.hid (show failR ⟨a12, e12⟩ (decide ((a12 : Int) < l.length)) 3 = ⟨a13, e13⟩ by have := H13.out; rwa [hd1, Bool.false_or] at this)
      obtain ⟨bb, hbb⟩ : ∃ bb, bb = decide (a12 < l.length) := ⟨_, rfl⟩
      have hd2 : decide ((0 : Int) < (l.length : Int) - (a12 : Int)) = bb := by rw [hbb]; exact decide_eq_decide.2 (by omega)
      have hd3 : decide ((a12 : Int) < (l.length : Int)) = bb := by rw [hbb]; exact decide_eq_decide.2 (by omega)
      have hd4 := hbb.symm
      rw [hd3] at H13'
      clear hbb
      obtain ⟨q0, q1, _, hcq⟩ := hT17.open_
      have c0 : w17.cell? ⟨L, 0, none⟩ = some (.int .i64 v) := blk_cell hL17 0
      have c1 : w17.cell? ⟨L, 1, none⟩ = some (.int .i64 ty) := blk_cell hL17 1
      have c2 : w17.cell? ⟨L, 2, none⟩ = some (.int .i64 ha) := blk_cell hL17 2
      have c3 : w17.cell? ⟨L, 3, none⟩ = some (.int .i64 pu) := blk_cell hL17 3
      have c4 : w17.cell? ⟨L, 4, none⟩ = some (.slice none 0 0) := blk_cell hL17 4
      have c5 : w17.cell? ⟨L, 5, none⟩ = some (.slice Ai mi ci) := blk_cell hL17 5
      have c6 : w17.cell? ⟨L, 6, none⟩ = some (.bool false) := blk_cell hL17 6
      go_wp2_with fail
      clear c0 c1 c2 c3 c4 c5 c6
      refine (Left_calls hcq).mono ?_
      rintro e wq ⟨rfl, nq, rfl⟩
      clear q0 q1 hcq
      have hT18 : Rdr (w17.drewN nq) (w.heap.size + 1) t g l ⟨a12, e12⟩ := hT17
      have hL18 : (w17.drewN nq).heap[L]? = _ := hL17
      have hn18 : (w17.drewN nq).heap[w.heap.size]? = _ := hn17
      have hB18 := below_drewN hB17 nq
      have hi18 := own_drewN hi17 nq
      clear hT17 hL17 hn17 hB17 hi17
      generalize w17.drewN nq = w18 at hT18 hL18 hn18 hB18 hi18 ⊢
      have c0 : w18.cell? ⟨L, 0, none⟩ = some (.int .i64 v) := blk_cell hL18 0
      have c1 : w18.cell? ⟨L, 1, none⟩ = some (.int .i64 ty) := blk_cell hL18 1
      have c2 : w18.cell? ⟨L, 2, none⟩ = some (.int .i64 ha) := blk_cell hL18 2
      have c3 : w18.cell? ⟨L, 3, none⟩ = some (.int .i64 pu) := blk_cell hL18 3
      have c4 : w18.cell? ⟨L, 4, none⟩ = some (.slice none 0 0) := blk_cell hL18 4
      have c5 : w18.cell? ⟨L, 5, none⟩ = some (.slice Ai mi ci) := blk_cell hL18 5
      have c6 : w18.cell? ⟨L, 6, none⟩ = some (.bool false) := blk_cell hL18 6
      go_wp2_with fail
      clear c0 c1 c2 c3 c4 c5 c6
      refine (rdFail_calls hT18 (bb) 3).mono ?_
      rw [H13'.out]
      rintro e w19 ⟨rfl, hT19, hw19⟩
      have hLs := blk_lt hL18
      have hL19 := (hw19.block (k := L) hLs (by omega) (by omega)).trans hL18
      have hn19 := (hw19.block (k := w.heap.size) (blk_lt hn18) (by omega) (by omega)).trans hn18
      have hB19 := hB18.trans (hw19.below (B := w.heap.size) hB18.size (by omega) (by omega))
      have hi19 := hw19.own hi18 (by omega) (by omega)
      clear hL18 hn18 hB18 hT18 hw19 hi18
      obtain ⟨q0, q1, _, _⟩ := hT19.open_
      have rf0 := blk_frozen hn19 0
      have rc0 : w19.cell? ⟨w.heap.size, 0, none⟩ = some (.int .i64 0) := blk_cell hn19 0
      have rf1 := blk_frozen hn19 1
      have rc1 : w19.cell? ⟨w.heap.size, 1, none⟩ = some (.int .i64 0) := blk_cell hn19 1
      have rf2 := blk_frozen hn19 2
      have rc2 : w19.cell? ⟨w.heap.size, 2, none⟩ = some (.int .i64 0) := blk_cell hn19 2
      have rf3 := blk_frozen hn19 3
      have rc3 : w19.cell? ⟨w.heap.size, 3, none⟩ = some (.int .i64 0) := blk_cell hn19 3
      have rf4 := blk_frozen hn19 4
      have rc4 : w19.cell? ⟨w.heap.size, 4, none⟩ = some (.slice none 0 0) := blk_cell hn19 4
      have rf5 := blk_frozen hn19 5
      have rc5 : w19.cell? ⟨w.heap.size, 5, none⟩ = some (.slice none 0 0) := blk_cell hn19 5
      have rf6 := blk_frozen hn19 6
      have rc6 : w19.cell? ⟨w.heap.size, 6, none⟩ = some (.bool false) := blk_cell hn19 6
      by_cases he : e13 = 0
      · subst he
        have c0 : w19.cell? ⟨L, 0, none⟩ = some (.int .i64 v) := blk_cell hL19 0
        have c1 : w19.cell? ⟨L, 1, none⟩ = some (.int .i64 ty) := blk_cell hL19 1
        have c2 : w19.cell? ⟨L, 2, none⟩ = some (.int .i64 ha) := blk_cell hL19 2
        have c3 : w19.cell? ⟨L, 3, none⟩ = some (.int .i64 pu) := blk_cell hL19 3
        have c4 : w19.cell? ⟨L, 4, none⟩ = some (.slice none 0 0) := blk_cell hL19 4
        have c5 : w19.cell? ⟨L, 5, none⟩ = some (.slice Ai mi ci) := blk_cell hL19 5
        have c6 : w19.cell? ⟨L, 6, none⟩ = some (.bool false) := blk_cell hL19 6
        have f6 := blk_frozen hL19 6
        have hgA := grown_setCell w19 L 6 (.bool (la == 1))
        have hnA := (hgA.block w.heap.size (blk_lt hn19) (fun e => hne4 (Option.some.inj e))).trans hn19
        have hb := setRow_block (k := w.heap.size) [.int .i64 v, .int .i64 ty, .int .i64 ha, .int .i64 pu, .slice none 0 0, .slice Ai mi ci, .bool (la == 1)] 0 hnA
        have hgR := setRow_grown (k := w.heap.size) [.int .i64 v, .int .i64 ty, .int .i64 ha, .int .i64 pu, .slice none 0 0, .slice Ai mi ci, .bool (la == 1)] (w19.setCell ⟨L, 6, none⟩ (.bool (la == 1))) 0
        have hBA := hB19.grown hgA hB19.size (fun k e => by cases e; omega)
        have hBR := hBA.grown hgR hBA.size (fun k e => by cases e; exact Nat.le_refl _)
        have hiR := (hi19.grown hgA (fun ad e e2 => by have := (hi19.blk ad e).1; injection e2 with e2; omega)).grown hgR (fun ad e e2 => by have := (hi19.blk ad e).1; injection e2 with e2; omega)
        have u0 := blk_cell hb 0
        have u1 := blk_cell hb 1
        have u2 := blk_cell hb 2
        have u3 := blk_cell hb 3
        have u4 := blk_cell hb 4
        have u5 := blk_cell hb 5
        have u6 := blk_cell hb 6
        simp only [setRow, setArr, Nat.reduceAdd, Nat.zero_add] at u0 u1 u2 u3 u4 u5 u6
        have Q0 := Lib.hid u0
        have Q1 := Lib.hid u1
        have Q2 := Lib.hid u2
        have Q3 := Lib.hid u3
        have Q4 := Lib.hid u4
        have Q5 := Lib.hid u5
        have Q6 := Lib.hid u6
        have HI := Lib.hid hiR
        have HBR := Lib.hid hBR
        have HW1 := Lib.hid (show walkP l = ((v, ty, ha, pu, [], iss, decide (la = 1)), 0) by rw [HW.out]; simp)
        clear hBR hBA hgR hgA hb hnA u0 u1 u2 u3 u4 u5 u6 hiR
        go_wp2
        refine bodyPost_ret (v := .tuple #[.agg #[.int .i64 v, .int .i64 ty, .int .i64 ha, .int .i64 pu, .slice none 0 0, .slice Ai mi ci, .bool (la == 1)], .int .i64 0]) (by simp [results, Try.f21, go_sem, Q0.out, Q1.out, Q2.out, Q3.out, Q4.out, Q5.out, Q6.out]) rfl ?_
        rw [HW1.out]
        have hbq : (la == 1) = decide (la = 1) := by by_cases h : la = 1 <;> simp [h]
        rw [hbq]
        exact ⟨_, _, _, _, _, _, 0, rfl, hsnil _, HI.out.lower (by omega), rfl, HBR.out⟩
      · have hne : (e13 != 0) = true := by rw [bne_iff_ne]; exact he
        have HW1 := Lib.hid (show walkP l = ((0, 0, 0, 0, [], [], false), e13) by rw [HW.out, if_neg he])
        clear he
        go_wp2_with fail
        have hb := setRow_block (k := w.heap.size) [.int .i64 0, .int .i64 0, .int .i64 0, .int .i64 0, .slice none 0 0, .slice none 0 0, .bool false] 0 (w := w19.drew) hn19
        have hgR := setRow_grown (k := w.heap.size) [.int .i64 0, .int .i64 0, .int .i64 0, .int .i64 0, .slice none 0 0, .slice none 0 0, .bool false] w19.drew 0
        have hBR := hB19.drew.grown hgR hB19.size (fun k e => by cases e; exact Nat.le_refl _)
        have u0 := blk_cell (setRow_block (k := w.heap.size) [.int .i64 0] 0 hn19) 0
        have u1 := blk_cell (setRow_block (k := w.heap.size) [.int .i64 0, .int .i64 0] 0 hn19) 1
        have u2 := blk_cell (setRow_block (k := w.heap.size) [.int .i64 0, .int .i64 0, .int .i64 0] 0 hn19) 2
        have u3 := blk_cell (setRow_block (k := w.heap.size) [.int .i64 0, .int .i64 0, .int .i64 0, .int .i64 0] 0 hn19) 3
        have u4 := blk_cell (setRow_block (k := w.heap.size) [.int .i64 0, .int .i64 0, .int .i64 0, .int .i64 0, .slice none 0 0] 0 hn19) 4
        have u5 := blk_cell (setRow_block (k := w.heap.size) [.int .i64 0, .int .i64 0, .int .i64 0, .int .i64 0, .slice none 0 0, .slice none 0 0] 0 hn19) 5
        have u6 := blk_cell (setRow_block (k := w.heap.size) [.int .i64 0, .int .i64 0, .int .i64 0, .int .i64 0, .slice none 0 0, .slice none 0 0, .bool false] 0 hn19) 6
        simp only [setRow, setArr, Nat.reduceAdd, Nat.zero_add] at u0 u1 u2 u3 u4 u5 u6
        have Q0 := Lib.hid u0
        have Q1 := Lib.hid u1
        have Q2 := Lib.hid u2
        have Q3 := Lib.hid u3
        have Q4 := Lib.hid u4
        have Q5 := Lib.hid u5
        have Q6 := Lib.hid u6
        have HBR := Lib.hid hBR
        have hgU := setRow_grown (k := w.heap.size) [.int .i64 0, .int .i64 0, .int .i64 0, .int .i64 0, .slice none 0 0, .slice none 0 0, .bool false] w19 0
        have hTu := (hgU.block t (blk_lt hT19.1) (fun e => by injection e with e; omega)).trans hT19.1
        have t0d : (setRow w.heap.size w19 0 [.int .i64 0, .int .i64 0, .int .i64 0, .int .i64 0, .slice none 0 0, .slice none 0 0, .bool false]).drew.cell? ⟨t, 0, none⟩ = some (.pointer (some ⟨g, 0, none⟩)) := drew_cell (blk_cell hTu 0)
        have t1d : (setRow w.heap.size w19 0 [.int .i64 0, .int .i64 0, .int .i64 0, .int .i64 0, .slice none 0 0, .slice none 0 0, .bool false]).drew.cell? ⟨t, 1, none⟩ = some (.int .i64 e13) := drew_cell (blk_cell hTu 1)
        have q0d : w19.drew.cell? ⟨t, 0, none⟩ = some (.pointer (some ⟨g, 0, none⟩)) := drew_cell q0
        have q1d : w19.drew.cell? ⟨t, 1, none⟩ = some (.int .i64 e13) := drew_cell q1
        simp only [setRow, Nat.reduceAdd, Nat.zero_add] at t0d t1d
        have hBU := (hB19.grown hgU hB19.size (fun k e => by cases e; exact Nat.le_refl _)).drew
        simp only [setRow, Nat.reduceAdd, Nat.zero_add] at hBU
        have HBU := Lib.hid hBU
        clear hb hgR hBR u0 u1 u2 u3 u4 u5 u6 hgU hTu q0 q1 hBU
        go_region_held (fun w' => w'.cell? ⟨t, 0, none⟩ = some (.pointer (some ⟨g, 0, none⟩)) ∧ w'.cell? ⟨t, 1, none⟩ = some (.int .i64 e13)) (first | with_reducible exact ⟨q0d, q1d⟩ | with_reducible exact ⟨t0d, t1d⟩) (fail)
        go_wp2
        refine bodyPost_ret (v := .tuple #[.agg #[.int .i64 0, .int .i64 0, .int .i64 0, .int .i64 0, .slice none 0 0, .slice none 0 0, .bool false], .int .i64 e13]) (by simp [results, Try.f21, go_sem, Q0.out, Q1.out, Q2.out, Q3.out, Q4.out, Q5.out, Q6.out]) rfl ?_
        rw [HW1.out]
        exact ⟨none, 0, 0, none, 0, 0, e13, rfl, Own.nil_ _ _, Own.nil_ _ _, rfl, HBU.out⟩
end Go.Proofs.Ytegbncngencfnaa
