/- A literal of bytes: literal.Parse. -/
import Derived.Test.YtegbncngencfnaaLa
import Derived.Test.YtegbncngencfnaaLc
import Derived.Test.YtegbncngencfnaaTa
import Derived.Deep.RegionHeld
namespace Go.Proofs.Ytegbncngencfnaa
open Go.RowKit

/-- What the reader makes of a literal's bytes: format, name, date, data, and the error. -/
def walkL (l : List UInt8) : (UInt8 × List UInt8 × Int × List UInt8) × Int :=
  let x1 := numR l ⟨0, 0⟩ 1
  let c := UInt8.ofNat x1.1.toNat
  let s2 := failR x1.2 (!fmtS c) 3
  let x3 := numR l s2 1
  let x4 := bytesR l x3.2 x3.1
  let x5 := numR l x4.2 4
  if x5.2.e = 0 then ((c, x4.1, x5.1, l.drop x5.2.at_), 0) else ((0, [], 0, []), x5.2.e)

theorem Rdr.new {w1 : World} {B g : Nat} {l : List UInt8} (hc : Cur w1 g 0 l) (hB : B ≤ g) : Rdr (w1.alloc (.cells #[.pointer (some ⟨g, 0, none⟩), .int .i64 0] 89)) B w1.heap.size g l ⟨0, 0⟩ :=
  ⟨heap_alloc_new w1 _, hc.below ((Below.refl w1.heap.size w1).alloc (Nat.le_refl _) _), hB, hc.lt⟩

set_option maxRecDepth 100000 in
set_option maxHeartbeats 3200000 in
theorem Parse24_calls {A : Option Addr} {n c : Nat} {l : List UInt8} {w : World} (h : Bs w A n c l) (hn : n ≤ 4294967296) :
    Calls Try.prog 19 #[.slice A n c] w fun e w' => ∃ A1 m1 c1 A2 m2 c2 r, e = .returned (.tuple #[.agg #[.int .u8 ((walkL l).1.1.toNat : Int), .slice A1 m1 c1, .int .u32 (walkL l).1.2.2.1, .slice A2 m2 c2], .int .i64 r]) ∧
      Own w' w.heap.size A1 m1 c1 (walkL l).1.2.1 ∧ Own w' w.heap.size A2 m2 c2 (walkL l).1.2.2.2 ∧ r = (walkL l).2 ∧ Below w.heap.size w w' := by
  have hW : walkL l = if (numR l (bytesR l (numR l (failR (numR l ⟨0, 0⟩ 1).2 (!fmtS (UInt8.ofNat (numR l ⟨0, 0⟩ 1).1.toNat)) 3) 1).2 (numR l (failR (numR l ⟨0, 0⟩ 1).2 (!fmtS (UInt8.ofNat (numR l ⟨0, 0⟩ 1).1.toNat)) 3) 1).1).2 4).2.e = 0 then ((UInt8.ofNat (numR l ⟨0, 0⟩ 1).1.toNat, (bytesR l (numR l (failR (numR l ⟨0, 0⟩ 1).2 (!fmtS (UInt8.ofNat (numR l ⟨0, 0⟩ 1).1.toNat)) 3) 1).2 (numR l (failR (numR l ⟨0, 0⟩ 1).2 (!fmtS (UInt8.ofNat (numR l ⟨0, 0⟩ 1).1.toNat)) 3) 1).1).1, (numR l (bytesR l (numR l (failR (numR l ⟨0, 0⟩ 1).2 (!fmtS (UInt8.ofNat (numR l ⟨0, 0⟩ 1).1.toNat)) 3) 1).2 (numR l (failR (numR l ⟨0, 0⟩ 1).2 (!fmtS (UInt8.ofNat (numR l ⟨0, 0⟩ 1).1.toNat)) 3) 1).1).2 4).1, l.drop (numR l (bytesR l (numR l (failR (numR l ⟨0, 0⟩ 1).2 (!fmtS (UInt8.ofNat (numR l ⟨0, 0⟩ 1).1.toNat)) 3) 1).2 (numR l (failR (numR l ⟨0, 0⟩ 1).2 (!fmtS (UInt8.ofNat (numR l ⟨0, 0⟩ 1).1.toNat)) 3) 1).1).2 4).2.at_), 0) else ((0, [], 0, []), (numR l (bytesR l (numR l (failR (numR l ⟨0, 0⟩ 1).2 (!fmtS (UInt8.ofNat (numR l ⟨0, 0⟩ 1).1.toNat)) 3) 1).2 (numR l (failR (numR l ⟨0, 0⟩ 1).2 (!fmtS (UInt8.ofNat (numR l ⟨0, 0⟩ 1).1.toNat)) 3) 1).1).2 4).2.e) := rfl
  have hr1 := numR_lt l ⟨0, 0⟩ 1 (by omega)
  generalize hx1 : numR l ⟨0, 0⟩ 1 = x1 at hW hr1
  obtain ⟨y1, s1⟩ := x1
  obtain ⟨k1, rfl⟩ := Int.eq_ofNat_of_zero_le hr1.1
  simp only [Int.toNat_natCast] at hW
  have hcv : (k1 : Int) % 256 = ((UInt8.ofNat k1).toNat : Int) := by rw [UInt8.toNat_ofNat']; omega
  generalize UInt8.ofNat k1 = f at hW hcv
  generalize hx2 : failR s1 (!fmtS f) 3 = s2 at hW
  generalize hx3 : numR l s2 1 = x3 at hW
  obtain ⟨y3, s3⟩ := x3
  simp only at hW
  generalize hx4 : bytesR l s3 y3 = x4 at hW
  obtain ⟨name, s4⟩ := x4
  simp only at hW
  have hr5 := numR_lt l s4 4 (by omega)
  generalize hx5 : numR l s4 4 = x5 at hW hr5
  obtain ⟨y5, s5⟩ := x5
  obtain ⟨a5, e5⟩ := s5
  simp only at hW hr5
  have H1 := Lib.hid hx1
  have H2 := Lib.hid hx2
  have H3 := Lib.hid hx3
  have H4 := Lib.hid hx4
  have H5 := Lib.hid hx5
  have HW := Lib.hid hW
  have HR := Lib.hid hr1
  have HR5 := Lib.hid hr5
  clear hx1 hx2 hx3 hx4 hx5 hW hr1 hr5
  have hnew0 := heap_alloc_new w (.cells #[.int .u8 0, .slice none 0 0, .int .u32 0, .slice none 0 0] 35)
  have hba0 := (Below.refl w.heap.size w).alloc (Nat.le_refl _) (.cells #[.int .u8 0, .slice none 0 0, .int .u32 0, .slice none 0 0] 35)
  go_enter Try.func19, Try.ntmps19
  go_wp2_with fail
  generalize hw0 : w.alloc (.cells #[.int .u8 0, .slice none 0 0, .int .u32 0, .slice none 0 0] 35) = w0 at hnew0 hba0 ⊢
  clear hw0
  have hB0 := blk_lt hnew0
  refine (Over_calls (h.below hba0) hn).mono ?_
  rintro e w1 ⟨g, rfl, hg, hcur, hb1⟩
  have hT0 := Rdr.new (B := w.heap.size + 1) hcur (by omega)
  have hb2 := hb1.alloc hb1.size (.cells #[.pointer (some ⟨g, 0, none⟩), .int .i64 0] 89)
  have hnew2 := (hb2.block w.heap.size hB0).trans hnew0
  have hB2 := below_then hba0 hba0.size hb2
  go_wp2_with fail
  generalize hw2 : w1.alloc (.cells #[.pointer (some ⟨g, 0, none⟩), .int .i64 0] 89) = w2 at hT0 hb2 hnew2 hB2 ⊢
  generalize ht : w1.heap.size = t at hT0 ⊢
  clear hw2 ht hb2 hcur hb1 hnew0 hba0
  refine (rdNumber_calls hT0 1 (by omega)).mono ?_
  rw [H1.out]
  rintro e w3 ⟨rfl, hT3, hw3⟩
  obtain ⟨ho1, ho2, ho3⟩ := hT0.ord
  have hB3 := hB2.trans (hw3.below (B := w.heap.size) hB2.size (by omega) (by omega))
  have hnew3 := (hw3.block (k := w.heap.size) (blk_lt hnew2) (by omega) (by omega)).trans hnew2
  clear hw3 hT0 hnew2 hB2
  have hv : w3.heap.size = w3.heap.size := rfl
  have hnl := heap_alloc_new w3 (.cells #[.int .u8 0, .slice none 0 0, .int .u32 0, .slice none 0 0] 35)
  have hbl := (Below.refl w3.heap.size w3).alloc (Nat.le_refl _) (.cells #[.int .u8 0, .slice none 0 0, .int .u32 0, .slice none 0 0] 35)
  generalize hv4 : w3.alloc (.cells #[.int .u8 0, .slice none 0 0, .int .u32 0, .slice none 0 0] 35) = v4 at hnl hbl
  generalize hL : w3.heap.size = L at hnl hv4
  have af0 := blk_frozen hnl 0
  have ac0 : v4.cell? ⟨L, 0, none⟩ = some (.int .u8 0) := blk_cell hnl 0
  have af1 := blk_frozen hnl 1
  have ac1 : v4.cell? ⟨L, 1, none⟩ = some (.slice none 0 0) := blk_cell hnl 1
  have af2 := blk_frozen hnl 2
  have ac2 : v4.cell? ⟨L, 2, none⟩ = some (.int .u32 0) := blk_cell hnl 2
  have af3 := blk_frozen hnl 3
  have ac3 : v4.cell? ⟨L, 3, none⟩ = some (.slice none 0 0) := blk_cell hnl 3
  have hS0 := setRow_block (k := L) [.int .u8 (f.toNat : Int), .slice none 0 0, .int .u32 0, .slice none 0 0] 0 hnl
  have hG0 := hbl.grown (setRow_grown (k := L) [.int .u8 (f.toNat : Int), .slice none 0 0, .int .u32 0, .slice none 0 0] v4 0) hbl.size (fun k e => by cases e; omega)
  generalize hw5 : setRow L v4 0 [.int .u8 (f.toNat : Int), .slice none 0 0, .int .u32 0, .slice none 0 0] = w5 at hS0 hG0
  simp only [setRow, Nat.reduceAdd, Nat.zero_add] at hw5
  have hS5 : w5.heap[L]? = some (.cells #[.int .u8 (f.toNat : Int), .slice none 0 0, .int .u32 0, .slice none 0 0] 35 (0, 0)) := hS0
  have HW5 := Lib.hid hw5
  clear hS0 hw5 hbl hnl hv
  go_wp2_with fail
  rw [HW5.out]
  clear HW5 hv4
  clear af0 ac0 af1 ac1 af2 ac2 af3 ac3
  have ho4 := hT3.ord
  have hlt : t < L := by omega
  have hRL : w.heap.size < L := by have := blk_lt hnew3; omega
  have hne1 : ¬ L = t := by omega
  have hne2 : ¬ t = L := by omega
  have hne3 : ¬ L = w.heap.size := by omega
  have hne4 : ¬ w.heap.size = L := by omega
  have hgL : ¬ L = g := by omega
  have hT5 := hT3.below hG0
  have hB5 := below_then hB3 hB3.size hG0
  have hn5 := (hG0.block w.heap.size (blk_lt hnew3)).trans hnew3
  clear hT3 hB3 hnew3 hG0 ho4
  refine (isFormat_calls f w5).mono ?_
  rintro e w5' ⟨rfl, rfl⟩
  go_wp2_with fail
  refine (rdFail_calls hT5 (!fmtS f) 3).mono ?_
  rw [H2.out]
  rintro e w6 ⟨rfl, hT6, hw6⟩
  have hL5 := hS5
  clear hS5
  have hL6 := (hw6.block (k := L) (blk_lt hL5) (by omega) (by omega)).trans hL5
  have hn6 := (hw6.block (k := w.heap.size) (blk_lt hn5) (by omega) (by omega)).trans hn5
  have hB6 := hB5.trans (hw6.below (B := w.heap.size) hB5.size (by omega) (by omega))
  clear hL5 hn5 hB5 hT5
  go_wp2_with fail
  refine (rdNumber_calls hT6 1 (by omega)).mono ?_
  rw [H3.out]
  rintro e w7 ⟨rfl, hT7, hw7⟩
  have hL7 := (hw7.block (k := L) (blk_lt hL6) (by omega) (by omega)).trans hL6
  have hn7 := (hw7.block (k := w.heap.size) (blk_lt hn6) (by omega) (by omega)).trans hn6
  have hB7 := hB6.trans (hw7.below (B := w.heap.size) hB6.size (by omega) (by omega))
  clear hL6 hn6 hB6 hT6
  go_wp2_with fail
  refine (rdBytes_calls hT7 y3).mono ?_
  rw [H4.out]
  rintro e w8 ⟨A8, m8, c8, rfl, ho8, hT8, hw8⟩
  have hL7s : L < w7.heap.size := blk_lt hL7
  have hL8 := (hw8.block (k := L) (blk_lt hL7) (by omega) (by omega)).trans hL7
  have hn8 := (hw8.block (k := w.heap.size) (blk_lt hn7) (by omega) (by omega)).trans hn7
  have hB8 := hB7.trans (hw8.below (B := w.heap.size) hB7.size (by omega) (by omega))
  clear hL7 hn7 hB7 hT7
  have bf1 := blk_frozen hL8 1
  have bc1 : w8.cell? ⟨L, 1, none⟩ = some (.slice none 0 0) := blk_cell hL8 1
  have hL9 : (w8.setCell ⟨L, 1, none⟩ (.slice A8 m8 c8)).heap[L]? = some (.cells #[.int .u8 (f.toNat : Int), .slice A8 m8 c8, .int .u32 0, .slice none 0 0] 35 (0, 0)) := blk_set hL8 1 _
  have hg9 := grown_setCell w8 L 1 (.slice A8 m8 c8)
  go_wp2_with fail
  generalize w8.setCell ⟨L, 1, none⟩ (.slice A8 m8 c8) = w9 at hL9 hg9 ⊢
  have hT9 := hT8.other hg9 hlt
  have ho9 := ho8.grown hg9 (fun ad e e2 => by have := (ho8.blk ad e).1; injection e2 with e2; omega)
  have hn9 := (hg9.block w.heap.size (blk_lt hn8) (fun e => hne4 (Option.some.inj e))).trans hn8
  have hB9 := hB8.grown hg9 hB8.size (fun k e => by cases e; omega)
  clear bf1 bc1 hL8 hg9 hT8 ho8 hn8 hB8
  refine (rdNumber_calls hT9 4 (by omega)).mono ?_
  rw [H5.out]
  rintro e w10 ⟨rfl, hT10, hw10⟩
  have hL10 := (hw10.block (k := L) (blk_lt hL9) (by omega) (by omega)).trans hL9
  have hn10 := (hw10.block (k := w.heap.size) (blk_lt hn9) (by omega) (by omega)).trans hn9
  have hB10 := hB9.trans (hw10.below (B := w.heap.size) hB9.size (by omega) (by omega))
  have ho10 := hw10.own ho9 (by omega) (by omega)
  clear hL9 hn9 hB9 hT9 ho9
  obtain ⟨q0, q1, _, _⟩ := hT10.open_
  have hmod : y5 % 4294967296 = y5 := by have := HR5.out; omega
  have bf2 := blk_frozen hL10 2
  have bc2 : w10.cell? ⟨L, 2, none⟩ = some (.int .u32 0) := blk_cell hL10 2
  have hL11 : (w10.setCell ⟨L, 2, none⟩ (.int .u32 y5)).heap[L]? = some (.cells #[.int .u8 (f.toNat : Int), .slice A8 m8 c8, .int .u32 y5, .slice none 0 0] 35 (0, 0)) := blk_set hL10 2 _
  have hg11 := grown_setCell w10 L 2 (.int .u32 y5)
  by_cases he5 : e5 = 0
  · subst he5
    go_wp2_with fail
    generalize w10.setCell ⟨L, 2, none⟩ (.int .u32 y5) = w11 at hL11 hg11 ⊢
    have hT11 := hT10.other hg11 hlt
    have ho11 := ho10.grown hg11 (fun ad e e2 => by have := (ho10.blk ad e).1; injection e2 with e2; omega)
    have hn11 := (hg11.block w.heap.size (blk_lt hn10) (fun e => hne4 (Option.some.inj e))).trans hn10
    have hB11 := hB10.grown hg11 hB10.size (fun k e => by cases e; omega)
    clear bf2 bc2 hL10 hg11 hT10 ho10 hn10 hB10 q0 q1
    refine (Rest_calls hT11.open_.2.2.2).mono ?_
    rintro e w12 ⟨A12, m12, c12, rfl, ho12, hc12, hg12⟩
    have hL12 := (hg12.block L (blk_lt hL11) (fun e => hgL (Option.some.inj e))).trans hL11
    have hn12 := (hg12.block w.heap.size (blk_lt hn11) (fun e => by injection e with e; omega)).trans hn11
    have hB12 := hB11.grown hg12 hB11.size (fun k e => by cases e; omega)
    have hob12 := ho11.grown hg12 (fun ad e e2 => by have := (ho11.blk ad e).1; injection e2 with e2; omega)
    have hLw : L < w11.heap.size := blk_lt hL11
    have hRw : w.heap.size < w11.heap.size := by omega
    have hlf := blk_frozen hL12 3
    have rf0 := blk_frozen hn12 0
    have rc0 : w12.cell? ⟨w.heap.size, 0, none⟩ = some (.int .u8 0) := blk_cell hn12 0
    have rf1 := blk_frozen hn12 1
    have rc1 : w12.cell? ⟨w.heap.size, 1, none⟩ = some (.slice none 0 0) := blk_cell hn12 1
    have rf2 := blk_frozen hn12 2
    have rc2 : w12.cell? ⟨w.heap.size, 2, none⟩ = some (.int .u32 0) := blk_cell hn12 2
    have rf3 := blk_frozen hn12 3
    have rc3 : w12.cell? ⟨w.heap.size, 3, none⟩ = some (.slice none 0 0) := blk_cell hn12 3
    have lc0 : w12.cell? ⟨L, 0, none⟩ = some (.int .u8 (f.toNat : Int)) := blk_cell hL12 0
    have lc1 : w12.cell? ⟨L, 1, none⟩ = some (.slice A8 m8 c8) := blk_cell hL12 1
    have lc2 : w12.cell? ⟨L, 2, none⟩ = some (.int .u32 y5) := blk_cell hL12 2
    have lc3 : w12.cell? ⟨L, 3, none⟩ = some (.slice none 0 0) := blk_cell hL12 3
    have hgA := grown_setCell w12 L 3 (.slice A12 m12 c12)
    have hnA := (hgA.block w.heap.size (blk_lt hn12) (fun e => hne4 (Option.some.inj e))).trans hn12
    have hb := setRow_block (k := w.heap.size) [.int .u8 (f.toNat : Int), .slice A8 m8 c8, .int .u32 y5, .slice A12 m12 c12] 0 hnA
    have hgR := setRow_grown (k := w.heap.size) [.int .u8 (f.toNat : Int), .slice A8 m8 c8, .int .u32 y5, .slice A12 m12 c12] (w12.setCell ⟨L, 3, none⟩ (.slice A12 m12 c12)) 0
    have hBA := hB12.grown hgA hB12.size (fun k e => by cases e; omega)
    have hBR := hBA.grown hgR hBA.size (fun k e => by cases e; exact Nat.le_refl _)
    have hoA := (hob12.grown hgA (fun ad e e2 => by have := (hob12.blk ad e).1; injection e2 with e2; omega)).grown hgR (fun ad e e2 => by have := (hob12.blk ad e).1; injection e2 with e2; omega)
    have hoX := (ho12.grown hgA (fun ad e e2 => by have := (ho12.blk ad e).1; injection e2 with e2; omega)).grown hgR (fun ad e e2 => by have := (ho12.blk ad e).1; injection e2 with e2; omega)
    have q0 := blk_cell hb 0
    have q1 := blk_cell hb 1
    have q2 := blk_cell hb 2
    have q3 := blk_cell hb 3
    simp only [setRow, setArr, Nat.reduceAdd, Nat.zero_add] at q0 q1 q2 q3
    have HoA := Lib.hid hoA
    have HoX := Lib.hid hoX
    have HBR := Lib.hid hBR
    have HW1 := Lib.hid (show walkL l = ((f, name, y5, l.drop a5), 0) by rw [HW.out]; simp)
    have Q0 := Lib.hid q0
    have Q1 := Lib.hid q1
    have Q2 := Lib.hid q2
    have Q3 := Lib.hid q3
    clear hoA hoX hBR hBA hgR hgA hb hnA q0 q1 q2 q3 hT11
    go_wp2
    refine bodyPost_ret (v := .tuple #[.agg #[.int .u8 (f.toNat : Int), .slice A8 m8 c8, .int .u32 y5, .slice A12 m12 c12], .int .i64 0]) (by simp [results, Try.f19, go_sem, Q0.out, Q1.out, Q2.out, Q3.out]) rfl ?_
    rw [HW1.out]
    exact ⟨A8, m8, c8, A12, m12, c12, 0, rfl, HoA.out.lower (by omega), HoX.out.lower (by omega), rfl, HBR.out⟩
  · have hne : (e5 != 0) = true := by rw [bne_iff_ne]; exact he5
    have HW1 := Lib.hid (show walkL l = ((0, [], 0, []), e5) by rw [HW.out, if_neg he5])
    clear he5
    have hT11 := hT10.other hg11 hlt
    have hn11 := (hg11.block w.heap.size (blk_lt hn10) (fun e => hne4 (Option.some.inj e))).trans hn10
    have hB11 := hB10.grown hg11 hB10.size (fun k e => by cases e; omega)
    go_wp2_with fail
    generalize w10.setCell ⟨L, 2, none⟩ (.int .u32 y5) = w11 at hL11 hg11 hT11 hn11 hB11 ⊢
    obtain ⟨t0, t1, _, _⟩ := hT11.open_
    clear bf2 bc2 hL10 hg11 hT10 ho10 hn10 hB10 q0 q1
    have rf0 := blk_frozen hn11 0
    have rc0 : w11.cell? ⟨w.heap.size, 0, none⟩ = some (.int .u8 0) := blk_cell hn11 0
    have rf1 := blk_frozen hn11 1
    have rc1 : w11.cell? ⟨w.heap.size, 1, none⟩ = some (.slice none 0 0) := blk_cell hn11 1
    have rf2 := blk_frozen hn11 2
    have rc2 : w11.cell? ⟨w.heap.size, 2, none⟩ = some (.int .u32 0) := blk_cell hn11 2
    have rf3 := blk_frozen hn11 3
    have rc3 : w11.cell? ⟨w.heap.size, 3, none⟩ = some (.slice none 0 0) := blk_cell hn11 3
    have hb := setRow_block (k := w.heap.size) [.int .u8 0, .slice none 0 0, .int .u32 0, .slice none 0 0] 0 (w := w11.drew) hn11
    have hgR := setRow_grown (k := w.heap.size) [.int .u8 0, .slice none 0 0, .int .u32 0, .slice none 0 0] w11.drew 0
    have hBR := hB11.drew.grown hgR hB11.size (fun k e => by cases e; exact Nat.le_refl _)
    have u0 := blk_cell (setRow_block (k := w.heap.size) [.int .u8 0] 0 hn11) 0
    have u1 := blk_cell (setRow_block (k := w.heap.size) [.int .u8 0, .slice none 0 0] 0 hn11) 1
    have u2 := blk_cell (setRow_block (k := w.heap.size) [.int .u8 0, .slice none 0 0, .int .u32 0] 0 hn11) 2
    have u3 := blk_cell (setRow_block (k := w.heap.size) [.int .u8 0, .slice none 0 0, .int .u32 0, .slice none 0 0] 0 hn11) 3
    simp only [setRow, setArr, Nat.reduceAdd, Nat.zero_add] at u0 u1 u2 u3
    have Q0 := Lib.hid u0
    have Q1 := Lib.hid u1
    have Q2 := Lib.hid u2
    have Q3 := Lib.hid u3
    have HBR := Lib.hid hBR
    have hTb := (hgR.block t (by have := blk_lt hT11.1; exact this) (fun e => by injection e with e; omega)).trans hT11.1
    have t0s := blk_cell hTb 0
    have t1s := blk_cell hTb 1
    simp only [setRow, Nat.reduceAdd, Nat.zero_add] at t0s t1s
    clear hb hgR hBR u0 u1 u2 u3 hTb
    go_region_held (fun w' => w'.cell? ⟨t, 0, none⟩ = some (.pointer (some ⟨g, 0, none⟩)) ∧ w'.cell? ⟨t, 1, none⟩ = some (.int .i64 e5)) (first | exact ⟨t0, t1⟩ | exact ⟨t0s, t1s⟩) (fail)
    go_wp2
    refine bodyPost_ret (v := .tuple #[.agg #[.int .u8 0, .slice none 0 0, .int .u32 0, .slice none 0 0], .int .i64 e5]) (by simp [results, Try.f19, go_sem, Q0.out, Q1.out, Q2.out, Q3.out]) rfl ?_
    rw [HW1.out]
    exact ⟨none, 0, 0, none, 0, 0, e5, rfl, Own.nil_ _ _, Own.nil_ _ _, rfl, HBR.out⟩
end Go.Proofs.Ytegbncngencfnaa
