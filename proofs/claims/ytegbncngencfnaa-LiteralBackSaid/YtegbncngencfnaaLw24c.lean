/- The statements of layer 24: LiteralBack. -/
import Derived.Test.YtegbncngencfnaaLw24
import Derived.Test.YtegbncngencfnaaLh
import Derived.Test.YtegbncngencfnaaLl
import Derived.Deep.RegionHeld
namespace Go.Proofs.Ytegbncngencfnaa
open Go.RowKit

theorem emitL_len (x : UInt8) (name : List UInt8) (d : Nat) (data : List UInt8) : (emitL x name d data).1.length ≤ name.length + data.length + 6 := by
  rw [emitL]
  split
  · simp only [List.length_append, be_length, List.length_cons, List.length_nil]; omega
  · simp
theorem emitL_no {x : UInt8} {name data : List UInt8} {d : Nat} (h : (emitL x name d data).2 ≠ 0) : emitL x name d data = ([], 1) := by
  rw [emitL] at h ⊢
  by_cases hk : fmtS x = true ∧ name.length ≤ 255
  · rw [if_pos hk] at h; simp at h
  · rw [if_neg hk]
theorem parse_none : walkL [] = ((0, [], 0, []), 2) := by decide
theorem emitP_len (v ty ha pu : Int) (salt iss : List UInt8) (la : Bool) : (emitP v ty ha pu salt iss la).1.length ≤ salt.length + iss.length + 6 := by
  rw [emitP]
  split
  · rw [saltB]
    split <;> (simp only [List.length_append, List.length_cons, List.length_nil]; omega)
  · simp

set_option maxRecDepth 100000 in
set_option maxHeartbeats 2400000 in
theorem LiteralBack_walk (x : UInt8) {An Ad As Ai : Option Addr} {nn cn nd cd d ns cs ni ci : Nat} {name data salt iss : List UInt8} (v ty ha pu : Int) (la : Bool) {w : World} (hn : Bs w An nn cn name) (hd : d < 4294967296) (hx : Bs w Ad nd cd data) (hs : Bs w As ns cs salt) (hi : Bs w Ai ni ci iss) :
    Calls Try.prog 8 #[.agg #[.int .u8 (x.toNat : Int), .slice An nn cn, .int .u32 (d : Int), .slice Ad nd cd], .agg #[.int .i64 v, .int .i64 ty, .int .i64 ha, .int .i64 pu, .slice As ns cs, .slice Ai ni ci, .bool la]] w fun e w' => e = .returned (.bool true) ∧ Below w.heap.size w w' := by
  have hnew := heap_alloc_new w (.cells #[.int .u8 (x.toNat : Int), .slice An nn cn, .int .u32 (d : Int), .slice Ad nd cd] 35)
  have hba := (Below.refl w.heap.size w).alloc (Nat.le_refl _) (.cells #[.int .u8 (x.toNat : Int), .slice An nn cn, .int .u32 (d : Int), .slice Ad nd cd] 35)
  generalize hw1 : w.alloc (.cells #[.int .u8 (x.toNat : Int), .slice An nn cn, .int .u32 (d : Int), .slice Ad nd cd] 35) = w1 at hnew hba
  have hlt := blk_lt hnew
  have hba2 := (Below.refl w1.heap.size w1).alloc (Nat.le_refl _) (.cells #[.int .i64 v, .int .i64 ty, .int .i64 ha, .int .i64 pu, .slice As ns cs, .slice Ai ni ci, .bool la] 42)
  have hP2 := heap_alloc_new w1 (.cells #[.int .i64 v, .int .i64 ty, .int .i64 ha, .int .i64 pu, .slice As ns cs, .slice Ai ni ci, .bool la] 42)
  have hL2 := (hba2.block w.heap.size hlt).trans hnew
  generalize hw2 : w1.alloc (.cells #[.int .i64 v, .int .i64 ty, .int .i64 ha, .int .i64 pu, .slice As ns cs, .slice Ai ni ci, .bool la] 42) = w2 at hba2 hP2 hL2
  have hB2 := below_then hba hba.size hba2
  clear hnew hba hba2
  have k0 : w2.cell? ⟨w.heap.size, 0, none⟩ = some (.int .u8 (x.toNat : Int)) := blk_cell hL2 0
  have k1 : w2.cell? ⟨w.heap.size, 1, none⟩ = some (.slice An nn cn) := blk_cell hL2 1
  have k2 : w2.cell? ⟨w.heap.size, 2, none⟩ = some (.int .u32 (d : Int)) := blk_cell hL2 2
  have k3 : w2.cell? ⟨w.heap.size, 3, none⟩ = some (.slice Ad nd cd) := blk_cell hL2 3
  have j0 : w2.cell? ⟨w1.heap.size, 0, none⟩ = some (.int .i64 v) := blk_cell hP2 0
  have j1 : w2.cell? ⟨w1.heap.size, 1, none⟩ = some (.int .i64 ty) := blk_cell hP2 1
  have j2 : w2.cell? ⟨w1.heap.size, 2, none⟩ = some (.int .i64 ha) := blk_cell hP2 2
  have j3 : w2.cell? ⟨w1.heap.size, 3, none⟩ = some (.int .i64 pu) := blk_cell hP2 3
  have j4 : w2.cell? ⟨w1.heap.size, 4, none⟩ = some (.slice As ns cs) := blk_cell hP2 4
  have j5 : w2.cell? ⟨w1.heap.size, 5, none⟩ = some (.slice Ai ni ci) := blk_cell hP2 5
  have j6 : w2.cell? ⟨w1.heap.size, 6, none⟩ = some (.bool la) := blk_cell hP2 6
  have HD := Lib.hid hd
  have HAl := Lib.hid (fun W => alive24_calls W)
  have HE := Lib.hid (fun W (hW : Below w.heap.size w W) (h : nd ≤ 100000) => Emit24_calls x (hn.below hW) d HD.out (hx.below hW) h)
  have HEP := Lib.hid (fun W (hW : Below w.heap.size w W) => EmitPass_calls v ty ha pu la (hs.below hW) (hi.below hW))
  have hlb := fun h => litBack (c := x) (name := name) (data := data) hd h
  have hln := fun h => emitL_no (x := x) (name := name) (data := data) (d := d) h
  have hpb := fun h => passBack (v := v) (ty := ty) (ha := ha) (pu := pu) (salt := salt) (iss := iss) (la := la) h
  have hpn := fun h => emitP_no (v := v) (ty := ty) (ha := ha) (pu := pu) (salt := salt) (iss := iss) (la := la) h
  have hl1 := emitL_len x name d data
  have hl2 := emitP_len v ty ha pu salt iss la
  rw [hn.2, hx.2] at hl1
  rw [hs.2, hi.2] at hl2
  generalize emitL x name d data = X at HE hlb hln hl1
  generalize emitP v ty ha pu salt iss la = Y at HEP hpb hpn hl2
  obtain ⟨b1, rl⟩ := X
  obtain ⟨b2, rp⟩ := Y
  simp only at HE HEP hlb hln hl1 hpb hpn hl2
  have HLB := Lib.hid hlb
  have HLN := Lib.hid hln
  have HPB := Lib.hid hpb
  have HPN := Lib.hid hpn
  have HL1 := Lib.hid hl1
  have HL2 := Lib.hid hl2
  clear hlb hln hpb hpn hl1 hl2 hd
  go_enter Try.func8, Try.ntmps8
  by_cases h0 : 600 < nn
  · have hd0 : decide ((600 : Int) < (nn : Int)) = true := decide_eq_true (by omega)
    go_wp2_with (go_at_call 18; refine (HAl.out _).mono ?_; rintro e w3 ⟨rfl, hb3⟩)
    go_ret
    exact ⟨rfl, below_then hB2 hB2.size hb3⟩
  have hd0 : decide ((600 : Int) < (nn : Int)) = false := decide_eq_false (by omega)
  by_cases h1 : 600 < nd
  · have hd1 : decide ((600 : Int) < (nd : Int)) = true := decide_eq_true (by omega)
    go_wp2_with (go_at_call 18; refine (HAl.out _).mono ?_; rintro e w3 ⟨rfl, hb3⟩)
    go_ret
    exact ⟨rfl, below_then hB2 hB2.size hb3⟩
  have hd1 : decide ((600 : Int) < (nd : Int)) = false := decide_eq_false (by omega)
  by_cases h2 : 600 < ns
  · have hd2 : decide ((600 : Int) < (ns : Int)) = true := decide_eq_true (by omega)
    go_wp2_with (go_at_call 18; refine (HAl.out _).mono ?_; rintro e w3 ⟨rfl, hb3⟩)
    go_ret
    exact ⟨rfl, below_then hB2 hB2.size hb3⟩
  have hd2 : decide ((600 : Int) < (ns : Int)) = false := decide_eq_false (by omega)
  by_cases h3 : 600 < ni
  · have hd3 : decide ((600 : Int) < (ni : Int)) = true := decide_eq_true (by omega)
    go_wp2_with (go_at_call 18; refine (HAl.out _).mono ?_; rintro e w3 ⟨rfl, hb3⟩)
    go_ret
    exact ⟨rfl, below_then hB2 hB2.size hb3⟩
  have hd3 : decide ((600 : Int) < (ni : Int)) = false := decide_eq_false (by omega)
  have H6 := Lib.hid (show nn ≤ 600 ∧ nd ≤ 600 ∧ ns ≤ 600 ∧ ni ≤ 600 by omega)
  go_wp2_with fail
  clear h0 h1 h2 h3 hd0 hd1 hd2 hd3 hw1 hw2 k0 k1 k2 k3 j0 j1 j2 j3 j4 j5 j6
  refine (HE.out w2 hB2 (by have := H6.out; omega)).mono ?_
  rintro e w3 ⟨A3, m3, c3, r3, rfl, ho3, hr3, hb3⟩
  obtain rfl : rl = r3 := hr3.symm
  have hB3 := below_then hB2 hB2.size hb3
  have hL3 := (hb3.block w.heap.size (blk_lt hL2)).trans hL2
  have hP3 := (hb3.block w1.heap.size (blk_lt hP2)).trans hP2
  have hm3 : m3 ≤ 4294967296 := by have h1 := ho3.2; have h2 := HL1.out; have h3 := H6.out; omega
  clear hr3 hB2 hL2 hP2 hb3
  have HPar := Lib.hid (Parse24_calls ho3.bs hm3)
  by_cases hrl : rl = 0
  · have HLQ := Lib.hid (HLB.out hrl)
    subst hrl
    have hPa := HPar.out
    rw [HLQ.out] at hPa
    go_wp2_with fail
    refine hPa.mono ?_
    rintro e w4 ⟨A5, m5, c5, A6, m6, c6, r4, rfl, ho5, ho6, hr4, hb4⟩
    obtain rfl : r4 = 0 := hr4
    have hB4 := below_then hB3 hB3.size hb4
    have hL4 := (hb4.block w.heap.size (blk_lt hL3)).trans hL3
    have hP4 := (hb4.block w1.heap.size (blk_lt hP3)).trans hP3
    clear hB3 hL3 hP3 hb4 hPa HPar ho3
    have hba := (Below.refl w4.heap.size w4).alloc (Nat.le_refl _) (.cells #[.int .u8 0, .slice none 0 0, .int .u32 0, .slice none 0 0] 35)
    have hnw := heap_alloc_new w4 (.cells #[.int .u8 0, .slice none 0 0, .int .u32 0, .slice none 0 0] 35)
    generalize hv : w4.alloc (.cells #[.int .u8 0, .slice none 0 0, .int .u32 0, .slice none 0 0] 35) = v5 at hba hnw
    have f0 := blk_frozen hnw 0
    have r0 : v5.cell? ⟨w4.heap.size, 0, none⟩ = some (.int .u8 0) := blk_cell hnw 0
    have f1 := blk_frozen hnw 1
    have r1 : v5.cell? ⟨w4.heap.size, 1, none⟩ = some (.slice none 0 0) := blk_cell hnw 1
    have f2 := blk_frozen hnw 2
    have r2 : v5.cell? ⟨w4.heap.size, 2, none⟩ = some (.int .u32 0) := blk_cell hnw 2
    have f3 := blk_frozen hnw 3
    have r3 : v5.cell? ⟨w4.heap.size, 3, none⟩ = some (.slice none 0 0) := blk_cell hnw 3
    have hS0 := setRow_block (k := w4.heap.size) [.int .u8 (x.toNat : Int), .slice A5 m5 c5, .int .u32 (d : Int), .slice A6 m6 c6] 0 hnw
    have hG0 := hba.grown (setRow_grown (k := w4.heap.size) [.int .u8 (x.toNat : Int), .slice A5 m5 c5, .int .u32 (d : Int), .slice A6 m6 c6] v5 0) hba.size (fun k e => by cases e; exact Nat.le_refl _)
    generalize hx : setRow w4.heap.size v5 0 [.int .u8 (x.toNat : Int), .slice A5 m5 c5, .int .u32 (d : Int), .slice A6 m6 c6] = w5 at hS0 hG0
    simp only [setRow, Nat.reduceAdd, Nat.zero_add] at hx
    have hw5 : w5.heap[w4.heap.size]? = some (.cells #[.int .u8 (x.toNat : Int), .slice A5 m5 c5, .int .u32 (d : Int), .slice A6 m6 c6] 35 (0, 0)) := hS0
    have HX := Lib.hid hx
    clear hS0 hx hba hnw
    have hB5 := below_then hB4 hB4.size hG0
    have hL5 := (hG0.block w.heap.size (blk_lt hL4)).trans hL4
    have hP5 := (hG0.block w1.heap.size (blk_lt hP4)).trans hP4
    have hy5 := (ho5.below hG0).bs
    have hz5 := (ho6.below hG0).bs
    clear hB4 hL4 hP4 ho5 ho6 hG0
    go_wp2_with fail
    rw [HX.out]
    clear HX hv f0 r0 f1 r1 f2 r2 f3 r3
    have hB5d := hB5.drew
    have hL5d : w5.drew.heap[w.heap.size]? = _ := hL5
    have hP5d : w5.drew.heap[w1.heap.size]? = _ := hP5
    have hM5d : w5.drew.heap[w4.heap.size]? = _ := hw5
    have hy5d := hy5.drew
    have hz5d := hz5.drew
    have p0 : w5.drew.cell? ⟨w.heap.size, 0, none⟩ = some (.int .u8 (x.toNat : Int)) := blk_cell hL5d 0
    have p1 : w5.drew.cell? ⟨w.heap.size, 1, none⟩ = some (.slice An nn cn) := blk_cell hL5d 1
    have p2 : w5.drew.cell? ⟨w.heap.size, 2, none⟩ = some (.int .u32 (d : Int)) := blk_cell hL5d 2
    have p3 : w5.drew.cell? ⟨w.heap.size, 3, none⟩ = some (.slice Ad nd cd) := blk_cell hL5d 3
    have q0 : w5.drew.cell? ⟨w4.heap.size, 0, none⟩ = some (.int .u8 (x.toNat : Int)) := blk_cell hM5d 0
    have q1 : w5.drew.cell? ⟨w4.heap.size, 1, none⟩ = some (.slice A5 m5 c5) := blk_cell hM5d 1
    have q2 : w5.drew.cell? ⟨w4.heap.size, 2, none⟩ = some (.int .u32 (d : Int)) := blk_cell hM5d 2
    have q3 : w5.drew.cell? ⟨w4.heap.size, 3, none⟩ = some (.slice A6 m6 c6) := blk_cell hM5d 3
    go_region_held (fun w' => (w'.cell? ⟨w.heap.size, 0, none⟩ = some (.int .u8 (x.toNat : Int)) ∧ w'.cell? ⟨w.heap.size, 1, none⟩ = some (.slice An nn cn) ∧ w'.cell? ⟨w.heap.size, 2, none⟩ = some (.int .u32 (d : Int)) ∧ w'.cell? ⟨w.heap.size, 3, none⟩ = some (.slice Ad nd cd)) ∧ (w'.cell? ⟨w4.heap.size, 0, none⟩ = some (.int .u8 (x.toNat : Int)) ∧ w'.cell? ⟨w4.heap.size, 1, none⟩ = some (.slice A5 m5 c5) ∧ w'.cell? ⟨w4.heap.size, 2, none⟩ = some (.int .u32 (d : Int)) ∧ w'.cell? ⟨w4.heap.size, 3, none⟩ = some (.slice A6 m6 c6))) (first | with_reducible exact ⟨⟨p0, p1, p2, p3⟩, ⟨q0, q1, q2, q3⟩⟩ | with_reducible exact T6.out | with_reducible exact T7.out | with_reducible exact T8.out) (first
      | (go_at_call 23; refine (Same24_calls (x.toNat : Int) (d : Int) (hn.below hB7) (hx.below hB7) hy7 hz7).mono ?_; rintro e w8 ⟨rfl, hb8⟩; have hB8 := below_then hB7 hB7.size hb8; have hL8 := (hb8.block w.heap.size (blk_lt hL7)).trans hL7; have hM8 := (hb8.block w4.heap.size (blk_lt hM7)).trans hM7; have hP8 := (hb8.block w1.heap.size (blk_lt hP7)).trans hP7; have hy8 := hy7.below hb8; have hz8 := hz7.below hb8; have T8 := Lib.hid (show (fun w' => (w'.cell? ⟨w.heap.size, 0, none⟩ = some (.int .u8 (x.toNat : Int)) ∧ w'.cell? ⟨w.heap.size, 1, none⟩ = some (.slice An nn cn) ∧ w'.cell? ⟨w.heap.size, 2, none⟩ = some (.int .u32 (d : Int)) ∧ w'.cell? ⟨w.heap.size, 3, none⟩ = some (.slice Ad nd cd)) ∧ (w'.cell? ⟨w4.heap.size, 0, none⟩ = some (.int .u8 (x.toNat : Int)) ∧ w'.cell? ⟨w4.heap.size, 1, none⟩ = some (.slice A5 m5 c5) ∧ w'.cell? ⟨w4.heap.size, 2, none⟩ = some (.int .u32 (d : Int)) ∧ w'.cell? ⟨w4.heap.size, 3, none⟩ = some (.slice A6 m6 c6))) w8 from ⟨⟨blk_cell hL8 0, blk_cell hL8 1, blk_cell hL8 2, blk_cell hL8 3⟩, ⟨blk_cell hM8 0, blk_cell hM8 1, blk_cell hM8 2, blk_cell hM8 3⟩⟩))
      | (go_at_call 24; refine (lit_calls (x.toNat : Int) A5 m5 c5 (d : Int) A6 m6 c6 w6).mono ?_; rintro e w7 ⟨rfl, hb7⟩; have hB7 := below_then hB6 hB6.size hb7; have hL7 := (hb7.block w.heap.size (blk_lt hL6)).trans hL6; have hM7 := (hb7.block w4.heap.size (blk_lt hM6)).trans hM6; have hP7 := (hb7.block w1.heap.size (blk_lt hP6)).trans hP6; have hy7 := hy6.below hb7; have hz7 := hz6.below hb7; have T7 := Lib.hid (show (fun w' => (w'.cell? ⟨w.heap.size, 0, none⟩ = some (.int .u8 (x.toNat : Int)) ∧ w'.cell? ⟨w.heap.size, 1, none⟩ = some (.slice An nn cn) ∧ w'.cell? ⟨w.heap.size, 2, none⟩ = some (.int .u32 (d : Int)) ∧ w'.cell? ⟨w.heap.size, 3, none⟩ = some (.slice Ad nd cd)) ∧ (w'.cell? ⟨w4.heap.size, 0, none⟩ = some (.int .u8 (x.toNat : Int)) ∧ w'.cell? ⟨w4.heap.size, 1, none⟩ = some (.slice A5 m5 c5) ∧ w'.cell? ⟨w4.heap.size, 2, none⟩ = some (.int .u32 (d : Int)) ∧ w'.cell? ⟨w4.heap.size, 3, none⟩ = some (.slice A6 m6 c6))) w7 from ⟨⟨blk_cell hL7 0, blk_cell hL7 1, blk_cell hL7 2, blk_cell hL7 3⟩, ⟨blk_cell hM7 0, blk_cell hM7 1, blk_cell hM7 2, blk_cell hM7 3⟩⟩))
      | (go_at_call 24; refine (lit_calls (x.toNat : Int) An nn cn (d : Int) Ad nd cd w5.drew).mono ?_; rintro e w6 ⟨rfl, hb6⟩; have hB6 := below_then hB5d hB5d.size hb6; have hL6 := (hb6.block w.heap.size (blk_lt hL5d)).trans hL5d; have hM6 := (hb6.block w4.heap.size (blk_lt hM5d)).trans hM5d; have hP6 := (hb6.block w1.heap.size (blk_lt hP5d)).trans hP5d; have hy6 := hy5d.below hb6; have hz6 := hz5d.below hb6; have T6 := Lib.hid (show (fun w' => (w'.cell? ⟨w.heap.size, 0, none⟩ = some (.int .u8 (x.toNat : Int)) ∧ w'.cell? ⟨w.heap.size, 1, none⟩ = some (.slice An nn cn) ∧ w'.cell? ⟨w.heap.size, 2, none⟩ = some (.int .u32 (d : Int)) ∧ w'.cell? ⟨w.heap.size, 3, none⟩ = some (.slice Ad nd cd)) ∧ (w'.cell? ⟨w4.heap.size, 0, none⟩ = some (.int .u8 (x.toNat : Int)) ∧ w'.cell? ⟨w4.heap.size, 1, none⟩ = some (.slice A5 m5 c5) ∧ w'.cell? ⟨w4.heap.size, 2, none⟩ = some (.int .u32 (d : Int)) ∧ w'.cell? ⟨w4.heap.size, 3, none⟩ = some (.slice A6 m6 c6))) w6 from ⟨⟨blk_cell hL6 0, blk_cell hL6 1, blk_cell hL6 2, blk_cell hL6 3⟩, ⟨blk_cell hM6 0, blk_cell hM6 1, blk_cell hM6 2, blk_cell hM6 3⟩⟩)))
    have hBc := hB8
    have hPc := hP8
    clear T6 T7 T8 p0 p1 p2 p3 q0 q1 q2 q3 hw5
    have j0 : w8.cell? ⟨w1.heap.size, 0, none⟩ = some (.int .i64 v) := blk_cell hPc 0
    have j1 : w8.cell? ⟨w1.heap.size, 1, none⟩ = some (.int .i64 ty) := blk_cell hPc 1
    have j2 : w8.cell? ⟨w1.heap.size, 2, none⟩ = some (.int .i64 ha) := blk_cell hPc 2
    have j3 : w8.cell? ⟨w1.heap.size, 3, none⟩ = some (.int .i64 pu) := blk_cell hPc 3
    have j4 : w8.cell? ⟨w1.heap.size, 4, none⟩ = some (.slice As ns cs) := blk_cell hPc 4
    have j5 : w8.cell? ⟨w1.heap.size, 5, none⟩ = some (.slice Ai ni ci) := blk_cell hPc 5
    have j6 : w8.cell? ⟨w1.heap.size, 6, none⟩ = some (.bool la) := blk_cell hPc 6
    go_wp2_with fail
    clear j0 j1 j2 j3 j4 j5 j6
    refine (HEP.out w8 hBc).mono ?_
    rintro e w10 ⟨A10, m10, c10, r10, rfl, ho10, hr10, hb10⟩
    obtain rfl : rp = r10 := hr10.symm
    have hB10 := below_then hBc hBc.size hb10
    have hP10 := (hb10.block w1.heap.size (blk_lt hPc)).trans hPc
    have hm10 : m10 ≤ 2000 := by have h1 := ho10.2; have h2 := HL2.out; have h3 := H6.out; omega
    clear hr10 hBc hPc hb10
    by_cases hrp : rp = 0
    · have HQ := Lib.hid (HPB.out hrp)
      subst hrp
      have hPa := ParsePass_calls ho10.bs (by omega)
      rw [HQ.out.1] at hPa
      go_wp2_with fail
      refine hPa.mono ?_
      rintro e w11 ⟨A11, m11, c11, A12, m12, c12, r11, rfl, ho11, ho12, hr11, hb11⟩
      obtain rfl : r11 = 0 := hr11
      have hB11 := below_then hB10 hB10.size hb11
      have hP11 := (hb11.block w1.heap.size (blk_lt hP10)).trans hP10
      have hob := ho10.bs.below hb11
      clear hB10 hP10 hb11 ho10 hPa
      have hba := (Below.refl w11.heap.size w11).alloc (Nat.le_refl _) (.cells #[.int .i64 0, .int .i64 0, .int .i64 0, .int .i64 0, .slice none 0 0, .slice none 0 0, .bool false] 42)
      have hnw := heap_alloc_new w11 (.cells #[.int .i64 0, .int .i64 0, .int .i64 0, .int .i64 0, .slice none 0 0, .slice none 0 0, .bool false] 42)
      generalize hv : w11.alloc (.cells #[.int .i64 0, .int .i64 0, .int .i64 0, .int .i64 0, .slice none 0 0, .slice none 0 0, .bool false] 42) = v12 at hba hnw
      have f0 := blk_frozen hnw 0
      have r0 : v12.cell? ⟨w11.heap.size, 0, none⟩ = some (.int .i64 0) := blk_cell hnw 0
      have f1 := blk_frozen hnw 1
      have r1 : v12.cell? ⟨w11.heap.size, 1, none⟩ = some (.int .i64 0) := blk_cell hnw 1
      have f2 := blk_frozen hnw 2
      have r2 : v12.cell? ⟨w11.heap.size, 2, none⟩ = some (.int .i64 0) := blk_cell hnw 2
      have f3 := blk_frozen hnw 3
      have r3 : v12.cell? ⟨w11.heap.size, 3, none⟩ = some (.int .i64 0) := blk_cell hnw 3
      have f4 := blk_frozen hnw 4
      have r4 : v12.cell? ⟨w11.heap.size, 4, none⟩ = some (.slice none 0 0) := blk_cell hnw 4
      have f5 := blk_frozen hnw 5
      have r5 : v12.cell? ⟨w11.heap.size, 5, none⟩ = some (.slice none 0 0) := blk_cell hnw 5
      have f6 := blk_frozen hnw 6
      have r6 : v12.cell? ⟨w11.heap.size, 6, none⟩ = some (.bool false) := blk_cell hnw 6
      have hS0 := setRow_block (k := w11.heap.size) [.int .i64 v, .int .i64 ty, .int .i64 ha, .int .i64 pu, .slice A11 m11 c11, .slice A12 m12 c12, .bool la] 0 hnw
      have hG0 := hba.grown (setRow_grown (k := w11.heap.size) [.int .i64 v, .int .i64 ty, .int .i64 ha, .int .i64 pu, .slice A11 m11 c11, .slice A12 m12 c12, .bool la] v12 0) hba.size (fun k e => by cases e; exact Nat.le_refl _)
      generalize hx : setRow w11.heap.size v12 0 [.int .i64 v, .int .i64 ty, .int .i64 ha, .int .i64 pu, .slice A11 m11 c11, .slice A12 m12 c12, .bool la] = w12 at hS0 hG0
      simp only [setRow, Nat.reduceAdd, Nat.zero_add] at hx
      have hw12 : w12.heap[w11.heap.size]? = some (.cells #[.int .i64 v, .int .i64 ty, .int .i64 ha, .int .i64 pu, .slice A11 m11 c11, .slice A12 m12 c12, .bool la] 42 (0, 0)) := hS0
      have HX := Lib.hid hx
      clear hS0 hx hba hnw
      have hB12 := below_then hB11 hB11.size hG0
      have hP12 := (hG0.block w1.heap.size (blk_lt hP11)).trans hP11
      have hob12 := hob.below hG0
      have ho11' := (ho11.below hG0).bs
      have ho12' := (ho12.below hG0).bs
      have hszx : w12.heap.size = v12.heap.size := by rw [← HX.out]; simp
      clear hB11 hP11 hob ho11 ho12 hG0
      have hlit := own_lit w12 #[] [] rfl 0 rfl (by omega)
      have hbe := (Below.refl w12.heap.size w12).alloc (Nat.le_refl _) (.cells #[] 5)
      have hB13 := below_then hB12 hB12.size hbe
      have hob13 := hob12.below hbe
      rw [show (some (⟨w12.heap.size, 0, none⟩ : Addr)) = some ⟨v12.heap.size, 0, none⟩ by rw [hszx]] at hlit
      have hcov : w12.heap.size ≤ (w12.alloc (.cells #[] 5)).heap.size := hbe.size
      have hrw : ∀ i, Option.map (fun x : Addr => x.block) (some (⟨v12.heap.size, 0, none⟩ : Addr)) = some i → w12.heap.size ≤ i := fun i e => by
        have e2 : v12.heap.size = i := Option.some.inj e
        omega
      go_wp2_with (first
        | (at_builtin; rw [HX.out]; refine app8 (.tmp 85) (.tmp 86) rfl rfl rfl hlit rfl hob13 (by omega) hcov ?_; intro A14 c14 w14 ho14 hg14 hat14; rw [Nat.zero_add, List.nil_append] at ho14; have hbx := hbe.grown hg14 hcov hrw; have hsz14 := Nat.le_trans hcov hg14.size)
        | (at_builtin; refine app8_one (.tmp 88) (.tmp 89) rfl rfl rfl ho14 [0] _ rfl 1 rfl rfl (by omega) hsz14 ?_; intro A15 c15 w15 ho15 hg15 hat15; have hb15 := hbx.grown hg15 hsz14 (fun i e => by
            cases A14 with
            | none => cases e
            | some ad => cases e; exact (ho14.blk _ rfl).1)))
      clear HX hv hrw hlit
      have hB15 := below_then hB12 hB12.size hb15
      have hP15 := (hb15.block w1.heap.size (blk_lt hP12)).trans hP12
      have hQ15 := (hb15.block w11.heap.size (blk_lt hw12)).trans hw12
      have hs15 := ho11'.below hb15
      have hi15 := ho12'.below hb15
      have hPb := ParsePass_calls ho15.bs (by omega)
      rw [HQ.out.2] at hPb
      clear hB12 hP12 hw12 hb15 hbx hsz14 hg14 hg15 hob12 hob13 hB13 hbe hcov ho11' ho12'
      refine hPb.mono ?_
      rintro e w16 ⟨A16, m16, c16, A17, m17, c17, r16, rfl, _, _, hr16, hb16⟩
      obtain rfl : r16 = 3 := hr16
      have hB16 := below_then hB15 hB15.size hb16
      have hP16 := (hb16.block w1.heap.size (blk_lt hP15)).trans hP15
      have hQ16 := (hb16.block w11.heap.size (blk_lt hQ15)).trans hQ15
      have hs16 := hs15.below hb16
      have hi16 := hi15.below hb16
      clear hB15 hP15 hQ15 hs15 hi15 hb16 hPb ho14 ho15
      have hba := (Below.refl w16.heap.size w16).alloc (Nat.le_refl _) (.cells #[.int .i64 0, .int .i64 0, .int .i64 0, .int .i64 0, .slice none 0 0, .slice none 0 0, .bool false] 42)
      have hnw := heap_alloc_new w16 (.cells #[.int .i64 0, .int .i64 0, .int .i64 0, .int .i64 0, .slice none 0 0, .slice none 0 0, .bool false] 42)
      generalize hv : w16.alloc (.cells #[.int .i64 0, .int .i64 0, .int .i64 0, .int .i64 0, .slice none 0 0, .slice none 0 0, .bool false] 42) = v17 at hba hnw
      have f0 := blk_frozen hnw 0
      have r0 : v17.cell? ⟨w16.heap.size, 0, none⟩ = some (.int .i64 0) := blk_cell hnw 0
      have f1 := blk_frozen hnw 1
      have r1 : v17.cell? ⟨w16.heap.size, 1, none⟩ = some (.int .i64 0) := blk_cell hnw 1
      have f2 := blk_frozen hnw 2
      have r2 : v17.cell? ⟨w16.heap.size, 2, none⟩ = some (.int .i64 0) := blk_cell hnw 2
      have f3 := blk_frozen hnw 3
      have r3 : v17.cell? ⟨w16.heap.size, 3, none⟩ = some (.int .i64 0) := blk_cell hnw 3
      have f4 := blk_frozen hnw 4
      have r4 : v17.cell? ⟨w16.heap.size, 4, none⟩ = some (.slice none 0 0) := blk_cell hnw 4
      have f5 := blk_frozen hnw 5
      have r5 : v17.cell? ⟨w16.heap.size, 5, none⟩ = some (.slice none 0 0) := blk_cell hnw 5
      have f6 := blk_frozen hnw 6
      have r6 : v17.cell? ⟨w16.heap.size, 6, none⟩ = some (.bool false) := blk_cell hnw 6
      have hS0 := setRow_block (k := w16.heap.size) [.int .i64 0, .int .i64 0, .int .i64 0, .int .i64 0, .slice A16 m16 c16, .slice A17 m17 c17, .bool false] 0 hnw
      have hG0 := hba.grown (setRow_grown (k := w16.heap.size) [.int .i64 0, .int .i64 0, .int .i64 0, .int .i64 0, .slice A16 m16 c16, .slice A17 m17 c17, .bool false] v17 0) hba.size (fun k e => by cases e; exact Nat.le_refl _)
      generalize hx : setRow w16.heap.size v17 0 [.int .i64 0, .int .i64 0, .int .i64 0, .int .i64 0, .slice A16 m16 c16, .slice A17 m17 c17, .bool false] = w17 at hS0 hG0
      simp only [setRow, Nat.reduceAdd, Nat.zero_add] at hx
      have hw17 : w17.heap[w16.heap.size]? = some (.cells #[.int .i64 0, .int .i64 0, .int .i64 0, .int .i64 0, .slice A16 m16 c16, .slice A17 m17 c17, .bool false] 42 (0, 0)) := hS0
      have HX := Lib.hid hx
      clear hS0 hx hba hnw
      have hB17 := below_then hB16 hB16.size hG0
      have hP17 := (hG0.block w1.heap.size (blk_lt hP16)).trans hP16
      have hQ17 := (hG0.block w11.heap.size (blk_lt hQ16)).trans hQ16
      have hs17 := hs16.below hG0
      have hi17 := hi16.below hG0
      clear hB16 hP16 hQ16 hs16 hi16 hG0 hw17
      go_wp2_with fail
      rw [HX.out]
      clear HX hv f0 r0 f1 r1 f2 r2 f3 r3 f4 r4 f5 r5 f6 r6
      have hB17d := hB17.drew
      have hP17d : w17.drew.heap[w1.heap.size]? = _ := hP17
      have hQ17d : w17.drew.heap[w11.heap.size]? = _ := hQ17
      have hs17d := hs17.drew
      have hi17d := hi17.drew
      have p0 : w17.drew.cell? ⟨w1.heap.size, 0, none⟩ = some (.int .i64 v) := blk_cell hP17d 0
      have p1 : w17.drew.cell? ⟨w1.heap.size, 1, none⟩ = some (.int .i64 ty) := blk_cell hP17d 1
      have p2 : w17.drew.cell? ⟨w1.heap.size, 2, none⟩ = some (.int .i64 ha) := blk_cell hP17d 2
      have p3 : w17.drew.cell? ⟨w1.heap.size, 3, none⟩ = some (.int .i64 pu) := blk_cell hP17d 3
      have p4 : w17.drew.cell? ⟨w1.heap.size, 4, none⟩ = some (.slice As ns cs) := blk_cell hP17d 4
      have p5 : w17.drew.cell? ⟨w1.heap.size, 5, none⟩ = some (.slice Ai ni ci) := blk_cell hP17d 5
      have p6 : w17.drew.cell? ⟨w1.heap.size, 6, none⟩ = some (.bool la) := blk_cell hP17d 6
      have q0 : w17.drew.cell? ⟨w11.heap.size, 0, none⟩ = some (.int .i64 v) := blk_cell hQ17d 0
      have q1 : w17.drew.cell? ⟨w11.heap.size, 1, none⟩ = some (.int .i64 ty) := blk_cell hQ17d 1
      have q2 : w17.drew.cell? ⟨w11.heap.size, 2, none⟩ = some (.int .i64 ha) := blk_cell hQ17d 2
      have q3 : w17.drew.cell? ⟨w11.heap.size, 3, none⟩ = some (.int .i64 pu) := blk_cell hQ17d 3
      have q4 : w17.drew.cell? ⟨w11.heap.size, 4, none⟩ = some (.slice A11 m11 c11) := blk_cell hQ17d 4
      have q5 : w17.drew.cell? ⟨w11.heap.size, 5, none⟩ = some (.slice A12 m12 c12) := blk_cell hQ17d 5
      have q6 : w17.drew.cell? ⟨w11.heap.size, 6, none⟩ = some (.bool la) := blk_cell hQ17d 6
      go_region_held (fun w' => (w'.cell? ⟨w1.heap.size, 0, none⟩ = some (.int .i64 v) ∧ w'.cell? ⟨w1.heap.size, 1, none⟩ = some (.int .i64 ty) ∧ w'.cell? ⟨w1.heap.size, 2, none⟩ = some (.int .i64 ha) ∧ w'.cell? ⟨w1.heap.size, 3, none⟩ = some (.int .i64 pu) ∧ w'.cell? ⟨w1.heap.size, 4, none⟩ = some (.slice As ns cs) ∧ w'.cell? ⟨w1.heap.size, 5, none⟩ = some (.slice Ai ni ci) ∧ w'.cell? ⟨w1.heap.size, 6, none⟩ = some (.bool la)) ∧ (w'.cell? ⟨w11.heap.size, 0, none⟩ = some (.int .i64 v) ∧ w'.cell? ⟨w11.heap.size, 1, none⟩ = some (.int .i64 ty) ∧ w'.cell? ⟨w11.heap.size, 2, none⟩ = some (.int .i64 ha) ∧ w'.cell? ⟨w11.heap.size, 3, none⟩ = some (.int .i64 pu) ∧ w'.cell? ⟨w11.heap.size, 4, none⟩ = some (.slice A11 m11 c11) ∧ w'.cell? ⟨w11.heap.size, 5, none⟩ = some (.slice A12 m12 c12) ∧ w'.cell? ⟨w11.heap.size, 6, none⟩ = some (.bool la))) (first | with_reducible exact ⟨⟨p0, p1, p2, p3, p4, p5, p6⟩, ⟨q0, q1, q2, q3, q4, q5, q6⟩⟩ | with_reducible exact T18.out | with_reducible exact T19.out | with_reducible exact T20.out | with_reducible exact T21.out) (first
        | (go_at_call 25; refine (SamePass_calls v ty ha pu la (hs.below hB20) (hi.below hB20) hs20 hi20).mono ?_; rintro e w21 ⟨rfl, hb21⟩; have hB21 := below_then hB20 hB20.size hb21; have hP21 := (hb21.block w1.heap.size (blk_lt hP20)).trans hP20; have hQ21 := (hb21.block w11.heap.size (blk_lt hQ20)).trans hQ20; have hs21 := hs20.below hb21; have hi21 := hi20.below hb21; have T21 := Lib.hid (show (fun w' => (w'.cell? ⟨w1.heap.size, 0, none⟩ = some (.int .i64 v) ∧ w'.cell? ⟨w1.heap.size, 1, none⟩ = some (.int .i64 ty) ∧ w'.cell? ⟨w1.heap.size, 2, none⟩ = some (.int .i64 ha) ∧ w'.cell? ⟨w1.heap.size, 3, none⟩ = some (.int .i64 pu) ∧ w'.cell? ⟨w1.heap.size, 4, none⟩ = some (.slice As ns cs) ∧ w'.cell? ⟨w1.heap.size, 5, none⟩ = some (.slice Ai ni ci) ∧ w'.cell? ⟨w1.heap.size, 6, none⟩ = some (.bool la)) ∧ (w'.cell? ⟨w11.heap.size, 0, none⟩ = some (.int .i64 v) ∧ w'.cell? ⟨w11.heap.size, 1, none⟩ = some (.int .i64 ty) ∧ w'.cell? ⟨w11.heap.size, 2, none⟩ = some (.int .i64 ha) ∧ w'.cell? ⟨w11.heap.size, 3, none⟩ = some (.int .i64 pu) ∧ w'.cell? ⟨w11.heap.size, 4, none⟩ = some (.slice A11 m11 c11) ∧ w'.cell? ⟨w11.heap.size, 5, none⟩ = some (.slice A12 m12 c12) ∧ w'.cell? ⟨w11.heap.size, 6, none⟩ = some (.bool la))) w21 from ⟨⟨blk_cell hP21 0, blk_cell hP21 1, blk_cell hP21 2, blk_cell hP21 3, blk_cell hP21 4, blk_cell hP21 5, blk_cell hP21 6⟩, ⟨blk_cell hQ21 0, blk_cell hQ21 1, blk_cell hQ21 2, blk_cell hQ21 3, blk_cell hQ21 4, blk_cell hQ21 5, blk_cell hQ21 6⟩⟩))
        | (go_at_call 26; refine (pass_calls v ty ha pu A11 m11 c11 A12 m12 c12 la w19).mono ?_; rintro e w20 ⟨rfl, hb20⟩; have hB20 := below_then hB19 hB19.size hb20; have hP20 := (hb20.block w1.heap.size (blk_lt hP19)).trans hP19; have hQ20 := (hb20.block w11.heap.size (blk_lt hQ19)).trans hQ19; have hs20 := hs19.below hb20; have hi20 := hi19.below hb20; have T20 := Lib.hid (show (fun w' => (w'.cell? ⟨w1.heap.size, 0, none⟩ = some (.int .i64 v) ∧ w'.cell? ⟨w1.heap.size, 1, none⟩ = some (.int .i64 ty) ∧ w'.cell? ⟨w1.heap.size, 2, none⟩ = some (.int .i64 ha) ∧ w'.cell? ⟨w1.heap.size, 3, none⟩ = some (.int .i64 pu) ∧ w'.cell? ⟨w1.heap.size, 4, none⟩ = some (.slice As ns cs) ∧ w'.cell? ⟨w1.heap.size, 5, none⟩ = some (.slice Ai ni ci) ∧ w'.cell? ⟨w1.heap.size, 6, none⟩ = some (.bool la)) ∧ (w'.cell? ⟨w11.heap.size, 0, none⟩ = some (.int .i64 v) ∧ w'.cell? ⟨w11.heap.size, 1, none⟩ = some (.int .i64 ty) ∧ w'.cell? ⟨w11.heap.size, 2, none⟩ = some (.int .i64 ha) ∧ w'.cell? ⟨w11.heap.size, 3, none⟩ = some (.int .i64 pu) ∧ w'.cell? ⟨w11.heap.size, 4, none⟩ = some (.slice A11 m11 c11) ∧ w'.cell? ⟨w11.heap.size, 5, none⟩ = some (.slice A12 m12 c12) ∧ w'.cell? ⟨w11.heap.size, 6, none⟩ = some (.bool la))) w20 from ⟨⟨blk_cell hP20 0, blk_cell hP20 1, blk_cell hP20 2, blk_cell hP20 3, blk_cell hP20 4, blk_cell hP20 5, blk_cell hP20 6⟩, ⟨blk_cell hQ20 0, blk_cell hQ20 1, blk_cell hQ20 2, blk_cell hQ20 3, blk_cell hQ20 4, blk_cell hQ20 5, blk_cell hQ20 6⟩⟩))
        | (go_at_call 26; refine (pass_calls v ty ha pu As ns cs Ai ni ci la w18).mono ?_; rintro e w19 ⟨rfl, hb19⟩; have hB19 := below_then hB18 hB18.size hb19; have hP19 := (hb19.block w1.heap.size (blk_lt hP18)).trans hP18; have hQ19 := (hb19.block w11.heap.size (blk_lt hQ18)).trans hQ18; have hs19 := hs18.below hb19; have hi19 := hi18.below hb19; have T19 := Lib.hid (show (fun w' => (w'.cell? ⟨w1.heap.size, 0, none⟩ = some (.int .i64 v) ∧ w'.cell? ⟨w1.heap.size, 1, none⟩ = some (.int .i64 ty) ∧ w'.cell? ⟨w1.heap.size, 2, none⟩ = some (.int .i64 ha) ∧ w'.cell? ⟨w1.heap.size, 3, none⟩ = some (.int .i64 pu) ∧ w'.cell? ⟨w1.heap.size, 4, none⟩ = some (.slice As ns cs) ∧ w'.cell? ⟨w1.heap.size, 5, none⟩ = some (.slice Ai ni ci) ∧ w'.cell? ⟨w1.heap.size, 6, none⟩ = some (.bool la)) ∧ (w'.cell? ⟨w11.heap.size, 0, none⟩ = some (.int .i64 v) ∧ w'.cell? ⟨w11.heap.size, 1, none⟩ = some (.int .i64 ty) ∧ w'.cell? ⟨w11.heap.size, 2, none⟩ = some (.int .i64 ha) ∧ w'.cell? ⟨w11.heap.size, 3, none⟩ = some (.int .i64 pu) ∧ w'.cell? ⟨w11.heap.size, 4, none⟩ = some (.slice A11 m11 c11) ∧ w'.cell? ⟨w11.heap.size, 5, none⟩ = some (.slice A12 m12 c12) ∧ w'.cell? ⟨w11.heap.size, 6, none⟩ = some (.bool la))) w19 from ⟨⟨blk_cell hP19 0, blk_cell hP19 1, blk_cell hP19 2, blk_cell hP19 3, blk_cell hP19 4, blk_cell hP19 5, blk_cell hP19 6⟩, ⟨blk_cell hQ19 0, blk_cell hQ19 1, blk_cell hQ19 2, blk_cell hQ19 3, blk_cell hQ19 4, blk_cell hQ19 5, blk_cell hQ19 6⟩⟩))
        | (go_at_call 18; refine (HAl.out _).mono ?_; rintro e w18 ⟨rfl, hb18⟩; have hB18 := below_then hB17d hB17d.size hb18; have hP18 := (hb18.block w1.heap.size (blk_lt hP17d)).trans hP17d; have hQ18 := (hb18.block w11.heap.size (blk_lt hQ17d)).trans hQ17d; have hs18 := hs17d.below hb18; have hi18 := hi17d.below hb18; have T18 := Lib.hid (show (fun w' => (w'.cell? ⟨w1.heap.size, 0, none⟩ = some (.int .i64 v) ∧ w'.cell? ⟨w1.heap.size, 1, none⟩ = some (.int .i64 ty) ∧ w'.cell? ⟨w1.heap.size, 2, none⟩ = some (.int .i64 ha) ∧ w'.cell? ⟨w1.heap.size, 3, none⟩ = some (.int .i64 pu) ∧ w'.cell? ⟨w1.heap.size, 4, none⟩ = some (.slice As ns cs) ∧ w'.cell? ⟨w1.heap.size, 5, none⟩ = some (.slice Ai ni ci) ∧ w'.cell? ⟨w1.heap.size, 6, none⟩ = some (.bool la)) ∧ (w'.cell? ⟨w11.heap.size, 0, none⟩ = some (.int .i64 v) ∧ w'.cell? ⟨w11.heap.size, 1, none⟩ = some (.int .i64 ty) ∧ w'.cell? ⟨w11.heap.size, 2, none⟩ = some (.int .i64 ha) ∧ w'.cell? ⟨w11.heap.size, 3, none⟩ = some (.int .i64 pu) ∧ w'.cell? ⟨w11.heap.size, 4, none⟩ = some (.slice A11 m11 c11) ∧ w'.cell? ⟨w11.heap.size, 5, none⟩ = some (.slice A12 m12 c12) ∧ w'.cell? ⟨w11.heap.size, 6, none⟩ = some (.bool la))) w18 from ⟨⟨blk_cell hP18 0, blk_cell hP18 1, blk_cell hP18 2, blk_cell hP18 3, blk_cell hP18 4, blk_cell hP18 5, blk_cell hP18 6⟩, ⟨blk_cell hQ18 0, blk_cell hQ18 1, blk_cell hQ18 2, blk_cell hQ18 3, blk_cell hQ18 4, blk_cell hQ18 5, blk_cell hQ18 6⟩⟩)))
      go_wp2
      go_ret
      exact ⟨rfl, hB21⟩
    · have HP0 := Lib.hid (HPN.out hrp)
      obtain ⟨rfl, rfl⟩ := Prod.mk.inj HP0.out
      obtain rfl : 0 = m10 := ho10.2
      clear hrp
      go_wp2_with (go_at_call 18; refine (HAl.out _).mono ?_; rintro e w11 ⟨rfl, hb11⟩)
      go_ret
      exact ⟨rfl, below_then hB10 hB10.size hb11⟩
  · obtain ⟨rfl, rfl⟩ := Prod.mk.inj (HLN.out hrl)
    have hPa := HPar.out
    rw [parse_none] at hPa
    clear hrl
    go_wp2_with fail
    refine hPa.mono ?_
    rintro e w4 ⟨A5, m5, c5, A6, m6, c6, r4, rfl, ho5, ho6, hr4, hb4⟩
    have hB4 := below_then hB3 hB3.size hb4
    have hP4 := (hb4.block w1.heap.size (blk_lt hP3)).trans hP3
    obtain rfl : r4 = 2 := hr4
    clear hB3 hL3 hP3 hb4 hPa HPar ho3 ho5 ho6
    have hba := (Below.refl w4.heap.size w4).alloc (Nat.le_refl _) (.cells #[.int .u8 0, .slice none 0 0, .int .u32 0, .slice none 0 0] 35)
    have hnw := heap_alloc_new w4 (.cells #[.int .u8 0, .slice none 0 0, .int .u32 0, .slice none 0 0] 35)
    generalize hv : w4.alloc (.cells #[.int .u8 0, .slice none 0 0, .int .u32 0, .slice none 0 0] 35) = v5 at hba hnw
    have f0 := blk_frozen hnw 0
    have r0 : v5.cell? ⟨w4.heap.size, 0, none⟩ = some (.int .u8 0) := blk_cell hnw 0
    have f1 := blk_frozen hnw 1
    have r1 : v5.cell? ⟨w4.heap.size, 1, none⟩ = some (.slice none 0 0) := blk_cell hnw 1
    have f2 := blk_frozen hnw 2
    have r2 : v5.cell? ⟨w4.heap.size, 2, none⟩ = some (.int .u32 0) := blk_cell hnw 2
    have f3 := blk_frozen hnw 3
    have r3 : v5.cell? ⟨w4.heap.size, 3, none⟩ = some (.slice none 0 0) := blk_cell hnw 3
    have hS0 := setRow_block (k := w4.heap.size) [.int .u8 0, .slice A5 m5 c5, .int .u32 0, .slice A6 m6 c6] 0 hnw
    have hG0 := hba.grown (setRow_grown (k := w4.heap.size) [.int .u8 0, .slice A5 m5 c5, .int .u32 0, .slice A6 m6 c6] v5 0) hba.size (fun k e => by cases e; exact Nat.le_refl _)
    generalize hx : setRow w4.heap.size v5 0 [.int .u8 0, .slice A5 m5 c5, .int .u32 0, .slice A6 m6 c6] = w5 at hS0 hG0
    simp only [setRow, Nat.reduceAdd, Nat.zero_add] at hx
    have hw5 : w5.heap[w4.heap.size]? = some (.cells #[.int .u8 0, .slice A5 m5 c5, .int .u32 0, .slice A6 m6 c6] 35 (0, 0)) := hS0
    have HX := Lib.hid hx
    clear hS0 hx hba hnw
    have hB5 := below_then hB4 hB4.size hG0
    have hP5 := (hG0.block w1.heap.size (blk_lt hP4)).trans hP4
    clear hB4 hP4 hG0
    go_wp2_with fail
    rw [HX.out]
    clear HX hv f0 r0 f1 r1 f2 r2 f3 r3
    go_quiet (fail)
    have j0 : w5.cell? ⟨w1.heap.size, 0, none⟩ = some (.int .i64 v) := blk_cell hP5 0
    have j1 : w5.cell? ⟨w1.heap.size, 1, none⟩ = some (.int .i64 ty) := blk_cell hP5 1
    have j2 : w5.cell? ⟨w1.heap.size, 2, none⟩ = some (.int .i64 ha) := blk_cell hP5 2
    have j3 : w5.cell? ⟨w1.heap.size, 3, none⟩ = some (.int .i64 pu) := blk_cell hP5 3
    have j4 : w5.cell? ⟨w1.heap.size, 4, none⟩ = some (.slice As ns cs) := blk_cell hP5 4
    have j5 : w5.cell? ⟨w1.heap.size, 5, none⟩ = some (.slice Ai ni ci) := blk_cell hP5 5
    have j6 : w5.cell? ⟨w1.heap.size, 6, none⟩ = some (.bool la) := blk_cell hP5 6
    go_wp2_with fail
    clear j0 j1 j2 j3 j4 j5 j6
    have hBc := below_drewN hB5 nq
    have hPc : (w5.drewN nq).heap[w1.heap.size]? = _ := hP5
    clear hB5 hP5 hw5
    refine (HEP.out (w5.drewN nq) hBc).mono ?_
    rintro e w10 ⟨A10, m10, c10, r10, rfl, ho10, hr10, hb10⟩
    obtain rfl : rp = r10 := hr10.symm
    have hB10 := below_then hBc hBc.size hb10
    have hP10 := (hb10.block w1.heap.size (blk_lt hPc)).trans hPc
    have hm10 : m10 ≤ 2000 := by have h1 := ho10.2; have h2 := HL2.out; have h3 := H6.out; omega
    clear hr10 hBc hPc hb10
    by_cases hrp : rp = 0
    · have HQ := Lib.hid (HPB.out hrp)
      subst hrp
      have hPa := ParsePass_calls ho10.bs (by omega)
      rw [HQ.out.1] at hPa
      go_wp2_with fail
      refine hPa.mono ?_
      rintro e w11 ⟨A11, m11, c11, A12, m12, c12, r11, rfl, ho11, ho12, hr11, hb11⟩
      obtain rfl : r11 = 0 := hr11
      have hB11 := below_then hB10 hB10.size hb11
      have hP11 := (hb11.block w1.heap.size (blk_lt hP10)).trans hP10
      have hob := ho10.bs.below hb11
      clear hB10 hP10 hb11 ho10 hPa
      have hba := (Below.refl w11.heap.size w11).alloc (Nat.le_refl _) (.cells #[.int .i64 0, .int .i64 0, .int .i64 0, .int .i64 0, .slice none 0 0, .slice none 0 0, .bool false] 42)
      have hnw := heap_alloc_new w11 (.cells #[.int .i64 0, .int .i64 0, .int .i64 0, .int .i64 0, .slice none 0 0, .slice none 0 0, .bool false] 42)
      generalize hv : w11.alloc (.cells #[.int .i64 0, .int .i64 0, .int .i64 0, .int .i64 0, .slice none 0 0, .slice none 0 0, .bool false] 42) = v12 at hba hnw
      have f0 := blk_frozen hnw 0
      have r0 : v12.cell? ⟨w11.heap.size, 0, none⟩ = some (.int .i64 0) := blk_cell hnw 0
      have f1 := blk_frozen hnw 1
      have r1 : v12.cell? ⟨w11.heap.size, 1, none⟩ = some (.int .i64 0) := blk_cell hnw 1
      have f2 := blk_frozen hnw 2
      have r2 : v12.cell? ⟨w11.heap.size, 2, none⟩ = some (.int .i64 0) := blk_cell hnw 2
      have f3 := blk_frozen hnw 3
      have r3 : v12.cell? ⟨w11.heap.size, 3, none⟩ = some (.int .i64 0) := blk_cell hnw 3
      have f4 := blk_frozen hnw 4
      have r4 : v12.cell? ⟨w11.heap.size, 4, none⟩ = some (.slice none 0 0) := blk_cell hnw 4
      have f5 := blk_frozen hnw 5
      have r5 : v12.cell? ⟨w11.heap.size, 5, none⟩ = some (.slice none 0 0) := blk_cell hnw 5
      have f6 := blk_frozen hnw 6
      have r6 : v12.cell? ⟨w11.heap.size, 6, none⟩ = some (.bool false) := blk_cell hnw 6
      have hS0 := setRow_block (k := w11.heap.size) [.int .i64 v, .int .i64 ty, .int .i64 ha, .int .i64 pu, .slice A11 m11 c11, .slice A12 m12 c12, .bool la] 0 hnw
      have hG0 := hba.grown (setRow_grown (k := w11.heap.size) [.int .i64 v, .int .i64 ty, .int .i64 ha, .int .i64 pu, .slice A11 m11 c11, .slice A12 m12 c12, .bool la] v12 0) hba.size (fun k e => by cases e; exact Nat.le_refl _)
      generalize hx : setRow w11.heap.size v12 0 [.int .i64 v, .int .i64 ty, .int .i64 ha, .int .i64 pu, .slice A11 m11 c11, .slice A12 m12 c12, .bool la] = w12 at hS0 hG0
      simp only [setRow, Nat.reduceAdd, Nat.zero_add] at hx
      have hw12 : w12.heap[w11.heap.size]? = some (.cells #[.int .i64 v, .int .i64 ty, .int .i64 ha, .int .i64 pu, .slice A11 m11 c11, .slice A12 m12 c12, .bool la] 42 (0, 0)) := hS0
      have HX := Lib.hid hx
      clear hS0 hx hba hnw
      have hB12 := below_then hB11 hB11.size hG0
      have hP12 := (hG0.block w1.heap.size (blk_lt hP11)).trans hP11
      have hob12 := hob.below hG0
      have ho11' := (ho11.below hG0).bs
      have ho12' := (ho12.below hG0).bs
      have hszx : w12.heap.size = v12.heap.size := by rw [← HX.out]; simp
      clear hB11 hP11 hob ho11 ho12 hG0
      have hlit := own_lit w12 #[] [] rfl 0 rfl (by omega)
      have hbe := (Below.refl w12.heap.size w12).alloc (Nat.le_refl _) (.cells #[] 5)
      have hB13 := below_then hB12 hB12.size hbe
      have hob13 := hob12.below hbe
      rw [show (some (⟨w12.heap.size, 0, none⟩ : Addr)) = some ⟨v12.heap.size, 0, none⟩ by rw [hszx]] at hlit
      have hcov : w12.heap.size ≤ (w12.alloc (.cells #[] 5)).heap.size := hbe.size
      have hrw : ∀ i, Option.map (fun x : Addr => x.block) (some (⟨v12.heap.size, 0, none⟩ : Addr)) = some i → w12.heap.size ≤ i := fun i e => by
        have e2 : v12.heap.size = i := Option.some.inj e
        omega
      go_wp2_with (first
        | (at_builtin; rw [HX.out]; refine app8 (.tmp 85) (.tmp 86) rfl rfl rfl hlit rfl hob13 (by omega) hcov ?_; intro A14 c14 w14 ho14 hg14 hat14; rw [Nat.zero_add, List.nil_append] at ho14; have hbx := hbe.grown hg14 hcov hrw; have hsz14 := Nat.le_trans hcov hg14.size)
        | (at_builtin; refine app8_one (.tmp 88) (.tmp 89) rfl rfl rfl ho14 [0] _ rfl 1 rfl rfl (by omega) hsz14 ?_; intro A15 c15 w15 ho15 hg15 hat15; have hb15 := hbx.grown hg15 hsz14 (fun i e => by
            cases A14 with
            | none => cases e
            | some ad => cases e; exact (ho14.blk _ rfl).1)))
      clear HX hv hrw hlit
      have hB15 := below_then hB12 hB12.size hb15
      have hP15 := (hb15.block w1.heap.size (blk_lt hP12)).trans hP12
      have hQ15 := (hb15.block w11.heap.size (blk_lt hw12)).trans hw12
      have hs15 := ho11'.below hb15
      have hi15 := ho12'.below hb15
      have hPb := ParsePass_calls ho15.bs (by omega)
      rw [HQ.out.2] at hPb
      clear hB12 hP12 hw12 hb15 hbx hsz14 hg14 hg15 hob12 hob13 hB13 hbe hcov ho11' ho12'
      refine hPb.mono ?_
      rintro e w16 ⟨A16, m16, c16, A17, m17, c17, r16, rfl, _, _, hr16, hb16⟩
      obtain rfl : r16 = 3 := hr16
      have hB16 := below_then hB15 hB15.size hb16
      have hP16 := (hb16.block w1.heap.size (blk_lt hP15)).trans hP15
      have hQ16 := (hb16.block w11.heap.size (blk_lt hQ15)).trans hQ15
      have hs16 := hs15.below hb16
      have hi16 := hi15.below hb16
      clear hB15 hP15 hQ15 hs15 hi15 hb16 hPb ho14 ho15
      have hba := (Below.refl w16.heap.size w16).alloc (Nat.le_refl _) (.cells #[.int .i64 0, .int .i64 0, .int .i64 0, .int .i64 0, .slice none 0 0, .slice none 0 0, .bool false] 42)
      have hnw := heap_alloc_new w16 (.cells #[.int .i64 0, .int .i64 0, .int .i64 0, .int .i64 0, .slice none 0 0, .slice none 0 0, .bool false] 42)
      generalize hv : w16.alloc (.cells #[.int .i64 0, .int .i64 0, .int .i64 0, .int .i64 0, .slice none 0 0, .slice none 0 0, .bool false] 42) = v17 at hba hnw
      have f0 := blk_frozen hnw 0
      have r0 : v17.cell? ⟨w16.heap.size, 0, none⟩ = some (.int .i64 0) := blk_cell hnw 0
      have f1 := blk_frozen hnw 1
      have r1 : v17.cell? ⟨w16.heap.size, 1, none⟩ = some (.int .i64 0) := blk_cell hnw 1
      have f2 := blk_frozen hnw 2
      have r2 : v17.cell? ⟨w16.heap.size, 2, none⟩ = some (.int .i64 0) := blk_cell hnw 2
      have f3 := blk_frozen hnw 3
      have r3 : v17.cell? ⟨w16.heap.size, 3, none⟩ = some (.int .i64 0) := blk_cell hnw 3
      have f4 := blk_frozen hnw 4
      have r4 : v17.cell? ⟨w16.heap.size, 4, none⟩ = some (.slice none 0 0) := blk_cell hnw 4
      have f5 := blk_frozen hnw 5
      have r5 : v17.cell? ⟨w16.heap.size, 5, none⟩ = some (.slice none 0 0) := blk_cell hnw 5
      have f6 := blk_frozen hnw 6
      have r6 : v17.cell? ⟨w16.heap.size, 6, none⟩ = some (.bool false) := blk_cell hnw 6
      have hS0 := setRow_block (k := w16.heap.size) [.int .i64 0, .int .i64 0, .int .i64 0, .int .i64 0, .slice A16 m16 c16, .slice A17 m17 c17, .bool false] 0 hnw
      have hG0 := hba.grown (setRow_grown (k := w16.heap.size) [.int .i64 0, .int .i64 0, .int .i64 0, .int .i64 0, .slice A16 m16 c16, .slice A17 m17 c17, .bool false] v17 0) hba.size (fun k e => by cases e; exact Nat.le_refl _)
      generalize hx : setRow w16.heap.size v17 0 [.int .i64 0, .int .i64 0, .int .i64 0, .int .i64 0, .slice A16 m16 c16, .slice A17 m17 c17, .bool false] = w17 at hS0 hG0
      simp only [setRow, Nat.reduceAdd, Nat.zero_add] at hx
      have hw17 : w17.heap[w16.heap.size]? = some (.cells #[.int .i64 0, .int .i64 0, .int .i64 0, .int .i64 0, .slice A16 m16 c16, .slice A17 m17 c17, .bool false] 42 (0, 0)) := hS0
      have HX := Lib.hid hx
      clear hS0 hx hba hnw
      have hB17 := below_then hB16 hB16.size hG0
      have hP17 := (hG0.block w1.heap.size (blk_lt hP16)).trans hP16
      have hQ17 := (hG0.block w11.heap.size (blk_lt hQ16)).trans hQ16
      have hs17 := hs16.below hG0
      have hi17 := hi16.below hG0
      clear hB16 hP16 hQ16 hs16 hi16 hG0 hw17
      go_wp2_with fail
      rw [HX.out]
      clear HX hv f0 r0 f1 r1 f2 r2 f3 r3 f4 r4 f5 r5 f6 r6
      have hB17d := hB17.drew
      have hP17d : w17.drew.heap[w1.heap.size]? = _ := hP17
      have hQ17d : w17.drew.heap[w11.heap.size]? = _ := hQ17
      have hs17d := hs17.drew
      have hi17d := hi17.drew
      have p0 : w17.drew.cell? ⟨w1.heap.size, 0, none⟩ = some (.int .i64 v) := blk_cell hP17d 0
      have p1 : w17.drew.cell? ⟨w1.heap.size, 1, none⟩ = some (.int .i64 ty) := blk_cell hP17d 1
      have p2 : w17.drew.cell? ⟨w1.heap.size, 2, none⟩ = some (.int .i64 ha) := blk_cell hP17d 2
      have p3 : w17.drew.cell? ⟨w1.heap.size, 3, none⟩ = some (.int .i64 pu) := blk_cell hP17d 3
      have p4 : w17.drew.cell? ⟨w1.heap.size, 4, none⟩ = some (.slice As ns cs) := blk_cell hP17d 4
      have p5 : w17.drew.cell? ⟨w1.heap.size, 5, none⟩ = some (.slice Ai ni ci) := blk_cell hP17d 5
      have p6 : w17.drew.cell? ⟨w1.heap.size, 6, none⟩ = some (.bool la) := blk_cell hP17d 6
      have q0 : w17.drew.cell? ⟨w11.heap.size, 0, none⟩ = some (.int .i64 v) := blk_cell hQ17d 0
      have q1 : w17.drew.cell? ⟨w11.heap.size, 1, none⟩ = some (.int .i64 ty) := blk_cell hQ17d 1
      have q2 : w17.drew.cell? ⟨w11.heap.size, 2, none⟩ = some (.int .i64 ha) := blk_cell hQ17d 2
      have q3 : w17.drew.cell? ⟨w11.heap.size, 3, none⟩ = some (.int .i64 pu) := blk_cell hQ17d 3
      have q4 : w17.drew.cell? ⟨w11.heap.size, 4, none⟩ = some (.slice A11 m11 c11) := blk_cell hQ17d 4
      have q5 : w17.drew.cell? ⟨w11.heap.size, 5, none⟩ = some (.slice A12 m12 c12) := blk_cell hQ17d 5
      have q6 : w17.drew.cell? ⟨w11.heap.size, 6, none⟩ = some (.bool la) := blk_cell hQ17d 6
      go_region_held (fun w' => (w'.cell? ⟨w1.heap.size, 0, none⟩ = some (.int .i64 v) ∧ w'.cell? ⟨w1.heap.size, 1, none⟩ = some (.int .i64 ty) ∧ w'.cell? ⟨w1.heap.size, 2, none⟩ = some (.int .i64 ha) ∧ w'.cell? ⟨w1.heap.size, 3, none⟩ = some (.int .i64 pu) ∧ w'.cell? ⟨w1.heap.size, 4, none⟩ = some (.slice As ns cs) ∧ w'.cell? ⟨w1.heap.size, 5, none⟩ = some (.slice Ai ni ci) ∧ w'.cell? ⟨w1.heap.size, 6, none⟩ = some (.bool la)) ∧ (w'.cell? ⟨w11.heap.size, 0, none⟩ = some (.int .i64 v) ∧ w'.cell? ⟨w11.heap.size, 1, none⟩ = some (.int .i64 ty) ∧ w'.cell? ⟨w11.heap.size, 2, none⟩ = some (.int .i64 ha) ∧ w'.cell? ⟨w11.heap.size, 3, none⟩ = some (.int .i64 pu) ∧ w'.cell? ⟨w11.heap.size, 4, none⟩ = some (.slice A11 m11 c11) ∧ w'.cell? ⟨w11.heap.size, 5, none⟩ = some (.slice A12 m12 c12) ∧ w'.cell? ⟨w11.heap.size, 6, none⟩ = some (.bool la))) (first | with_reducible exact ⟨⟨p0, p1, p2, p3, p4, p5, p6⟩, ⟨q0, q1, q2, q3, q4, q5, q6⟩⟩ | with_reducible exact T18.out | with_reducible exact T19.out | with_reducible exact T20.out | with_reducible exact T21.out) (first
        | (go_at_call 25; refine (SamePass_calls v ty ha pu la (hs.below hB20) (hi.below hB20) hs20 hi20).mono ?_; rintro e w21 ⟨rfl, hb21⟩; have hB21 := below_then hB20 hB20.size hb21; have hP21 := (hb21.block w1.heap.size (blk_lt hP20)).trans hP20; have hQ21 := (hb21.block w11.heap.size (blk_lt hQ20)).trans hQ20; have hs21 := hs20.below hb21; have hi21 := hi20.below hb21; have T21 := Lib.hid (show (fun w' => (w'.cell? ⟨w1.heap.size, 0, none⟩ = some (.int .i64 v) ∧ w'.cell? ⟨w1.heap.size, 1, none⟩ = some (.int .i64 ty) ∧ w'.cell? ⟨w1.heap.size, 2, none⟩ = some (.int .i64 ha) ∧ w'.cell? ⟨w1.heap.size, 3, none⟩ = some (.int .i64 pu) ∧ w'.cell? ⟨w1.heap.size, 4, none⟩ = some (.slice As ns cs) ∧ w'.cell? ⟨w1.heap.size, 5, none⟩ = some (.slice Ai ni ci) ∧ w'.cell? ⟨w1.heap.size, 6, none⟩ = some (.bool la)) ∧ (w'.cell? ⟨w11.heap.size, 0, none⟩ = some (.int .i64 v) ∧ w'.cell? ⟨w11.heap.size, 1, none⟩ = some (.int .i64 ty) ∧ w'.cell? ⟨w11.heap.size, 2, none⟩ = some (.int .i64 ha) ∧ w'.cell? ⟨w11.heap.size, 3, none⟩ = some (.int .i64 pu) ∧ w'.cell? ⟨w11.heap.size, 4, none⟩ = some (.slice A11 m11 c11) ∧ w'.cell? ⟨w11.heap.size, 5, none⟩ = some (.slice A12 m12 c12) ∧ w'.cell? ⟨w11.heap.size, 6, none⟩ = some (.bool la))) w21 from ⟨⟨blk_cell hP21 0, blk_cell hP21 1, blk_cell hP21 2, blk_cell hP21 3, blk_cell hP21 4, blk_cell hP21 5, blk_cell hP21 6⟩, ⟨blk_cell hQ21 0, blk_cell hQ21 1, blk_cell hQ21 2, blk_cell hQ21 3, blk_cell hQ21 4, blk_cell hQ21 5, blk_cell hQ21 6⟩⟩))
        | (go_at_call 26; refine (pass_calls v ty ha pu A11 m11 c11 A12 m12 c12 la w19).mono ?_; rintro e w20 ⟨rfl, hb20⟩; have hB20 := below_then hB19 hB19.size hb20; have hP20 := (hb20.block w1.heap.size (blk_lt hP19)).trans hP19; have hQ20 := (hb20.block w11.heap.size (blk_lt hQ19)).trans hQ19; have hs20 := hs19.below hb20; have hi20 := hi19.below hb20; have T20 := Lib.hid (show (fun w' => (w'.cell? ⟨w1.heap.size, 0, none⟩ = some (.int .i64 v) ∧ w'.cell? ⟨w1.heap.size, 1, none⟩ = some (.int .i64 ty) ∧ w'.cell? ⟨w1.heap.size, 2, none⟩ = some (.int .i64 ha) ∧ w'.cell? ⟨w1.heap.size, 3, none⟩ = some (.int .i64 pu) ∧ w'.cell? ⟨w1.heap.size, 4, none⟩ = some (.slice As ns cs) ∧ w'.cell? ⟨w1.heap.size, 5, none⟩ = some (.slice Ai ni ci) ∧ w'.cell? ⟨w1.heap.size, 6, none⟩ = some (.bool la)) ∧ (w'.cell? ⟨w11.heap.size, 0, none⟩ = some (.int .i64 v) ∧ w'.cell? ⟨w11.heap.size, 1, none⟩ = some (.int .i64 ty) ∧ w'.cell? ⟨w11.heap.size, 2, none⟩ = some (.int .i64 ha) ∧ w'.cell? ⟨w11.heap.size, 3, none⟩ = some (.int .i64 pu) ∧ w'.cell? ⟨w11.heap.size, 4, none⟩ = some (.slice A11 m11 c11) ∧ w'.cell? ⟨w11.heap.size, 5, none⟩ = some (.slice A12 m12 c12) ∧ w'.cell? ⟨w11.heap.size, 6, none⟩ = some (.bool la))) w20 from ⟨⟨blk_cell hP20 0, blk_cell hP20 1, blk_cell hP20 2, blk_cell hP20 3, blk_cell hP20 4, blk_cell hP20 5, blk_cell hP20 6⟩, ⟨blk_cell hQ20 0, blk_cell hQ20 1, blk_cell hQ20 2, blk_cell hQ20 3, blk_cell hQ20 4, blk_cell hQ20 5, blk_cell hQ20 6⟩⟩))
        | (go_at_call 26; refine (pass_calls v ty ha pu As ns cs Ai ni ci la w18).mono ?_; rintro e w19 ⟨rfl, hb19⟩; have hB19 := below_then hB18 hB18.size hb19; have hP19 := (hb19.block w1.heap.size (blk_lt hP18)).trans hP18; have hQ19 := (hb19.block w11.heap.size (blk_lt hQ18)).trans hQ18; have hs19 := hs18.below hb19; have hi19 := hi18.below hb19; have T19 := Lib.hid (show (fun w' => (w'.cell? ⟨w1.heap.size, 0, none⟩ = some (.int .i64 v) ∧ w'.cell? ⟨w1.heap.size, 1, none⟩ = some (.int .i64 ty) ∧ w'.cell? ⟨w1.heap.size, 2, none⟩ = some (.int .i64 ha) ∧ w'.cell? ⟨w1.heap.size, 3, none⟩ = some (.int .i64 pu) ∧ w'.cell? ⟨w1.heap.size, 4, none⟩ = some (.slice As ns cs) ∧ w'.cell? ⟨w1.heap.size, 5, none⟩ = some (.slice Ai ni ci) ∧ w'.cell? ⟨w1.heap.size, 6, none⟩ = some (.bool la)) ∧ (w'.cell? ⟨w11.heap.size, 0, none⟩ = some (.int .i64 v) ∧ w'.cell? ⟨w11.heap.size, 1, none⟩ = some (.int .i64 ty) ∧ w'.cell? ⟨w11.heap.size, 2, none⟩ = some (.int .i64 ha) ∧ w'.cell? ⟨w11.heap.size, 3, none⟩ = some (.int .i64 pu) ∧ w'.cell? ⟨w11.heap.size, 4, none⟩ = some (.slice A11 m11 c11) ∧ w'.cell? ⟨w11.heap.size, 5, none⟩ = some (.slice A12 m12 c12) ∧ w'.cell? ⟨w11.heap.size, 6, none⟩ = some (.bool la))) w19 from ⟨⟨blk_cell hP19 0, blk_cell hP19 1, blk_cell hP19 2, blk_cell hP19 3, blk_cell hP19 4, blk_cell hP19 5, blk_cell hP19 6⟩, ⟨blk_cell hQ19 0, blk_cell hQ19 1, blk_cell hQ19 2, blk_cell hQ19 3, blk_cell hQ19 4, blk_cell hQ19 5, blk_cell hQ19 6⟩⟩))
        | (go_at_call 18; refine (HAl.out _).mono ?_; rintro e w18 ⟨rfl, hb18⟩; have hB18 := below_then hB17d hB17d.size hb18; have hP18 := (hb18.block w1.heap.size (blk_lt hP17d)).trans hP17d; have hQ18 := (hb18.block w11.heap.size (blk_lt hQ17d)).trans hQ17d; have hs18 := hs17d.below hb18; have hi18 := hi17d.below hb18; have T18 := Lib.hid (show (fun w' => (w'.cell? ⟨w1.heap.size, 0, none⟩ = some (.int .i64 v) ∧ w'.cell? ⟨w1.heap.size, 1, none⟩ = some (.int .i64 ty) ∧ w'.cell? ⟨w1.heap.size, 2, none⟩ = some (.int .i64 ha) ∧ w'.cell? ⟨w1.heap.size, 3, none⟩ = some (.int .i64 pu) ∧ w'.cell? ⟨w1.heap.size, 4, none⟩ = some (.slice As ns cs) ∧ w'.cell? ⟨w1.heap.size, 5, none⟩ = some (.slice Ai ni ci) ∧ w'.cell? ⟨w1.heap.size, 6, none⟩ = some (.bool la)) ∧ (w'.cell? ⟨w11.heap.size, 0, none⟩ = some (.int .i64 v) ∧ w'.cell? ⟨w11.heap.size, 1, none⟩ = some (.int .i64 ty) ∧ w'.cell? ⟨w11.heap.size, 2, none⟩ = some (.int .i64 ha) ∧ w'.cell? ⟨w11.heap.size, 3, none⟩ = some (.int .i64 pu) ∧ w'.cell? ⟨w11.heap.size, 4, none⟩ = some (.slice A11 m11 c11) ∧ w'.cell? ⟨w11.heap.size, 5, none⟩ = some (.slice A12 m12 c12) ∧ w'.cell? ⟨w11.heap.size, 6, none⟩ = some (.bool la))) w18 from ⟨⟨blk_cell hP18 0, blk_cell hP18 1, blk_cell hP18 2, blk_cell hP18 3, blk_cell hP18 4, blk_cell hP18 5, blk_cell hP18 6⟩, ⟨blk_cell hQ18 0, blk_cell hQ18 1, blk_cell hQ18 2, blk_cell hQ18 3, blk_cell hQ18 4, blk_cell hQ18 5, blk_cell hQ18 6⟩⟩)))
      go_wp2
      go_ret
      exact ⟨rfl, hB21⟩
    · have HP0 := Lib.hid (HPN.out hrp)
      obtain ⟨rfl, rfl⟩ := Prod.mk.inj HP0.out
      obtain rfl : 0 = m10 := ho10.2
      clear hrp
      go_wp2_with (go_at_call 18; refine (HAl.out _).mono ?_; rintro e w11 ⟨rfl, hb11⟩)
      go_ret
      exact ⟨rfl, below_then hB10 hB10.size hb11⟩
end Go.Proofs.Ytegbncngencfnaa
