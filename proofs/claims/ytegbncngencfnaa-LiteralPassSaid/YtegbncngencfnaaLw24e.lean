/- The statements of layer 24: LiteralPass. -/
import Derived.Test.YtegbncngencfnaaLw24
import Derived.Test.YtegbncngencfnaaLq
import Derived.Test.YtegbncngencfnaaLr
import Derived.Test.YtegbncngencfnaaLs
import Derived.Deep.RegionHeld
namespace Go.Proofs.Ytegbncngencfnaa
open Go.RowKit

set_option maxRecDepth 100000 in
set_option maxHeartbeats 3200000 in
theorem LiteralPass_walk (v ty ha pu : Int) {As Ai : Option Addr} {ns cs ni ci : Nat} {salt iss : List UInt8} (la : Bool) {s : SigV} {a : SigA} (name : ByteArray) {w : World} (hs : Bs w As ns cs salt) (hi : Bs w Ai ni ci iss) (h : SigR w s a) (hb : SigB s a 140737488355328) :
    Calls Try.prog 11 #[.agg #[.int .i64 v, .int .i64 ty, .int .i64 ha, .int .i64 pu, .slice As ns cs, .slice Ai ni ci, .bool la], .agg (sigC s a), .string name] w fun e w' => e = .returned (.bool true) ∧ Below w.heap.size w w' := by
  have HAl := Lib.hid (fun W => alive24_calls W)
  have HP := Lib.hid hs
  have HI := Lib.hid hi
  have HR := Lib.hid h
  have HSm := Lib.hid (fun W (hW : Below w.heap.size w W) => Small_calls (h.below hW) hb)
  have HEm := Lib.hid (fun W (hW : Below w.heap.size w W) => EmitPass_calls v ty ha pu la (hs.below hW) (hi.below hW))
  have HRe := Lib.hid (fun W (hW : Below w.heap.size w W) => rEmitPass_calls v ty ha pu la (hs.below hW) (hi.below hW))
  have HFi := Lib.hid (fun W (hW : Below w.heap.size w W) => Fits_calls (iss := iss) (Ai := Ai) (ni := ni) (ci := ci) v ty ha pu la (hs.below hW) (h.below hW).h8)
  have HRf := Lib.hid (fun W (hW : Below w.heap.size w W) => rFits_calls (iss := iss) (Ai := Ai) (ni := ni) (ci := ci) v ty ha pu la (hs.below hW) (h.below hW).h8)
  unfold EmitPassPost at HRe
  generalize emitP v ty ha pu salt iss la = X at HEm HRe
  generalize fitS v ty ha pu salt s = fv at HFi HRf
  obtain ⟨em, er⟩ := X
  simp only at HEm HRe
  clear hs hi h
  go_enter Try.func11, Try.ntmps11
  go_upto_region 1 with fail
  go_name_world w2 hw2
  have hP : w2.heap[w.heap.size]? = some (.cells #[.int .i64 v, .int .i64 ty, .int .i64 ha, .int .i64 pu, .slice As ns cs, .slice Ai ni ci, .bool la] 42 (0, 0)) := by
    rw [← hw2]
    exact (((Below.refl _ (w.alloc (.cells #[.int .i64 v, .int .i64 ty, .int .i64 ha, .int .i64 pu, .slice As ns cs, .slice Ai ni ci, .bool la] 42))).alloc (Nat.le_refl _) _).block w.heap.size (by simp)).trans (heap_alloc_new w _)
  have hS : w2.heap[w.heap.size + 1]? = some (.cells (sigC s a) 70 (0, 0)) := by
    have := heap_alloc_new (w.alloc (.cells #[.int .i64 v, .int .i64 ty, .int .i64 ha, .int .i64 pu, .slice As ns cs, .slice Ai ni ci, .bool la] 42)) (.cells (sigC s a) 70)
    rw [← hw2]
    simpa using this
  have hB : Below w.heap.size w w2 := by
    rw [← hw2]
    exact ((Below.refl _ w).alloc (Nat.le_refl _) _).alloc (by simp) _
  clear hw2
  have p4 : w2.cell? ⟨w.heap.size, 4, none⟩ = some (.slice As ns cs) := blk_cell hP 4
  have p5 : w2.cell? ⟨w.heap.size, 5, none⟩ = some (.slice Ai ni ci) := blk_cell hP 5
  have s0 : w2.cell? ⟨w.heap.size + 1, 0, none⟩ = some (.int .i64 s.ve) := blk_cell hS 0
  have s1 : w2.cell? ⟨w.heap.size + 1, 1, none⟩ = some (.int .i64 s.ty) := blk_cell hS 1
  have s2 : w2.cell? ⟨w.heap.size + 1, 2, none⟩ = some (.int .i64 s.pu) := blk_cell hS 2
  have s3 : w2.cell? ⟨w.heap.size + 1, 3, none⟩ = some (.int .i64 s.ha) := blk_cell hS 3
  have s4 : w2.cell? ⟨w.heap.size + 1, 4, none⟩ = some (.slice a.A4 a.n4 a.c4) := blk_cell hS 4
  have s5 : w2.cell? ⟨w.heap.size + 1, 5, none⟩ = some (.slice a.A5 a.n5 a.c5) := blk_cell hS 5
  have s6 : w2.cell? ⟨w.heap.size + 1, 6, none⟩ = some (.int .u8 (s.l0.toNat : Int)) := blk_cell hS 6
  have s7 : w2.cell? ⟨w.heap.size + 1, 7, none⟩ = some (.int .u8 (s.l1.toNat : Int)) := blk_cell hS 7
  have s8 : w2.cell? ⟨w.heap.size + 1, 8, none⟩ = some (.slice a.A8 a.n8 a.c8) := blk_cell hS 8
  have s9 : w2.cell? ⟨w.heap.size + 1, 9, none⟩ = some (.slice a.A9 a.n9 a.c9) := blk_cell hS 9
  by_cases h1 : 600 < ns
  · have d1 : decide ((600 : Int) < (ns : Int)) = true := decide_eq_true (by omega)
    have HB := Lib.hid hB
    clear h1 hB hP hS
    go_wp2_with (go_at_call 18; refine (HAl.out _).mono ?_; rintro e w20 ⟨rfl, hb20⟩)
    go_ret
    exact ⟨rfl, below_then HB.out HB.out.size hb20⟩
  have d1 : decide ((600 : Int) < (ns : Int)) = false := decide_eq_false (by omega)
  by_cases h2 : 600 < ni
  · have d2 : decide ((600 : Int) < (ni : Int)) = true := decide_eq_true (by omega)
    have HB := Lib.hid hB
    clear h1 h2 hB hP hS
    go_wp2_with (go_at_call 18; refine (HAl.out _).mono ?_; rintro e w20 ⟨rfl, hb20⟩)
    go_ret
    exact ⟨rfl, below_then HB.out HB.out.size hb20⟩
  have d2 : decide ((600 : Int) < (ni : Int)) = false := decide_eq_false (by omega)
  clear h1 h2
  have HB := Lib.hid hB
  have HP2 := Lib.hid hP
  have HS2 := Lib.hid hS
  clear hB hP hS
  go_wp2_with fail
  refine (HSm.out w2 HB.out).mono ?_
  rintro e w3 ⟨⟨r, rfl, hr⟩, hb3⟩
  have hB3 := below_then HB.out HB.out.size hb3
  have HP3 := Lib.hid ((hb3.block _ (blk_lt HP2.out)).trans HP2.out)
  have HS3 := Lib.hid ((hb3.block _ (blk_lt HS2.out)).trans HS2.out)
  clear hr hb3 p4 p5 s0 s1 s2 s3 s4 s5 s6 s7 s8 s9
  have HB3 := Lib.hid hB3
  clear hB3
  by_cases hr : r = true
  rotate_left
  · obtain rfl : r = false := by simpa using hr
    clear hr
    go_wp2_with (go_at_call 18; refine (HAl.out _).mono ?_; rintro e w20 ⟨rfl, hb20⟩)
    go_ret
    exact ⟨rfl, below_then HB3.out HB3.out.size hb20⟩
  subst hr
  by_cases h3 : 600 < name.size
  · have d3 : decide ((600 : Int) < (name.size : Int)) = true := decide_eq_true (by omega)
    clear h3
    go_wp2_with (go_at_call 18; refine (HAl.out _).mono ?_; rintro e w20 ⟨rfl, hb20⟩)
    go_ret
    exact ⟨rfl, below_then HB3.out HB3.out.size hb20⟩
  have d3 : decide ((600 : Int) < (name.size : Int)) = false := decide_eq_false (by omega)
  have HN := Lib.hid (show name.size ≤ 140737488355328 by omega)
  clear h3
  have p0 : w3.cell? ⟨w.heap.size, 0, none⟩ = some (.int .i64 v) := blk_cell HP3.out 0
  have p1 : w3.cell? ⟨w.heap.size, 1, none⟩ = some (.int .i64 ty) := blk_cell HP3.out 1
  have p2 : w3.cell? ⟨w.heap.size, 2, none⟩ = some (.int .i64 ha) := blk_cell HP3.out 2
  have p3 : w3.cell? ⟨w.heap.size, 3, none⟩ = some (.int .i64 pu) := blk_cell HP3.out 3
  have p4 : w3.cell? ⟨w.heap.size, 4, none⟩ = some (.slice As ns cs) := blk_cell HP3.out 4
  have p5 : w3.cell? ⟨w.heap.size, 5, none⟩ = some (.slice Ai ni ci) := blk_cell HP3.out 5
  have p6 : w3.cell? ⟨w.heap.size, 6, none⟩ = some (.bool la) := blk_cell HP3.out 6
  go_upto_region 4 with (go_at_call 41; refine (HEm.out w3 HB3.out).mono ?_; rintro e w4 ⟨A4, m4, c4, r4, rfl, ho4, rfl, hb4⟩)
  have HB4 := Lib.hid (below_then HB3.out HB3.out.size hb4)
  have HP4 := Lib.hid ((hb4.block _ (blk_lt HP3.out)).trans HP3.out)
  have HS4 := Lib.hid ((hb4.block _ (blk_lt HS3.out)).trans HS3.out)
  clear hb4 p0 p1 p2 p3 p4 p5 p6 d1 d2 d3
  have p0 : w4.cell? ⟨w.heap.size, 0, none⟩ = some (.int .i64 v) := blk_cell HP4.out 0
  have p1 : w4.cell? ⟨w.heap.size, 1, none⟩ = some (.int .i64 ty) := blk_cell HP4.out 1
  have p2 : w4.cell? ⟨w.heap.size, 2, none⟩ = some (.int .i64 ha) := blk_cell HP4.out 2
  have p3 : w4.cell? ⟨w.heap.size, 3, none⟩ = some (.int .i64 pu) := blk_cell HP4.out 3
  have p4 : w4.cell? ⟨w.heap.size, 4, none⟩ = some (.slice As ns cs) := blk_cell HP4.out 4
  have p5 : w4.cell? ⟨w.heap.size, 5, none⟩ = some (.slice Ai ni ci) := blk_cell HP4.out 5
  have p6 : w4.cell? ⟨w.heap.size, 6, none⟩ = some (.bool la) := blk_cell HP4.out 6
  go_wp2_with fail
  refine (pass_calls v ty ha pu As ns cs Ai ni ci la w4).mono ?_
  rintro e w5 ⟨rfl, hb5⟩
  have HB5 := Lib.hid (below_then HB4.out HB4.out.size hb5)
  have HP5 := Lib.hid ((hb5.block _ (blk_lt HP4.out)).trans HP4.out)
  have HS5 := Lib.hid ((hb5.block _ (blk_lt HS4.out)).trans HS4.out)
  have ho5 := ho4.below hb5
  clear hb5 p0 p1 p2 p3 p4 p5 p6 ho4
  go_upto_region 5 with (go_at_call 46; refine (HRe.out w5 HB5.out).mono ?_; rintro e w6 ⟨A6, m6, c6, r6, rfl, ho6, rfl, hb6⟩)
  have hB6 := below_then HB5.out HB5.out.size hb6
  have HP6 := Lib.hid ((hb6.block _ (blk_lt HP5.out)).trans HP5.out)
  have HS6 := Lib.hid ((hb6.block _ (blk_lt HS5.out)).trans HS5.out)
  have ho7 := ho5.below hb6
  clear hb6 ho5
  have HB6 := Lib.hid hB6
  have HO6 := Lib.hid ho6.bs
  have HO7 := Lib.hid ho7.bs
  have hE0 := (Below.refl w6.heap.size w6).drew
  clear hB6 ho6 ho7 HSm HEm HRe
  have HNm := Lib.hid (fun W => IsName_calls name HN.out W)
  have HNr := Lib.hid (fun W => rIsName_calls name HN.out W)
  generalize nameS name = nv at HNm HNr
  have G0 := Lib.hid (show (fun w' => (w'.cell? ⟨w.heap.size, 0, none⟩ = some (.int .i64 v) ∧ w'.cell? ⟨w.heap.size, 1, none⟩ = some (.int .i64 ty) ∧ w'.cell? ⟨w.heap.size, 2, none⟩ = some (.int .i64 ha) ∧ w'.cell? ⟨w.heap.size, 3, none⟩ = some (.int .i64 pu) ∧ w'.cell? ⟨w.heap.size, 4, none⟩ = some (.slice As ns cs) ∧ w'.cell? ⟨w.heap.size, 5, none⟩ = some (.slice Ai ni ci) ∧ w'.cell? ⟨w.heap.size, 6, none⟩ = some (.bool la)) ∧ (w'.cell? ⟨w.heap.size + 1, 0, none⟩ = some (.int .i64 s.ve) ∧ w'.cell? ⟨w.heap.size + 1, 1, none⟩ = some (.int .i64 s.ty) ∧ w'.cell? ⟨w.heap.size + 1, 2, none⟩ = some (.int .i64 s.pu) ∧ w'.cell? ⟨w.heap.size + 1, 3, none⟩ = some (.int .i64 s.ha) ∧ w'.cell? ⟨w.heap.size + 1, 4, none⟩ = some (.slice a.A4 a.n4 a.c4) ∧ w'.cell? ⟨w.heap.size + 1, 5, none⟩ = some (.slice a.A5 a.n5 a.c5) ∧ w'.cell? ⟨w.heap.size + 1, 6, none⟩ = some (.int .u8 (s.l0.toNat : Int)) ∧ w'.cell? ⟨w.heap.size + 1, 7, none⟩ = some (.int .u8 (s.l1.toNat : Int)) ∧ w'.cell? ⟨w.heap.size + 1, 8, none⟩ = some (.slice a.A8 a.n8 a.c8) ∧ w'.cell? ⟨w.heap.size + 1, 9, none⟩ = some (.slice a.A9 a.n9 a.c9))) w6.drew from ⟨⟨blk_cell HP6.out 0, blk_cell HP6.out 1, blk_cell HP6.out 2, blk_cell HP6.out 3, blk_cell HP6.out 4, blk_cell HP6.out 5, blk_cell HP6.out 6⟩, ⟨blk_cell HS6.out 0, blk_cell HS6.out 1, blk_cell HS6.out 2, blk_cell HS6.out 3, blk_cell HS6.out 4, blk_cell HS6.out 5, blk_cell HS6.out 6, blk_cell HS6.out 7, blk_cell HS6.out 8, blk_cell HS6.out 9⟩⟩)
  go_region_held (fun w' => (w'.cell? ⟨w.heap.size, 0, none⟩ = some (.int .i64 v) ∧ w'.cell? ⟨w.heap.size, 1, none⟩ = some (.int .i64 ty) ∧ w'.cell? ⟨w.heap.size, 2, none⟩ = some (.int .i64 ha) ∧ w'.cell? ⟨w.heap.size, 3, none⟩ = some (.int .i64 pu) ∧ w'.cell? ⟨w.heap.size, 4, none⟩ = some (.slice As ns cs) ∧ w'.cell? ⟨w.heap.size, 5, none⟩ = some (.slice Ai ni ci) ∧ w'.cell? ⟨w.heap.size, 6, none⟩ = some (.bool la)) ∧ (w'.cell? ⟨w.heap.size + 1, 0, none⟩ = some (.int .i64 s.ve) ∧ w'.cell? ⟨w.heap.size + 1, 1, none⟩ = some (.int .i64 s.ty) ∧ w'.cell? ⟨w.heap.size + 1, 2, none⟩ = some (.int .i64 s.pu) ∧ w'.cell? ⟨w.heap.size + 1, 3, none⟩ = some (.int .i64 s.ha) ∧ w'.cell? ⟨w.heap.size + 1, 4, none⟩ = some (.slice a.A4 a.n4 a.c4) ∧ w'.cell? ⟨w.heap.size + 1, 5, none⟩ = some (.slice a.A5 a.n5 a.c5) ∧ w'.cell? ⟨w.heap.size + 1, 6, none⟩ = some (.int .u8 (s.l0.toNat : Int)) ∧ w'.cell? ⟨w.heap.size + 1, 7, none⟩ = some (.int .u8 (s.l1.toNat : Int)) ∧ w'.cell? ⟨w.heap.size + 1, 8, none⟩ = some (.slice a.A8 a.n8 a.c8) ∧ w'.cell? ⟨w.heap.size + 1, 9, none⟩ = some (.slice a.A9 a.n9 a.c9))) (first | with_reducible exact G0.out | with_reducible exact T1.out | with_reducible exact T2.out | with_reducible exact T3.out | with_reducible exact T4.out | with_reducible exact T5.out) (first
    | (go_at_call 50; refine (HNr.out e5).mono ?_; rintro e e6 ⟨rfl, rfl⟩)
    | (go_at_call 49; refine (HNm.out e4).mono ?_; rintro e e5 ⟨rfl, hb5⟩; have E5 := below_then E4 E4.size hb5; have T5 := Lib.hid (show (fun w' => (w'.cell? ⟨w.heap.size, 0, none⟩ = some (.int .i64 v) ∧ w'.cell? ⟨w.heap.size, 1, none⟩ = some (.int .i64 ty) ∧ w'.cell? ⟨w.heap.size, 2, none⟩ = some (.int .i64 ha) ∧ w'.cell? ⟨w.heap.size, 3, none⟩ = some (.int .i64 pu) ∧ w'.cell? ⟨w.heap.size, 4, none⟩ = some (.slice As ns cs) ∧ w'.cell? ⟨w.heap.size, 5, none⟩ = some (.slice Ai ni ci) ∧ w'.cell? ⟨w.heap.size, 6, none⟩ = some (.bool la)) ∧ (w'.cell? ⟨w.heap.size + 1, 0, none⟩ = some (.int .i64 s.ve) ∧ w'.cell? ⟨w.heap.size + 1, 1, none⟩ = some (.int .i64 s.ty) ∧ w'.cell? ⟨w.heap.size + 1, 2, none⟩ = some (.int .i64 s.pu) ∧ w'.cell? ⟨w.heap.size + 1, 3, none⟩ = some (.int .i64 s.ha) ∧ w'.cell? ⟨w.heap.size + 1, 4, none⟩ = some (.slice a.A4 a.n4 a.c4) ∧ w'.cell? ⟨w.heap.size + 1, 5, none⟩ = some (.slice a.A5 a.n5 a.c5) ∧ w'.cell? ⟨w.heap.size + 1, 6, none⟩ = some (.int .u8 (s.l0.toNat : Int)) ∧ w'.cell? ⟨w.heap.size + 1, 7, none⟩ = some (.int .u8 (s.l1.toNat : Int)) ∧ w'.cell? ⟨w.heap.size + 1, 8, none⟩ = some (.slice a.A8 a.n8 a.c8) ∧ w'.cell? ⟨w.heap.size + 1, 9, none⟩ = some (.slice a.A9 a.n9 a.c9))) e5 from ⟨⟨blk_cell ((E5.block (w.heap.size) (blk_lt HP6.out)).trans HP6.out) 0, blk_cell ((E5.block (w.heap.size) (blk_lt HP6.out)).trans HP6.out) 1, blk_cell ((E5.block (w.heap.size) (blk_lt HP6.out)).trans HP6.out) 2, blk_cell ((E5.block (w.heap.size) (blk_lt HP6.out)).trans HP6.out) 3, blk_cell ((E5.block (w.heap.size) (blk_lt HP6.out)).trans HP6.out) 4, blk_cell ((E5.block (w.heap.size) (blk_lt HP6.out)).trans HP6.out) 5, blk_cell ((E5.block (w.heap.size) (blk_lt HP6.out)).trans HP6.out) 6⟩, ⟨blk_cell ((E5.block (w.heap.size + 1) (blk_lt HS6.out)).trans HS6.out) 0, blk_cell ((E5.block (w.heap.size + 1) (blk_lt HS6.out)).trans HS6.out) 1, blk_cell ((E5.block (w.heap.size + 1) (blk_lt HS6.out)).trans HS6.out) 2, blk_cell ((E5.block (w.heap.size + 1) (blk_lt HS6.out)).trans HS6.out) 3, blk_cell ((E5.block (w.heap.size + 1) (blk_lt HS6.out)).trans HS6.out) 4, blk_cell ((E5.block (w.heap.size + 1) (blk_lt HS6.out)).trans HS6.out) 5, blk_cell ((E5.block (w.heap.size + 1) (blk_lt HS6.out)).trans HS6.out) 6, blk_cell ((E5.block (w.heap.size + 1) (blk_lt HS6.out)).trans HS6.out) 7, blk_cell ((E5.block (w.heap.size + 1) (blk_lt HS6.out)).trans HS6.out) 8, blk_cell ((E5.block (w.heap.size + 1) (blk_lt HS6.out)).trans HS6.out) 9⟩⟩))
    | (go_at_call 48; refine (HRf.out e3 (below_then HB6.out HB6.out.size E3)).mono ?_; rintro e e4 ⟨rfl, hb4⟩; have E4 := below_then E3 E3.size hb4; have T4 := Lib.hid (show (fun w' => (w'.cell? ⟨w.heap.size, 0, none⟩ = some (.int .i64 v) ∧ w'.cell? ⟨w.heap.size, 1, none⟩ = some (.int .i64 ty) ∧ w'.cell? ⟨w.heap.size, 2, none⟩ = some (.int .i64 ha) ∧ w'.cell? ⟨w.heap.size, 3, none⟩ = some (.int .i64 pu) ∧ w'.cell? ⟨w.heap.size, 4, none⟩ = some (.slice As ns cs) ∧ w'.cell? ⟨w.heap.size, 5, none⟩ = some (.slice Ai ni ci) ∧ w'.cell? ⟨w.heap.size, 6, none⟩ = some (.bool la)) ∧ (w'.cell? ⟨w.heap.size + 1, 0, none⟩ = some (.int .i64 s.ve) ∧ w'.cell? ⟨w.heap.size + 1, 1, none⟩ = some (.int .i64 s.ty) ∧ w'.cell? ⟨w.heap.size + 1, 2, none⟩ = some (.int .i64 s.pu) ∧ w'.cell? ⟨w.heap.size + 1, 3, none⟩ = some (.int .i64 s.ha) ∧ w'.cell? ⟨w.heap.size + 1, 4, none⟩ = some (.slice a.A4 a.n4 a.c4) ∧ w'.cell? ⟨w.heap.size + 1, 5, none⟩ = some (.slice a.A5 a.n5 a.c5) ∧ w'.cell? ⟨w.heap.size + 1, 6, none⟩ = some (.int .u8 (s.l0.toNat : Int)) ∧ w'.cell? ⟨w.heap.size + 1, 7, none⟩ = some (.int .u8 (s.l1.toNat : Int)) ∧ w'.cell? ⟨w.heap.size + 1, 8, none⟩ = some (.slice a.A8 a.n8 a.c8) ∧ w'.cell? ⟨w.heap.size + 1, 9, none⟩ = some (.slice a.A9 a.n9 a.c9))) e4 from ⟨⟨blk_cell ((E4.block (w.heap.size) (blk_lt HP6.out)).trans HP6.out) 0, blk_cell ((E4.block (w.heap.size) (blk_lt HP6.out)).trans HP6.out) 1, blk_cell ((E4.block (w.heap.size) (blk_lt HP6.out)).trans HP6.out) 2, blk_cell ((E4.block (w.heap.size) (blk_lt HP6.out)).trans HP6.out) 3, blk_cell ((E4.block (w.heap.size) (blk_lt HP6.out)).trans HP6.out) 4, blk_cell ((E4.block (w.heap.size) (blk_lt HP6.out)).trans HP6.out) 5, blk_cell ((E4.block (w.heap.size) (blk_lt HP6.out)).trans HP6.out) 6⟩, ⟨blk_cell ((E4.block (w.heap.size + 1) (blk_lt HS6.out)).trans HS6.out) 0, blk_cell ((E4.block (w.heap.size + 1) (blk_lt HS6.out)).trans HS6.out) 1, blk_cell ((E4.block (w.heap.size + 1) (blk_lt HS6.out)).trans HS6.out) 2, blk_cell ((E4.block (w.heap.size + 1) (blk_lt HS6.out)).trans HS6.out) 3, blk_cell ((E4.block (w.heap.size + 1) (blk_lt HS6.out)).trans HS6.out) 4, blk_cell ((E4.block (w.heap.size + 1) (blk_lt HS6.out)).trans HS6.out) 5, blk_cell ((E4.block (w.heap.size + 1) (blk_lt HS6.out)).trans HS6.out) 6, blk_cell ((E4.block (w.heap.size + 1) (blk_lt HS6.out)).trans HS6.out) 7, blk_cell ((E4.block (w.heap.size + 1) (blk_lt HS6.out)).trans HS6.out) 8, blk_cell ((E4.block (w.heap.size + 1) (blk_lt HS6.out)).trans HS6.out) 9⟩⟩))
    | (go_at_call 26; refine (pass_calls v ty ha pu As ns cs Ai ni ci la e2).mono ?_; rintro e e3 ⟨rfl, hb3⟩; have E3 := below_then E2 E2.size hb3; have T3 := Lib.hid (show (fun w' => (w'.cell? ⟨w.heap.size, 0, none⟩ = some (.int .i64 v) ∧ w'.cell? ⟨w.heap.size, 1, none⟩ = some (.int .i64 ty) ∧ w'.cell? ⟨w.heap.size, 2, none⟩ = some (.int .i64 ha) ∧ w'.cell? ⟨w.heap.size, 3, none⟩ = some (.int .i64 pu) ∧ w'.cell? ⟨w.heap.size, 4, none⟩ = some (.slice As ns cs) ∧ w'.cell? ⟨w.heap.size, 5, none⟩ = some (.slice Ai ni ci) ∧ w'.cell? ⟨w.heap.size, 6, none⟩ = some (.bool la)) ∧ (w'.cell? ⟨w.heap.size + 1, 0, none⟩ = some (.int .i64 s.ve) ∧ w'.cell? ⟨w.heap.size + 1, 1, none⟩ = some (.int .i64 s.ty) ∧ w'.cell? ⟨w.heap.size + 1, 2, none⟩ = some (.int .i64 s.pu) ∧ w'.cell? ⟨w.heap.size + 1, 3, none⟩ = some (.int .i64 s.ha) ∧ w'.cell? ⟨w.heap.size + 1, 4, none⟩ = some (.slice a.A4 a.n4 a.c4) ∧ w'.cell? ⟨w.heap.size + 1, 5, none⟩ = some (.slice a.A5 a.n5 a.c5) ∧ w'.cell? ⟨w.heap.size + 1, 6, none⟩ = some (.int .u8 (s.l0.toNat : Int)) ∧ w'.cell? ⟨w.heap.size + 1, 7, none⟩ = some (.int .u8 (s.l1.toNat : Int)) ∧ w'.cell? ⟨w.heap.size + 1, 8, none⟩ = some (.slice a.A8 a.n8 a.c8) ∧ w'.cell? ⟨w.heap.size + 1, 9, none⟩ = some (.slice a.A9 a.n9 a.c9))) e3 from ⟨⟨blk_cell ((E3.block (w.heap.size) (blk_lt HP6.out)).trans HP6.out) 0, blk_cell ((E3.block (w.heap.size) (blk_lt HP6.out)).trans HP6.out) 1, blk_cell ((E3.block (w.heap.size) (blk_lt HP6.out)).trans HP6.out) 2, blk_cell ((E3.block (w.heap.size) (blk_lt HP6.out)).trans HP6.out) 3, blk_cell ((E3.block (w.heap.size) (blk_lt HP6.out)).trans HP6.out) 4, blk_cell ((E3.block (w.heap.size) (blk_lt HP6.out)).trans HP6.out) 5, blk_cell ((E3.block (w.heap.size) (blk_lt HP6.out)).trans HP6.out) 6⟩, ⟨blk_cell ((E3.block (w.heap.size + 1) (blk_lt HS6.out)).trans HS6.out) 0, blk_cell ((E3.block (w.heap.size + 1) (blk_lt HS6.out)).trans HS6.out) 1, blk_cell ((E3.block (w.heap.size + 1) (blk_lt HS6.out)).trans HS6.out) 2, blk_cell ((E3.block (w.heap.size + 1) (blk_lt HS6.out)).trans HS6.out) 3, blk_cell ((E3.block (w.heap.size + 1) (blk_lt HS6.out)).trans HS6.out) 4, blk_cell ((E3.block (w.heap.size + 1) (blk_lt HS6.out)).trans HS6.out) 5, blk_cell ((E3.block (w.heap.size + 1) (blk_lt HS6.out)).trans HS6.out) 6, blk_cell ((E3.block (w.heap.size + 1) (blk_lt HS6.out)).trans HS6.out) 7, blk_cell ((E3.block (w.heap.size + 1) (blk_lt HS6.out)).trans HS6.out) 8, blk_cell ((E3.block (w.heap.size + 1) (blk_lt HS6.out)).trans HS6.out) 9⟩⟩))
    | (go_at_call 47; refine (HFi.out e1 (below_then HB6.out HB6.out.size E1)).mono ?_; rintro e e2 ⟨rfl, hb2⟩; have E2 := below_then E1 E1.size hb2; have T2 := Lib.hid (show (fun w' => (w'.cell? ⟨w.heap.size, 0, none⟩ = some (.int .i64 v) ∧ w'.cell? ⟨w.heap.size, 1, none⟩ = some (.int .i64 ty) ∧ w'.cell? ⟨w.heap.size, 2, none⟩ = some (.int .i64 ha) ∧ w'.cell? ⟨w.heap.size, 3, none⟩ = some (.int .i64 pu) ∧ w'.cell? ⟨w.heap.size, 4, none⟩ = some (.slice As ns cs) ∧ w'.cell? ⟨w.heap.size, 5, none⟩ = some (.slice Ai ni ci) ∧ w'.cell? ⟨w.heap.size, 6, none⟩ = some (.bool la)) ∧ (w'.cell? ⟨w.heap.size + 1, 0, none⟩ = some (.int .i64 s.ve) ∧ w'.cell? ⟨w.heap.size + 1, 1, none⟩ = some (.int .i64 s.ty) ∧ w'.cell? ⟨w.heap.size + 1, 2, none⟩ = some (.int .i64 s.pu) ∧ w'.cell? ⟨w.heap.size + 1, 3, none⟩ = some (.int .i64 s.ha) ∧ w'.cell? ⟨w.heap.size + 1, 4, none⟩ = some (.slice a.A4 a.n4 a.c4) ∧ w'.cell? ⟨w.heap.size + 1, 5, none⟩ = some (.slice a.A5 a.n5 a.c5) ∧ w'.cell? ⟨w.heap.size + 1, 6, none⟩ = some (.int .u8 (s.l0.toNat : Int)) ∧ w'.cell? ⟨w.heap.size + 1, 7, none⟩ = some (.int .u8 (s.l1.toNat : Int)) ∧ w'.cell? ⟨w.heap.size + 1, 8, none⟩ = some (.slice a.A8 a.n8 a.c8) ∧ w'.cell? ⟨w.heap.size + 1, 9, none⟩ = some (.slice a.A9 a.n9 a.c9))) e2 from ⟨⟨blk_cell ((E2.block (w.heap.size) (blk_lt HP6.out)).trans HP6.out) 0, blk_cell ((E2.block (w.heap.size) (blk_lt HP6.out)).trans HP6.out) 1, blk_cell ((E2.block (w.heap.size) (blk_lt HP6.out)).trans HP6.out) 2, blk_cell ((E2.block (w.heap.size) (blk_lt HP6.out)).trans HP6.out) 3, blk_cell ((E2.block (w.heap.size) (blk_lt HP6.out)).trans HP6.out) 4, blk_cell ((E2.block (w.heap.size) (blk_lt HP6.out)).trans HP6.out) 5, blk_cell ((E2.block (w.heap.size) (blk_lt HP6.out)).trans HP6.out) 6⟩, ⟨blk_cell ((E2.block (w.heap.size + 1) (blk_lt HS6.out)).trans HS6.out) 0, blk_cell ((E2.block (w.heap.size + 1) (blk_lt HS6.out)).trans HS6.out) 1, blk_cell ((E2.block (w.heap.size + 1) (blk_lt HS6.out)).trans HS6.out) 2, blk_cell ((E2.block (w.heap.size + 1) (blk_lt HS6.out)).trans HS6.out) 3, blk_cell ((E2.block (w.heap.size + 1) (blk_lt HS6.out)).trans HS6.out) 4, blk_cell ((E2.block (w.heap.size + 1) (blk_lt HS6.out)).trans HS6.out) 5, blk_cell ((E2.block (w.heap.size + 1) (blk_lt HS6.out)).trans HS6.out) 6, blk_cell ((E2.block (w.heap.size + 1) (blk_lt HS6.out)).trans HS6.out) 7, blk_cell ((E2.block (w.heap.size + 1) (blk_lt HS6.out)).trans HS6.out) 8, blk_cell ((E2.block (w.heap.size + 1) (blk_lt HS6.out)).trans HS6.out) 9⟩⟩))
    | (go_at_call 18; refine (HAl.out _).mono ?_; rintro e e1 ⟨rfl, hb1⟩; have E1 := below_then hE0 hE0.size hb1; have T1 := Lib.hid (show (fun w' => (w'.cell? ⟨w.heap.size, 0, none⟩ = some (.int .i64 v) ∧ w'.cell? ⟨w.heap.size, 1, none⟩ = some (.int .i64 ty) ∧ w'.cell? ⟨w.heap.size, 2, none⟩ = some (.int .i64 ha) ∧ w'.cell? ⟨w.heap.size, 3, none⟩ = some (.int .i64 pu) ∧ w'.cell? ⟨w.heap.size, 4, none⟩ = some (.slice As ns cs) ∧ w'.cell? ⟨w.heap.size, 5, none⟩ = some (.slice Ai ni ci) ∧ w'.cell? ⟨w.heap.size, 6, none⟩ = some (.bool la)) ∧ (w'.cell? ⟨w.heap.size + 1, 0, none⟩ = some (.int .i64 s.ve) ∧ w'.cell? ⟨w.heap.size + 1, 1, none⟩ = some (.int .i64 s.ty) ∧ w'.cell? ⟨w.heap.size + 1, 2, none⟩ = some (.int .i64 s.pu) ∧ w'.cell? ⟨w.heap.size + 1, 3, none⟩ = some (.int .i64 s.ha) ∧ w'.cell? ⟨w.heap.size + 1, 4, none⟩ = some (.slice a.A4 a.n4 a.c4) ∧ w'.cell? ⟨w.heap.size + 1, 5, none⟩ = some (.slice a.A5 a.n5 a.c5) ∧ w'.cell? ⟨w.heap.size + 1, 6, none⟩ = some (.int .u8 (s.l0.toNat : Int)) ∧ w'.cell? ⟨w.heap.size + 1, 7, none⟩ = some (.int .u8 (s.l1.toNat : Int)) ∧ w'.cell? ⟨w.heap.size + 1, 8, none⟩ = some (.slice a.A8 a.n8 a.c8) ∧ w'.cell? ⟨w.heap.size + 1, 9, none⟩ = some (.slice a.A9 a.n9 a.c9))) e1 from ⟨⟨blk_cell ((E1.block (w.heap.size) (blk_lt HP6.out)).trans HP6.out) 0, blk_cell ((E1.block (w.heap.size) (blk_lt HP6.out)).trans HP6.out) 1, blk_cell ((E1.block (w.heap.size) (blk_lt HP6.out)).trans HP6.out) 2, blk_cell ((E1.block (w.heap.size) (blk_lt HP6.out)).trans HP6.out) 3, blk_cell ((E1.block (w.heap.size) (blk_lt HP6.out)).trans HP6.out) 4, blk_cell ((E1.block (w.heap.size) (blk_lt HP6.out)).trans HP6.out) 5, blk_cell ((E1.block (w.heap.size) (blk_lt HP6.out)).trans HP6.out) 6⟩, ⟨blk_cell ((E1.block (w.heap.size + 1) (blk_lt HS6.out)).trans HS6.out) 0, blk_cell ((E1.block (w.heap.size + 1) (blk_lt HS6.out)).trans HS6.out) 1, blk_cell ((E1.block (w.heap.size + 1) (blk_lt HS6.out)).trans HS6.out) 2, blk_cell ((E1.block (w.heap.size + 1) (blk_lt HS6.out)).trans HS6.out) 3, blk_cell ((E1.block (w.heap.size + 1) (blk_lt HS6.out)).trans HS6.out) 4, blk_cell ((E1.block (w.heap.size + 1) (blk_lt HS6.out)).trans HS6.out) 5, blk_cell ((E1.block (w.heap.size + 1) (blk_lt HS6.out)).trans HS6.out) 6, blk_cell ((E1.block (w.heap.size + 1) (blk_lt HS6.out)).trans HS6.out) 7, blk_cell ((E1.block (w.heap.size + 1) (blk_lt HS6.out)).trans HS6.out) 8, blk_cell ((E1.block (w.heap.size + 1) (blk_lt HS6.out)).trans HS6.out) 9⟩⟩); have c1 := (HO7.out.below E1).str; have c2 := (HO6.out.below E1).str; generalize strOf em = xs at c1 c2))
  all_goals
    go_wp2
    go_ret
    exact ⟨rfl, below_then HB6.out HB6.out.size E5⟩
end Go.Proofs.Ytegbncngencfnaa
