/- The statements of layer 24: LiteralParse. -/
import Derived.Test.YtegbncngencfnaaLw24
import Derived.Test.YtegbncngencfnaaLh
import Derived.Test.YtegbncngencfnaaLm
import Derived.Test.YtegbncngencfnaaLn
import Derived.Deep.RegionHeld
namespace Go.Proofs.Ytegbncngencfnaa
open Go.RowKit

set_option maxRecDepth 100000 in
set_option maxHeartbeats 3200000 in
theorem LiteralParse_walk {A : Option Addr} {n c : Nat} {l : List UInt8} {w : World} (h : Bs w A n c l) :
    Calls Try.prog 5 #[.slice A n c] w fun e w' => e = .returned (.bool true) ∧ Below w.heap.size w w' := by
  have HAl := Lib.hid (fun W => alive24_calls W)
  by_cases h1 : 600 < n
  · have hd1 : decide ((600 : Int) < (n : Int)) = true := decide_eq_true (by omega)
    go_enter Try.func5, Try.ntmps5
    go_wp2_with (go_at_call 18; refine (HAl.out _).mono ?_; rintro e w20 ⟨rfl, hb20⟩)
    go_ret
    exact ⟨rfl, hb20⟩
  have hd1 : decide ((600 : Int) < (n : Int)) = false := decide_eq_false (by omega)
  have HN6 := Lib.hid (show n ≤ 600 by omega)
  have HN := Lib.hid (show n ≤ 4294967296 by omega)
  have HH := Lib.hid h
  have HX1 := Lib.hid (fun W A c (hW : Bs W A n c l) => Parse24_calls hW HN.out)
  have HX2 := Lib.hid (fun W (hW : Below w.heap.size w W) => rParse24_calls (h.below hW) HN.out)
  have HX3 := Lib.hid (fun W A c (hW : Bs W A n c l) => ParsePass_calls hW HN.out)
  have HX4 := Lib.hid (fun W (hW : Below w.heap.size w W) => rParsePass_calls (h.below hW) HN.out)
  have hlit := own_lit w #[] [] rfl 0 rfl (by omega)
  have hbe := (Below.refl w.heap.size w).alloc (Nat.le_refl _) (.cells #[] 5)
  have hbs := h.below hbe
  have HBE := Lib.hid hbe
  have hnn : n ≤ 140737488355328 := by omega
  unfold ParsePassPost at HX4
  simp only [walkL_parse, walkP_parse] at HX1 HX3
  generalize parseL l = X at HX1 HX2
  generalize parseP l = Y at HX3 HX4
  obtain ⟨⟨f, name, y, data⟩, r⟩ := X
  obtain ⟨⟨v, ty, ha, pu, salt, iss, la⟩, rp⟩ := Y
  simp only at HX1 HX2 HX3 HX4
  clear h h1 hbe
  go_enter Try.func5, Try.ntmps5
  go_upto_region 4 with (at_builtin; refine app8 (.tmp 18) (.tmp 19) rfl rfl rfl hlit rfl hbs (by omega) HBE.out.size ?_; intro A1 c1 w1 ho1 hg1 hat1; rw [Nat.zero_add, List.nil_append] at ho1)
  have hB1 := HBE.out.grown hg1 HBE.out.size (fun k e => by cases e; exact Nat.le_refl _)
  clear hlit hbs hg1 hat1 hd1 hnn
  have h1l := (ho1.bs)
  go_upto_region 5 with (go_at_call 19; refine (HX1.out w1 A1 c1 h1l).mono ?_; rintro e w2 ⟨A2, m2, c2, A3, m3, c3, rr, rfl, ho2, ho3, rfl, hb2⟩)
  have HA3 := Lib.hid ho3.blk
  go_name_world w3 hw3
  have hLa := heap_alloc_new w2 (.cells #[.int .u8 (f.toNat : Int), .slice A2 m2 c2, .int .u32 y, .slice A3 m3 c3] 35)
  have hba := (Below.refl w2.heap.size w2).alloc (Nat.le_refl _) (.cells #[.int .u8 (f.toNat : Int), .slice A2 m2 c2, .int .u32 y, .slice A3 m3 c3] 35)
  rw [hw3] at hLa hba
  have HBL := Lib.hid hLa
  have hB12 := below_then hb2 hb2.size hba
  have hB3 := below_then hB1 hB1.size hB12
  have ho2' := ho2.below hba
  have ho3' := ho3.below hba
  clear hw3 hLa hba ho2 ho3 h1l
  go_upto_region 6 with (go_at_call 20; refine (HX2.out w3 hB3).mono ?_; rintro e w4 ⟨A4, m4, c4, A5, m5, c5, rr2, rfl, ho4, ho5, rfl, hb4⟩)
  go_name_world w5 hw5
  have hnw := heap_alloc_new w4 (.cells #[.int .u8 (f.toNat : Int), .slice A4 m4 c4, .int .u32 y, .slice A5 m5 c5] 38)
  have hba := (Below.refl w4.heap.size w4).alloc (Nat.le_refl _) (.cells #[.int .u8 (f.toNat : Int), .slice A4 m4 c4, .int .u32 y, .slice A5 m5 c5] 38)
  rw [hw5] at hnw hba
  have HBM := Lib.hid hnw
  have hbw := below_then hb4 hb4.size hba
  have HBL := Lib.hid ((hbw.block w2.heap.size (blk_lt HBL.out)).trans HBL.out)
  have hB12x := below_then hB12 hB12.size hbw
  have hB3x := below_then hB3 hB3.size hbw
  have ho2'x := ho2'.below hbw
  have ho3'x := ho3'.below hbw
  have ho4x := ho4.below hba
  have ho5x := ho5.below hba
  clear hw5 hnw hba hbw
  clear hB12 hB3 ho2' ho3' ho4 ho5 hb4
  go_upto_region 7 with (go_at_call 21; refine (HX3.out w5 A1 c1 (ho1.bs.below hB12x)).mono ?_; rintro e w6 ⟨A6, m6, c6, A7, m7, c7, rr3, rfl, ho6, ho7, rfl, hb6⟩)
  go_name_world w7 hw7
  have hnw := heap_alloc_new w6 (.cells #[.int .i64 v, .int .i64 ty, .int .i64 ha, .int .i64 pu, .slice A6 m6 c6, .slice A7 m7 c7, .bool la] 42)
  have hba := (Below.refl w6.heap.size w6).alloc (Nat.le_refl _) (.cells #[.int .i64 v, .int .i64 ty, .int .i64 ha, .int .i64 pu, .slice A6 m6 c6, .slice A7 m7 c7, .bool la] 42)
  rw [hw7] at hnw hba
  have HBP := Lib.hid hnw
  have hbw := below_then hb6 hb6.size hba
  have HBL := Lib.hid ((hbw.block w2.heap.size (blk_lt HBL.out)).trans HBL.out)
  have HBM := Lib.hid ((hbw.block w4.heap.size (blk_lt HBM.out)).trans HBM.out)
  have hB12xx := below_then hB12x hB12x.size hbw
  have hB3xx := below_then hB3x hB3x.size hbw
  have ho2'xx := ho2'x.below hbw
  have ho3'xx := ho3'x.below hbw
  have ho4xx := ho4x.below hbw
  have ho5xx := ho5x.below hbw
  have ho6x := ho6.below hba
  have ho7x := ho7.below hba
  clear hw7 hnw hba hbw
  clear hB12x hB3x ho2'x ho3'x ho4x ho5x ho6 ho7 hb6
  go_upto_region 8 with (go_at_call 22; refine (HX4.out w7 hB3xx).mono ?_; rintro e w8 ⟨A8, m8, c8, A9, m9, c9, rr4, rfl, ho8, ho9, rfl, hb8⟩)
  go_name_world w9 hw9
  have hnw := heap_alloc_new w8 (.cells #[.int .i64 v, .int .i64 ty, .int .i64 ha, .int .i64 pu, .slice A8 m8 c8, .slice A9 m9 c9, .bool la] 45)
  have hba := (Below.refl w8.heap.size w8).alloc (Nat.le_refl _) (.cells #[.int .i64 v, .int .i64 ty, .int .i64 ha, .int .i64 pu, .slice A8 m8 c8, .slice A9 m9 c9, .bool la] 45)
  rw [hw9] at hnw hba
  have HBQ := Lib.hid hnw
  have hbw := below_then hb8 hb8.size hba
  have HBL := Lib.hid ((hbw.block w2.heap.size (blk_lt HBL.out)).trans HBL.out)
  have HBM := Lib.hid ((hbw.block w4.heap.size (blk_lt HBM.out)).trans HBM.out)
  have HBP := Lib.hid ((hbw.block w6.heap.size (blk_lt HBP.out)).trans HBP.out)
  have hB12xxx := below_then hB12xx hB12xx.size hbw
  have hB3xxx := below_then hB3xx hB3xx.size hbw
  have ho2'xxx := ho2'xx.below hbw
  have ho3'xxx := ho3'xx.below hbw
  have ho4xxx := ho4xx.below hbw
  have ho5xxx := ho5xx.below hbw
  have ho6xx := ho6x.below hbw
  have ho7xx := ho7x.below hbw
  have ho8x := ho8.below hba
  have ho9x := ho9.below hba
  clear hw9 hnw hba hbw
  clear hB12xx hB3xx ho2'xx ho3'xx ho4xx ho5xx ho6x ho7x ho8 ho9 hb8 HX1 HX2 HX3 HX4
  have hE0 := (Below.refl w9.heap.size w9).drew
  go_cut [12] from 14 (fun s wx => s = .bool true ∧ Below w9.heap.size w9 wx)
  case first =>
    have hLd : w9.drew.heap[w2.heap.size]? = _ := HBL.out
    have hMd : w9.drew.heap[w4.heap.size]? = _ := HBM.out
    have hPd : w9.drew.heap[w6.heap.size]? = _ := HBP.out
    have hQd : w9.drew.heap[w8.heap.size]? = _ := HBQ.out
    have G0 := Lib.hid (show (fun w' => (w'.cell? ⟨w2.heap.size, 0, none⟩ = some (.int .u8 (f.toNat : Int)) ∧ w'.cell? ⟨w2.heap.size, 1, none⟩ = some (.slice A2 m2 c2) ∧ w'.cell? ⟨w2.heap.size, 2, none⟩ = some (.int .u32 y) ∧ w'.cell? ⟨w2.heap.size, 3, none⟩ = some (.slice A3 m3 c3)) ∧ (w'.cell? ⟨w4.heap.size, 0, none⟩ = some (.int .u8 (f.toNat : Int)) ∧ w'.cell? ⟨w4.heap.size, 1, none⟩ = some (.slice A4 m4 c4) ∧ w'.cell? ⟨w4.heap.size, 2, none⟩ = some (.int .u32 y) ∧ w'.cell? ⟨w4.heap.size, 3, none⟩ = some (.slice A5 m5 c5)) ∧ (w'.cell? ⟨w6.heap.size, 0, none⟩ = some (.int .i64 v) ∧ w'.cell? ⟨w6.heap.size, 1, none⟩ = some (.int .i64 ty) ∧ w'.cell? ⟨w6.heap.size, 2, none⟩ = some (.int .i64 ha) ∧ w'.cell? ⟨w6.heap.size, 3, none⟩ = some (.int .i64 pu) ∧ w'.cell? ⟨w6.heap.size, 4, none⟩ = some (.slice A6 m6 c6) ∧ w'.cell? ⟨w6.heap.size, 5, none⟩ = some (.slice A7 m7 c7) ∧ w'.cell? ⟨w6.heap.size, 6, none⟩ = some (.bool la)) ∧ (w'.cell? ⟨w8.heap.size, 0, none⟩ = some (.int .i64 v) ∧ w'.cell? ⟨w8.heap.size, 1, none⟩ = some (.int .i64 ty) ∧ w'.cell? ⟨w8.heap.size, 2, none⟩ = some (.int .i64 ha) ∧ w'.cell? ⟨w8.heap.size, 3, none⟩ = some (.int .i64 pu) ∧ w'.cell? ⟨w8.heap.size, 4, none⟩ = some (.slice A8 m8 c8) ∧ w'.cell? ⟨w8.heap.size, 5, none⟩ = some (.slice A9 m9 c9) ∧ w'.cell? ⟨w8.heap.size, 6, none⟩ = some (.bool la))) w9.drew from ⟨⟨blk_cell hLd 0, blk_cell hLd 1, blk_cell hLd 2, blk_cell hLd 3⟩, ⟨blk_cell hMd 0, blk_cell hMd 1, blk_cell hMd 2, blk_cell hMd 3⟩, ⟨blk_cell hPd 0, blk_cell hPd 1, blk_cell hPd 2, blk_cell hPd 3, blk_cell hPd 4, blk_cell hPd 5, blk_cell hPd 6⟩, ⟨blk_cell hQd 0, blk_cell hQd 1, blk_cell hQd 2, blk_cell hQd 3, blk_cell hQd 4, blk_cell hQd 5, blk_cell hQd 6⟩⟩)
    have hn2 := Lib.hid ho2'xxx.bs
    have hn3 := Lib.hid ho3'xxx.bs
    have hn4 := Lib.hid ho4xxx
    have hn5 := Lib.hid ho5xxx
    have hn6 := Lib.hid ho6xx.bs
    have hn7 := Lib.hid ho7xx.bs
    have hn8 := Lib.hid ho8x
    have hn9 := Lib.hid ho9x
    clear ho2'xxx ho3'xxx ho4xxx ho5xxx ho6xx ho7xx ho8x ho9x hB12xxx hB3xxx hLd hMd hPd hQd
    go_region_held (fun w' => (w'.cell? ⟨w2.heap.size, 0, none⟩ = some (.int .u8 (f.toNat : Int)) ∧ w'.cell? ⟨w2.heap.size, 1, none⟩ = some (.slice A2 m2 c2) ∧ w'.cell? ⟨w2.heap.size, 2, none⟩ = some (.int .u32 y) ∧ w'.cell? ⟨w2.heap.size, 3, none⟩ = some (.slice A3 m3 c3)) ∧ (w'.cell? ⟨w4.heap.size, 0, none⟩ = some (.int .u8 (f.toNat : Int)) ∧ w'.cell? ⟨w4.heap.size, 1, none⟩ = some (.slice A4 m4 c4) ∧ w'.cell? ⟨w4.heap.size, 2, none⟩ = some (.int .u32 y) ∧ w'.cell? ⟨w4.heap.size, 3, none⟩ = some (.slice A5 m5 c5)) ∧ (w'.cell? ⟨w6.heap.size, 0, none⟩ = some (.int .i64 v) ∧ w'.cell? ⟨w6.heap.size, 1, none⟩ = some (.int .i64 ty) ∧ w'.cell? ⟨w6.heap.size, 2, none⟩ = some (.int .i64 ha) ∧ w'.cell? ⟨w6.heap.size, 3, none⟩ = some (.int .i64 pu) ∧ w'.cell? ⟨w6.heap.size, 4, none⟩ = some (.slice A6 m6 c6) ∧ w'.cell? ⟨w6.heap.size, 5, none⟩ = some (.slice A7 m7 c7) ∧ w'.cell? ⟨w6.heap.size, 6, none⟩ = some (.bool la)) ∧ (w'.cell? ⟨w8.heap.size, 0, none⟩ = some (.int .i64 v) ∧ w'.cell? ⟨w8.heap.size, 1, none⟩ = some (.int .i64 ty) ∧ w'.cell? ⟨w8.heap.size, 2, none⟩ = some (.int .i64 ha) ∧ w'.cell? ⟨w8.heap.size, 3, none⟩ = some (.int .i64 pu) ∧ w'.cell? ⟨w8.heap.size, 4, none⟩ = some (.slice A8 m8 c8) ∧ w'.cell? ⟨w8.heap.size, 5, none⟩ = some (.slice A9 m9 c9) ∧ w'.cell? ⟨w8.heap.size, 6, none⟩ = some (.bool la))) (first | with_reducible exact G0.out | with_reducible exact T1.out | with_reducible exact T2.out | with_reducible exact T3.out | with_reducible exact T4.out) (first
      | (go_at_call 25; refine (SamePass_calls v ty ha pu la (hn6.out.below E3) (hn7.out.below E3) (hn8.out.below E3) (hn9.out.below E3)).mono ?_; rintro e e4 ⟨rfl, hb4⟩; have E4 := below_then E3 E3.size hb4; have T4 := Lib.hid (show (fun w' => (w'.cell? ⟨w2.heap.size, 0, none⟩ = some (.int .u8 (f.toNat : Int)) ∧ w'.cell? ⟨w2.heap.size, 1, none⟩ = some (.slice A2 m2 c2) ∧ w'.cell? ⟨w2.heap.size, 2, none⟩ = some (.int .u32 y) ∧ w'.cell? ⟨w2.heap.size, 3, none⟩ = some (.slice A3 m3 c3)) ∧ (w'.cell? ⟨w4.heap.size, 0, none⟩ = some (.int .u8 (f.toNat : Int)) ∧ w'.cell? ⟨w4.heap.size, 1, none⟩ = some (.slice A4 m4 c4) ∧ w'.cell? ⟨w4.heap.size, 2, none⟩ = some (.int .u32 y) ∧ w'.cell? ⟨w4.heap.size, 3, none⟩ = some (.slice A5 m5 c5)) ∧ (w'.cell? ⟨w6.heap.size, 0, none⟩ = some (.int .i64 v) ∧ w'.cell? ⟨w6.heap.size, 1, none⟩ = some (.int .i64 ty) ∧ w'.cell? ⟨w6.heap.size, 2, none⟩ = some (.int .i64 ha) ∧ w'.cell? ⟨w6.heap.size, 3, none⟩ = some (.int .i64 pu) ∧ w'.cell? ⟨w6.heap.size, 4, none⟩ = some (.slice A6 m6 c6) ∧ w'.cell? ⟨w6.heap.size, 5, none⟩ = some (.slice A7 m7 c7) ∧ w'.cell? ⟨w6.heap.size, 6, none⟩ = some (.bool la)) ∧ (w'.cell? ⟨w8.heap.size, 0, none⟩ = some (.int .i64 v) ∧ w'.cell? ⟨w8.heap.size, 1, none⟩ = some (.int .i64 ty) ∧ w'.cell? ⟨w8.heap.size, 2, none⟩ = some (.int .i64 ha) ∧ w'.cell? ⟨w8.heap.size, 3, none⟩ = some (.int .i64 pu) ∧ w'.cell? ⟨w8.heap.size, 4, none⟩ = some (.slice A8 m8 c8) ∧ w'.cell? ⟨w8.heap.size, 5, none⟩ = some (.slice A9 m9 c9) ∧ w'.cell? ⟨w8.heap.size, 6, none⟩ = some (.bool la))) e4 from ⟨⟨blk_cell ((E4.block w2.heap.size (blk_lt HBL.out)).trans HBL.out) 0, blk_cell ((E4.block w2.heap.size (blk_lt HBL.out)).trans HBL.out) 1, blk_cell ((E4.block w2.heap.size (blk_lt HBL.out)).trans HBL.out) 2, blk_cell ((E4.block w2.heap.size (blk_lt HBL.out)).trans HBL.out) 3⟩, ⟨blk_cell ((E4.block w4.heap.size (blk_lt HBM.out)).trans HBM.out) 0, blk_cell ((E4.block w4.heap.size (blk_lt HBM.out)).trans HBM.out) 1, blk_cell ((E4.block w4.heap.size (blk_lt HBM.out)).trans HBM.out) 2, blk_cell ((E4.block w4.heap.size (blk_lt HBM.out)).trans HBM.out) 3⟩, ⟨blk_cell ((E4.block w6.heap.size (blk_lt HBP.out)).trans HBP.out) 0, blk_cell ((E4.block w6.heap.size (blk_lt HBP.out)).trans HBP.out) 1, blk_cell ((E4.block w6.heap.size (blk_lt HBP.out)).trans HBP.out) 2, blk_cell ((E4.block w6.heap.size (blk_lt HBP.out)).trans HBP.out) 3, blk_cell ((E4.block w6.heap.size (blk_lt HBP.out)).trans HBP.out) 4, blk_cell ((E4.block w6.heap.size (blk_lt HBP.out)).trans HBP.out) 5, blk_cell ((E4.block w6.heap.size (blk_lt HBP.out)).trans HBP.out) 6⟩, ⟨blk_cell ((E4.block w8.heap.size (blk_lt HBQ.out)).trans HBQ.out) 0, blk_cell ((E4.block w8.heap.size (blk_lt HBQ.out)).trans HBQ.out) 1, blk_cell ((E4.block w8.heap.size (blk_lt HBQ.out)).trans HBQ.out) 2, blk_cell ((E4.block w8.heap.size (blk_lt HBQ.out)).trans HBQ.out) 3, blk_cell ((E4.block w8.heap.size (blk_lt HBQ.out)).trans HBQ.out) 4, blk_cell ((E4.block w8.heap.size (blk_lt HBQ.out)).trans HBQ.out) 5, blk_cell ((E4.block w8.heap.size (blk_lt HBQ.out)).trans HBQ.out) 6⟩⟩))
      | (go_at_call 26; refine (pass_calls v ty ha pu A6 m6 c6 A7 m7 c7 la e2).mono ?_; rintro e e3 ⟨rfl, hb3⟩; have E3 := below_then E2 E2.size hb3; have T3 := Lib.hid (show (fun w' => (w'.cell? ⟨w2.heap.size, 0, none⟩ = some (.int .u8 (f.toNat : Int)) ∧ w'.cell? ⟨w2.heap.size, 1, none⟩ = some (.slice A2 m2 c2) ∧ w'.cell? ⟨w2.heap.size, 2, none⟩ = some (.int .u32 y) ∧ w'.cell? ⟨w2.heap.size, 3, none⟩ = some (.slice A3 m3 c3)) ∧ (w'.cell? ⟨w4.heap.size, 0, none⟩ = some (.int .u8 (f.toNat : Int)) ∧ w'.cell? ⟨w4.heap.size, 1, none⟩ = some (.slice A4 m4 c4) ∧ w'.cell? ⟨w4.heap.size, 2, none⟩ = some (.int .u32 y) ∧ w'.cell? ⟨w4.heap.size, 3, none⟩ = some (.slice A5 m5 c5)) ∧ (w'.cell? ⟨w6.heap.size, 0, none⟩ = some (.int .i64 v) ∧ w'.cell? ⟨w6.heap.size, 1, none⟩ = some (.int .i64 ty) ∧ w'.cell? ⟨w6.heap.size, 2, none⟩ = some (.int .i64 ha) ∧ w'.cell? ⟨w6.heap.size, 3, none⟩ = some (.int .i64 pu) ∧ w'.cell? ⟨w6.heap.size, 4, none⟩ = some (.slice A6 m6 c6) ∧ w'.cell? ⟨w6.heap.size, 5, none⟩ = some (.slice A7 m7 c7) ∧ w'.cell? ⟨w6.heap.size, 6, none⟩ = some (.bool la)) ∧ (w'.cell? ⟨w8.heap.size, 0, none⟩ = some (.int .i64 v) ∧ w'.cell? ⟨w8.heap.size, 1, none⟩ = some (.int .i64 ty) ∧ w'.cell? ⟨w8.heap.size, 2, none⟩ = some (.int .i64 ha) ∧ w'.cell? ⟨w8.heap.size, 3, none⟩ = some (.int .i64 pu) ∧ w'.cell? ⟨w8.heap.size, 4, none⟩ = some (.slice A8 m8 c8) ∧ w'.cell? ⟨w8.heap.size, 5, none⟩ = some (.slice A9 m9 c9) ∧ w'.cell? ⟨w8.heap.size, 6, none⟩ = some (.bool la))) e3 from ⟨⟨blk_cell ((E3.block w2.heap.size (blk_lt HBL.out)).trans HBL.out) 0, blk_cell ((E3.block w2.heap.size (blk_lt HBL.out)).trans HBL.out) 1, blk_cell ((E3.block w2.heap.size (blk_lt HBL.out)).trans HBL.out) 2, blk_cell ((E3.block w2.heap.size (blk_lt HBL.out)).trans HBL.out) 3⟩, ⟨blk_cell ((E3.block w4.heap.size (blk_lt HBM.out)).trans HBM.out) 0, blk_cell ((E3.block w4.heap.size (blk_lt HBM.out)).trans HBM.out) 1, blk_cell ((E3.block w4.heap.size (blk_lt HBM.out)).trans HBM.out) 2, blk_cell ((E3.block w4.heap.size (blk_lt HBM.out)).trans HBM.out) 3⟩, ⟨blk_cell ((E3.block w6.heap.size (blk_lt HBP.out)).trans HBP.out) 0, blk_cell ((E3.block w6.heap.size (blk_lt HBP.out)).trans HBP.out) 1, blk_cell ((E3.block w6.heap.size (blk_lt HBP.out)).trans HBP.out) 2, blk_cell ((E3.block w6.heap.size (blk_lt HBP.out)).trans HBP.out) 3, blk_cell ((E3.block w6.heap.size (blk_lt HBP.out)).trans HBP.out) 4, blk_cell ((E3.block w6.heap.size (blk_lt HBP.out)).trans HBP.out) 5, blk_cell ((E3.block w6.heap.size (blk_lt HBP.out)).trans HBP.out) 6⟩, ⟨blk_cell ((E3.block w8.heap.size (blk_lt HBQ.out)).trans HBQ.out) 0, blk_cell ((E3.block w8.heap.size (blk_lt HBQ.out)).trans HBQ.out) 1, blk_cell ((E3.block w8.heap.size (blk_lt HBQ.out)).trans HBQ.out) 2, blk_cell ((E3.block w8.heap.size (blk_lt HBQ.out)).trans HBQ.out) 3, blk_cell ((E3.block w8.heap.size (blk_lt HBQ.out)).trans HBQ.out) 4, blk_cell ((E3.block w8.heap.size (blk_lt HBQ.out)).trans HBQ.out) 5, blk_cell ((E3.block w8.heap.size (blk_lt HBQ.out)).trans HBQ.out) 6⟩⟩))
      | (go_at_call 23; refine (Same24_calls (f.toNat : Int) y (hn2.out.below E1) (hn3.out.below E1) (hn4.out.below E1) (hn5.out.below E1)).mono ?_; rintro e e2 ⟨rfl, hb2⟩; have E2 := below_then E1 E1.size hb2; have T2 := Lib.hid (show (fun w' => (w'.cell? ⟨w2.heap.size, 0, none⟩ = some (.int .u8 (f.toNat : Int)) ∧ w'.cell? ⟨w2.heap.size, 1, none⟩ = some (.slice A2 m2 c2) ∧ w'.cell? ⟨w2.heap.size, 2, none⟩ = some (.int .u32 y) ∧ w'.cell? ⟨w2.heap.size, 3, none⟩ = some (.slice A3 m3 c3)) ∧ (w'.cell? ⟨w4.heap.size, 0, none⟩ = some (.int .u8 (f.toNat : Int)) ∧ w'.cell? ⟨w4.heap.size, 1, none⟩ = some (.slice A4 m4 c4) ∧ w'.cell? ⟨w4.heap.size, 2, none⟩ = some (.int .u32 y) ∧ w'.cell? ⟨w4.heap.size, 3, none⟩ = some (.slice A5 m5 c5)) ∧ (w'.cell? ⟨w6.heap.size, 0, none⟩ = some (.int .i64 v) ∧ w'.cell? ⟨w6.heap.size, 1, none⟩ = some (.int .i64 ty) ∧ w'.cell? ⟨w6.heap.size, 2, none⟩ = some (.int .i64 ha) ∧ w'.cell? ⟨w6.heap.size, 3, none⟩ = some (.int .i64 pu) ∧ w'.cell? ⟨w6.heap.size, 4, none⟩ = some (.slice A6 m6 c6) ∧ w'.cell? ⟨w6.heap.size, 5, none⟩ = some (.slice A7 m7 c7) ∧ w'.cell? ⟨w6.heap.size, 6, none⟩ = some (.bool la)) ∧ (w'.cell? ⟨w8.heap.size, 0, none⟩ = some (.int .i64 v) ∧ w'.cell? ⟨w8.heap.size, 1, none⟩ = some (.int .i64 ty) ∧ w'.cell? ⟨w8.heap.size, 2, none⟩ = some (.int .i64 ha) ∧ w'.cell? ⟨w8.heap.size, 3, none⟩ = some (.int .i64 pu) ∧ w'.cell? ⟨w8.heap.size, 4, none⟩ = some (.slice A8 m8 c8) ∧ w'.cell? ⟨w8.heap.size, 5, none⟩ = some (.slice A9 m9 c9) ∧ w'.cell? ⟨w8.heap.size, 6, none⟩ = some (.bool la))) e2 from ⟨⟨blk_cell ((E2.block w2.heap.size (blk_lt HBL.out)).trans HBL.out) 0, blk_cell ((E2.block w2.heap.size (blk_lt HBL.out)).trans HBL.out) 1, blk_cell ((E2.block w2.heap.size (blk_lt HBL.out)).trans HBL.out) 2, blk_cell ((E2.block w2.heap.size (blk_lt HBL.out)).trans HBL.out) 3⟩, ⟨blk_cell ((E2.block w4.heap.size (blk_lt HBM.out)).trans HBM.out) 0, blk_cell ((E2.block w4.heap.size (blk_lt HBM.out)).trans HBM.out) 1, blk_cell ((E2.block w4.heap.size (blk_lt HBM.out)).trans HBM.out) 2, blk_cell ((E2.block w4.heap.size (blk_lt HBM.out)).trans HBM.out) 3⟩, ⟨blk_cell ((E2.block w6.heap.size (blk_lt HBP.out)).trans HBP.out) 0, blk_cell ((E2.block w6.heap.size (blk_lt HBP.out)).trans HBP.out) 1, blk_cell ((E2.block w6.heap.size (blk_lt HBP.out)).trans HBP.out) 2, blk_cell ((E2.block w6.heap.size (blk_lt HBP.out)).trans HBP.out) 3, blk_cell ((E2.block w6.heap.size (blk_lt HBP.out)).trans HBP.out) 4, blk_cell ((E2.block w6.heap.size (blk_lt HBP.out)).trans HBP.out) 5, blk_cell ((E2.block w6.heap.size (blk_lt HBP.out)).trans HBP.out) 6⟩, ⟨blk_cell ((E2.block w8.heap.size (blk_lt HBQ.out)).trans HBQ.out) 0, blk_cell ((E2.block w8.heap.size (blk_lt HBQ.out)).trans HBQ.out) 1, blk_cell ((E2.block w8.heap.size (blk_lt HBQ.out)).trans HBQ.out) 2, blk_cell ((E2.block w8.heap.size (blk_lt HBQ.out)).trans HBQ.out) 3, blk_cell ((E2.block w8.heap.size (blk_lt HBQ.out)).trans HBQ.out) 4, blk_cell ((E2.block w8.heap.size (blk_lt HBQ.out)).trans HBQ.out) 5, blk_cell ((E2.block w8.heap.size (blk_lt HBQ.out)).trans HBQ.out) 6⟩⟩))
      | (go_at_call 24; refine (lit_calls (f.toNat : Int) A2 m2 c2 y A3 m3 c3 w9.drew).mono ?_; rintro e e1 ⟨rfl, hb1⟩; have E1 := below_then hE0 hE0.size hb1; have T1 := Lib.hid (show (fun w' => (w'.cell? ⟨w2.heap.size, 0, none⟩ = some (.int .u8 (f.toNat : Int)) ∧ w'.cell? ⟨w2.heap.size, 1, none⟩ = some (.slice A2 m2 c2) ∧ w'.cell? ⟨w2.heap.size, 2, none⟩ = some (.int .u32 y) ∧ w'.cell? ⟨w2.heap.size, 3, none⟩ = some (.slice A3 m3 c3)) ∧ (w'.cell? ⟨w4.heap.size, 0, none⟩ = some (.int .u8 (f.toNat : Int)) ∧ w'.cell? ⟨w4.heap.size, 1, none⟩ = some (.slice A4 m4 c4) ∧ w'.cell? ⟨w4.heap.size, 2, none⟩ = some (.int .u32 y) ∧ w'.cell? ⟨w4.heap.size, 3, none⟩ = some (.slice A5 m5 c5)) ∧ (w'.cell? ⟨w6.heap.size, 0, none⟩ = some (.int .i64 v) ∧ w'.cell? ⟨w6.heap.size, 1, none⟩ = some (.int .i64 ty) ∧ w'.cell? ⟨w6.heap.size, 2, none⟩ = some (.int .i64 ha) ∧ w'.cell? ⟨w6.heap.size, 3, none⟩ = some (.int .i64 pu) ∧ w'.cell? ⟨w6.heap.size, 4, none⟩ = some (.slice A6 m6 c6) ∧ w'.cell? ⟨w6.heap.size, 5, none⟩ = some (.slice A7 m7 c7) ∧ w'.cell? ⟨w6.heap.size, 6, none⟩ = some (.bool la)) ∧ (w'.cell? ⟨w8.heap.size, 0, none⟩ = some (.int .i64 v) ∧ w'.cell? ⟨w8.heap.size, 1, none⟩ = some (.int .i64 ty) ∧ w'.cell? ⟨w8.heap.size, 2, none⟩ = some (.int .i64 ha) ∧ w'.cell? ⟨w8.heap.size, 3, none⟩ = some (.int .i64 pu) ∧ w'.cell? ⟨w8.heap.size, 4, none⟩ = some (.slice A8 m8 c8) ∧ w'.cell? ⟨w8.heap.size, 5, none⟩ = some (.slice A9 m9 c9) ∧ w'.cell? ⟨w8.heap.size, 6, none⟩ = some (.bool la))) e1 from ⟨⟨blk_cell ((E1.block w2.heap.size (blk_lt HBL.out)).trans HBL.out) 0, blk_cell ((E1.block w2.heap.size (blk_lt HBL.out)).trans HBL.out) 1, blk_cell ((E1.block w2.heap.size (blk_lt HBL.out)).trans HBL.out) 2, blk_cell ((E1.block w2.heap.size (blk_lt HBL.out)).trans HBL.out) 3⟩, ⟨blk_cell ((E1.block w4.heap.size (blk_lt HBM.out)).trans HBM.out) 0, blk_cell ((E1.block w4.heap.size (blk_lt HBM.out)).trans HBM.out) 1, blk_cell ((E1.block w4.heap.size (blk_lt HBM.out)).trans HBM.out) 2, blk_cell ((E1.block w4.heap.size (blk_lt HBM.out)).trans HBM.out) 3⟩, ⟨blk_cell ((E1.block w6.heap.size (blk_lt HBP.out)).trans HBP.out) 0, blk_cell ((E1.block w6.heap.size (blk_lt HBP.out)).trans HBP.out) 1, blk_cell ((E1.block w6.heap.size (blk_lt HBP.out)).trans HBP.out) 2, blk_cell ((E1.block w6.heap.size (blk_lt HBP.out)).trans HBP.out) 3, blk_cell ((E1.block w6.heap.size (blk_lt HBP.out)).trans HBP.out) 4, blk_cell ((E1.block w6.heap.size (blk_lt HBP.out)).trans HBP.out) 5, blk_cell ((E1.block w6.heap.size (blk_lt HBP.out)).trans HBP.out) 6⟩, ⟨blk_cell ((E1.block w8.heap.size (blk_lt HBQ.out)).trans HBQ.out) 0, blk_cell ((E1.block w8.heap.size (blk_lt HBQ.out)).trans HBQ.out) 1, blk_cell ((E1.block w8.heap.size (blk_lt HBQ.out)).trans HBQ.out) 2, blk_cell ((E1.block w8.heap.size (blk_lt HBQ.out)).trans HBQ.out) 3, blk_cell ((E1.block w8.heap.size (blk_lt HBQ.out)).trans HBQ.out) 4, blk_cell ((E1.block w8.heap.size (blk_lt HBQ.out)).trans HBQ.out) 5, blk_cell ((E1.block w8.heap.size (blk_lt HBQ.out)).trans HBQ.out) 6⟩⟩)))
    clear T1 T2 T3 T4 hb1 hb2 hb3 hb4
    go_wp2_with fail
    go_meet
    exact ⟨rfl, E4⟩
  obtain ⟨rfl, hbc⟩ := hcut
  have hB13 := below_then hB12xxx hB12xxx.size hbc
  have hBLc := (hbc.block w2.heap.size (blk_lt HBL.out)).trans HBL.out
  have ho3c := ho3'xxx.below hbc
  have hw12 := hb2.size
  have HBw := Lib.hid hB1
  have Ho1 := Lib.hid ho1
  have hm3 := ho3c.bs.cap
  unfold maxLen at hm3
  obtain ⟨hm3a, hm3b⟩ := hm3
  clear hB12xxx hbc ho3'xxx ho2'xxx ho4xxx ho5xxx ho6xx ho7xx ho8x ho9x HBL HBM HBP HBQ hE0 hB3xxx hB1 ho1 hb2
  go_wp2_with fail
  go_loopw [13] (fun i wr => ∃ (k : Nat) (dl : List UInt8), k ≤ m3 ∧ i = .int .i64 (k : Int) ∧ Own wr w1.heap.size A3 m3 c3 dl ∧ wr.heap[w2.heap.size]? = some (.cells #[.int .u8 (f.toNat : Int), .slice A2 m2 c2, .int .u32 y, .slice A3 m3 c3] 35 (0, 0)) ∧ Below w1.heap.size w1 wr) (fun i _ => m3 - (intOf i).toNat)
  case atStart => exact ⟨0, data, Nat.zero_le _, rfl, ho3c, hBLc, hB13⟩
  case round =>
    obtain ⟨k, dl, hk, rfl, hok, hLk, hbk⟩ := hrel
    have k3 : wr.cell? ⟨w2.heap.size, 3, none⟩ = some (.slice A3 m3 c3) := blk_cell hLk 3
    by_cases hlt : k < m3
    · have hkd : k < dl.length := by rw [hok.2]; exact hlt
      obtain ⟨g, hA3, hBg, hgl, hcell, hfr, hset⟩ := hok.at_ (k := k) hkd
      rw [hA3] at k3
      have hne : ¬ w2.heap.size = g := fun e => by
        have := (HA3.out _ hA3).2
        simp only at this
        omega
      generalize dl[k] = old at hcell
      have hL2 : (wr.setCell ⟨g, k, none⟩ (.int .u8 91)).heap[w2.heap.size]? = _ := (Below.heap_setCell wr ⟨g, k, none⟩ (.int .u8 91) w2.heap.size hne).trans hLk
      have hb2 := hbk.setCell (p := ⟨g, k, none⟩) hBg (.int .u8 91)
      have HS := Lib.hid (hset 91)
      have HL2 := Lib.hid hL2
      have HB2 := Lib.hid hb2
      have hi : (k : Int) < (m3 : Int) := by omega
      have HA4 := Lib.hid hA3
      clear hset hL2 hb2 hbk hLk hok hkd hA3
      go_wp2
      go_roundw
      case rel => exact ⟨k + 1, dl.set k 91, by omega, by go_num, HS.out, HL2.out, HB2.out⟩
      case measure => simp [intOf]; omega
    · have hi : ¬ (k : Int) < (m3 : Int) := by omega
      have HK := Lib.hid hbk
      clear hLk hok hbk hlt hk hm3a hm3b ho3c hBLc hB13
      go_wp2_with (go_at_call 18; refine (HAl.out _).mono ?_; rintro e w20 ⟨rfl, hb20⟩; have hB20 := below_then HK.out HK.out.size hb20; have s1 := (Ho1.out.bs.below hB20).str; have hB21 := below_then HBw.out HBw.out.size hB20; have s2 := (HH.out.below hB21).str)
      go_ret
      exact ⟨rfl, hB21⟩
end Go.Proofs.Ytegbncngencfnaa
