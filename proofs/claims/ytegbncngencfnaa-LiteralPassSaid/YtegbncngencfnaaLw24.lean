/- Layer 24's statements: what is alive, and the values handed on. -/
import Derived.Test.YtegbncngencfnaaLb
import Derived.Test.YtegbncngencfnaaLe
import Derived.Lib.SlBytesConst
namespace Go.Proofs.Ytegbncngencfnaa
open Go.RowKit

set_option maxRecDepth 100000 in
theorem lit_calls (x : Int) (An : Option Addr) (nn cn : Nat) (d : Int) (Ad : Option Addr) (nd cd : Nat) (w : World) :
    Calls Try.prog 24 #[.agg #[.int .u8 x, .slice An nn cn, .int .u32 d, .slice Ad nd cd]] w fun e w' => e = .returned (.agg #[.int .u8 x, .slice An nn cn, .int .u32 d, .slice Ad nd cd]) ∧ Below w.heap.size w w' := by
  have hnew := heap_alloc_new w (.cells #[.int .u8 x, .slice An nn cn, .int .u32 d, .slice Ad nd cd] 35)
  have hba := (Below.refl w.heap.size w).alloc (Nat.le_refl _) (.cells #[.int .u8 x, .slice An nn cn, .int .u32 d, .slice Ad nd cd] 35)
  generalize hw1 : w.alloc (.cells #[.int .u8 x, .slice An nn cn, .int .u32 d, .slice Ad nd cd] 35) = w1 at hnew hba
  have hlt := blk_lt hnew
  have hba2 := (Below.refl w1.heap.size w1).alloc (Nat.le_refl _) (.cells #[.int .u8 0, .slice none 0 0, .int .u32 0, .slice none 0 0] 38)
  have hnw := heap_alloc_new w1 (.cells #[.int .u8 0, .slice none 0 0, .int .u32 0, .slice none 0 0] 38)
  have hn2 := (hba2.block w.heap.size hlt).trans hnew
  generalize hw2 : w1.alloc (.cells #[.int .u8 0, .slice none 0 0, .int .u32 0, .slice none 0 0] 38) = w2 at hba2 hnw hn2
  have hne1 : ¬ w.heap.size = w1.heap.size := Nat.ne_of_lt hlt
  have hne2 : ¬ w1.heap.size = w.heap.size := fun e => hne1 e.symm
  have hB2 := below_then hba hba.size hba2
  have c0 : w2.cell? ⟨w.heap.size, 0, none⟩ = some (.int .u8 x) := blk_cell hn2 0
  have f0 := blk_frozen hnw 0
  have r0 : w2.cell? ⟨w1.heap.size, 0, none⟩ = some (.int .u8 0) := blk_cell hnw 0
  have c1 : w2.cell? ⟨w.heap.size, 1, none⟩ = some (.slice An nn cn) := blk_cell hn2 1
  have f1 := blk_frozen hnw 1
  have r1 : w2.cell? ⟨w1.heap.size, 1, none⟩ = some (.slice none 0 0) := blk_cell hnw 1
  have c2 : w2.cell? ⟨w.heap.size, 2, none⟩ = some (.int .u32 d) := blk_cell hn2 2
  have f2 := blk_frozen hnw 2
  have r2 : w2.cell? ⟨w1.heap.size, 2, none⟩ = some (.int .u32 0) := blk_cell hnw 2
  have c3 : w2.cell? ⟨w.heap.size, 3, none⟩ = some (.slice Ad nd cd) := blk_cell hn2 3
  have f3 := blk_frozen hnw 3
  have r3 : w2.cell? ⟨w1.heap.size, 3, none⟩ = some (.slice none 0 0) := blk_cell hnw 3
  have hb := setRow_block (k := w1.heap.size) [.int .u8 x, .slice An nn cn, .int .u32 d, .slice Ad nd cd] 0 hnw
  have hgR := setRow_grown (k := w1.heap.size) [.int .u8 x, .slice An nn cn, .int .u32 d, .slice Ad nd cd] w2 0
  have hBR := hB2.grown hgR hB2.size (fun k e => by cases e; exact hba.size)
  have u0 := blk_cell hb 0
  have u1 := blk_cell hb 1
  have u2 := blk_cell hb 2
  have u3 := blk_cell hb 3
  simp only [setRow, setArr, Nat.reduceAdd, Nat.zero_add] at u0 u1 u2 u3
  have Q0 := Lib.hid u0
  have Q1 := Lib.hid u1
  have Q2 := Lib.hid u2
  have Q3 := Lib.hid u3
  have HBR := Lib.hid hBR
  clear hb hgR hBR hnew hba hba2 hnw hn2 hB2 u0 u1 u2 u3
  go_enter Try.func24, Try.ntmps24
  go_wp2
  refine bodyPost_ret (v := .agg #[.int .u8 x, .slice An nn cn, .int .u32 d, .slice Ad nd cd]) (by simp [results, Try.f24, go_sem, Q0.out, Q1.out, Q2.out, Q3.out]) rfl ?_
  exact ⟨rfl, HBR.out⟩

set_option maxRecDepth 100000 in
theorem pass_calls (v ty ha pu : Int) (As : Option Addr) (ns cs : Nat) (Ai : Option Addr) (ni ci : Nat) (b : Bool) (w : World) :
    Calls Try.prog 26 #[.agg #[.int .i64 v, .int .i64 ty, .int .i64 ha, .int .i64 pu, .slice As ns cs, .slice Ai ni ci, .bool b]] w fun e w' => e = .returned (.agg #[.int .i64 v, .int .i64 ty, .int .i64 ha, .int .i64 pu, .slice As ns cs, .slice Ai ni ci, .bool b]) ∧ Below w.heap.size w w' := by
  have hnew := heap_alloc_new w (.cells #[.int .i64 v, .int .i64 ty, .int .i64 ha, .int .i64 pu, .slice As ns cs, .slice Ai ni ci, .bool b] 42)
  have hba := (Below.refl w.heap.size w).alloc (Nat.le_refl _) (.cells #[.int .i64 v, .int .i64 ty, .int .i64 ha, .int .i64 pu, .slice As ns cs, .slice Ai ni ci, .bool b] 42)
  generalize hw1 : w.alloc (.cells #[.int .i64 v, .int .i64 ty, .int .i64 ha, .int .i64 pu, .slice As ns cs, .slice Ai ni ci, .bool b] 42) = w1 at hnew hba
  have hlt := blk_lt hnew
  have hba2 := (Below.refl w1.heap.size w1).alloc (Nat.le_refl _) (.cells #[.int .i64 0, .int .i64 0, .int .i64 0, .int .i64 0, .slice none 0 0, .slice none 0 0, .bool false] 45)
  have hnw := heap_alloc_new w1 (.cells #[.int .i64 0, .int .i64 0, .int .i64 0, .int .i64 0, .slice none 0 0, .slice none 0 0, .bool false] 45)
  have hn2 := (hba2.block w.heap.size hlt).trans hnew
  generalize hw2 : w1.alloc (.cells #[.int .i64 0, .int .i64 0, .int .i64 0, .int .i64 0, .slice none 0 0, .slice none 0 0, .bool false] 45) = w2 at hba2 hnw hn2
  have hne1 : ¬ w.heap.size = w1.heap.size := Nat.ne_of_lt hlt
  have hne2 : ¬ w1.heap.size = w.heap.size := fun e => hne1 e.symm
  have hB2 := below_then hba hba.size hba2
  have c0 : w2.cell? ⟨w.heap.size, 0, none⟩ = some (.int .i64 v) := blk_cell hn2 0
  have f0 := blk_frozen hnw 0
  have r0 : w2.cell? ⟨w1.heap.size, 0, none⟩ = some (.int .i64 0) := blk_cell hnw 0
  have c1 : w2.cell? ⟨w.heap.size, 1, none⟩ = some (.int .i64 ty) := blk_cell hn2 1
  have f1 := blk_frozen hnw 1
  have r1 : w2.cell? ⟨w1.heap.size, 1, none⟩ = some (.int .i64 0) := blk_cell hnw 1
  have c2 : w2.cell? ⟨w.heap.size, 2, none⟩ = some (.int .i64 ha) := blk_cell hn2 2
  have f2 := blk_frozen hnw 2
  have r2 : w2.cell? ⟨w1.heap.size, 2, none⟩ = some (.int .i64 0) := blk_cell hnw 2
  have c3 : w2.cell? ⟨w.heap.size, 3, none⟩ = some (.int .i64 pu) := blk_cell hn2 3
  have f3 := blk_frozen hnw 3
  have r3 : w2.cell? ⟨w1.heap.size, 3, none⟩ = some (.int .i64 0) := blk_cell hnw 3
  have c4 : w2.cell? ⟨w.heap.size, 4, none⟩ = some (.slice As ns cs) := blk_cell hn2 4
  have f4 := blk_frozen hnw 4
  have r4 : w2.cell? ⟨w1.heap.size, 4, none⟩ = some (.slice none 0 0) := blk_cell hnw 4
  have c5 : w2.cell? ⟨w.heap.size, 5, none⟩ = some (.slice Ai ni ci) := blk_cell hn2 5
  have f5 := blk_frozen hnw 5
  have r5 : w2.cell? ⟨w1.heap.size, 5, none⟩ = some (.slice none 0 0) := blk_cell hnw 5
  have c6 : w2.cell? ⟨w.heap.size, 6, none⟩ = some (.bool b) := blk_cell hn2 6
  have f6 := blk_frozen hnw 6
  have r6 : w2.cell? ⟨w1.heap.size, 6, none⟩ = some (.bool false) := blk_cell hnw 6
  have hb := setRow_block (k := w1.heap.size) [.int .i64 v, .int .i64 ty, .int .i64 ha, .int .i64 pu, .slice As ns cs, .slice Ai ni ci, .bool b] 0 hnw
  have hgR := setRow_grown (k := w1.heap.size) [.int .i64 v, .int .i64 ty, .int .i64 ha, .int .i64 pu, .slice As ns cs, .slice Ai ni ci, .bool b] w2 0
  have hBR := hB2.grown hgR hB2.size (fun k e => by cases e; exact hba.size)
  have u0 := blk_cell hb 0
  have u1 := blk_cell hb 1
  have u2 := blk_cell hb 2
  have u3 := blk_cell hb 3
  have u4 := blk_cell hb 4
  have u5 := blk_cell hb 5
  have u6 := blk_cell hb 6
  simp only [setRow, setArr, Nat.reduceAdd, Nat.zero_add] at u0 u1 u2 u3 u4 u5 u6
  have Q0 := Lib.hid u0
  have Q1 := Lib.hid u1
  have Q2 := Lib.hid u2
  have Q3 := Lib.hid u3
  have Q4 := Lib.hid u4
  have Q5 := Lib.hid u5
  have Q6 := Lib.hid u6
  have HBR := Lib.hid hBR
  clear hb hgR hBR hnew hba hba2 hnw hn2 hB2 u0 u1 u2 u3 u4 u5 u6
  go_enter Try.func26, Try.ntmps26
  go_wp2
  refine bodyPost_ret (v := .agg #[.int .i64 v, .int .i64 ty, .int .i64 ha, .int .i64 pu, .slice As ns cs, .slice Ai ni ci, .bool b]) (by simp [results, Try.f26, go_sem, Q0.out, Q1.out, Q2.out, Q3.out, Q4.out, Q5.out, Q6.out]) rfl ?_
  exact ⟨rfl, HBR.out⟩

theorem bs_mark (w : World) (cs : Array Value) (l : List UInt8) (f : Nat × Nat) (hcs : cs.toList = bvs l) (m : Nat) (hm : l.length = m) (hm2 : m ≤ 140737488355328) : Bs (w.alloc (.cells cs 5 f)) (some ⟨w.heap.size, 0, none⟩) m m l := by
  have hnew := heap_alloc_new w (.cells cs 5 f)
  refine ⟨⟨by simp [hm], by simp only [maxLen]; omega, fun hn => ⟨_, rfl, by simp, fun j u hu => ?_⟩⟩, hm⟩
  have := cell_of_row (w.alloc (.cells cs 5 f)) w.heap.size j cs 5 f hnew
  have he : (⟨w.heap.size, 0, none⟩ : Addr).add j = ⟨w.heap.size, j, none⟩ := by
    unfold Addr.add; split
    · rename_i h0; rw [h0]
    · simp
  rw [he, this, ← Array.getElem?_toList, hcs]
  exact hu

theorem emit_one : emitL 98 [] 0 [120] = ([98, 0, 0, 0, 0, 0, 120], 0) := by decide
theorem parse_one : walkL [120] = ((0, [], 0, []), 3) := by decide
theorem pass_one : walkP [4] = ((0, 0, 0, 0, [], [], false), 3) := by rfl
theorem str_lit : strOf [98, 0, 0, 0, 0, 0, 120] = ⟨#[98, 0, 0, 0, 0, 0, 120]⟩ := rfl

set_option maxRecDepth 100000 in
set_option maxHeartbeats 1600000 in
theorem alive24_calls (w : World) :
    Calls Try.prog 18 #[] w fun e w' => e = .returned (.bool true) ∧ Below w.heap.size w w' := by
  have kc := fun (w : World) (C : Array Value) (n c : Nat) => Lib.run_convert_bytes_const (P := Try.prog) w 22 5 C n c Try.underlying22 Try.underlying5
  have hlit := bs_mark w #[.int .u8 120] [120] (1, 2) rfl 1 rfl (by omega)
  have hB0 := (Below.refl w.heap.size w).alloc (Nat.le_refl _) (.cells #[.int .u8 120] 5 (1, 2))
  go_enter Try.func18, Try.ntmps18
  go_wp2_with fail
  generalize hw0 : w.alloc (.cells #[.int .u8 120] 5 (1, 2)) = w0 at hlit hB0 ⊢
  clear hw0
  have hE : Calls Try.prog 27 #[.agg #[.int .u8 98, .slice none 0 0, .int .u32 0, .slice (some ⟨w.heap.size, 0, none⟩) 1 1]] w0 _ := Emit24_calls 98 (Bs.nil_ w0) 0 (by omega) hlit (by omega)
  rw [emit_one] at hE
  refine hE.mono ?_
  rintro e w1 ⟨A1, m1, c1, r1, rfl, ho1, hr1, hb1⟩
  obtain rfl : r1 = 0 := hr1
  have hB1 := below_then hB0 hB0.size hb1
  have hlit1 := bs_mark w1 #[.int .u8 120] [120] (1, 2) rfl 1 rfl (by omega)
  have hb2 := (Below.refl w1.heap.size w1).alloc (Nat.le_refl _) (.cells #[.int .u8 120] 5 (1, 2))
  clear hlit hb1 hE hB0
  go_wp2_with fail
  generalize hw2 : w1.alloc (.cells #[.int .u8 120] 5 (1, 2)) = w2 at hlit1 hb2 ⊢
  clear hw2
  have ho2 := ho1.below hb2
  have hB2 := below_then hB1 hB1.size hb2
  clear ho1 hb2 hB1
  have hP := Parse24_calls hlit1 (by omega)
  rw [parse_one] at hP
  refine hP.mono ?_
  rintro e w3 ⟨A3, m3, c3, A4, m4, c4, r3, rfl, _, _, hr3, hb3⟩
  obtain rfl : r3 = 3 := hr3
  have ho3 := ho2.below hb3
  have hB3 := below_then hB2 hB2.size hb3
  clear ho2 hB2 hb3 hP hlit1
  have hba := (Below.refl w3.heap.size w3).alloc (Nat.le_refl _) (.cells #[.int .u8 0, .slice none 0 0, .int .u32 0, .slice none 0 0] 35)
  have hnw := heap_alloc_new w3 (.cells #[.int .u8 0, .slice none 0 0, .int .u32 0, .slice none 0 0] 35)
  generalize hv : w3.alloc (.cells #[.int .u8 0, .slice none 0 0, .int .u32 0, .slice none 0 0] 35) = v4 at hba hnw
  have f0 := blk_frozen hnw 0
  have r0 : v4.cell? ⟨w3.heap.size, 0, none⟩ = some (.int .u8 0) := blk_cell hnw 0
  have f1 := blk_frozen hnw 1
  have r1 : v4.cell? ⟨w3.heap.size, 1, none⟩ = some (.slice none 0 0) := blk_cell hnw 1
  have f2 := blk_frozen hnw 2
  have r2 : v4.cell? ⟨w3.heap.size, 2, none⟩ = some (.int .u32 0) := blk_cell hnw 2
  have f3 := blk_frozen hnw 3
  have r3 : v4.cell? ⟨w3.heap.size, 3, none⟩ = some (.slice none 0 0) := blk_cell hnw 3
  have hS0 := setRow_block (k := w3.heap.size) [.int .u8 0, .slice A3 m3 c3, .int .u32 0, .slice A4 m4 c4] 0 hnw
  have hG0 := hba.grown (setRow_grown (k := w3.heap.size) [.int .u8 0, .slice A3 m3 c3, .int .u32 0, .slice A4 m4 c4] v4 0) hba.size (fun k e => by cases e; exact Nat.le_refl _)
  generalize hx : setRow w3.heap.size v4 0 [.int .u8 0, .slice A3 m3 c3, .int .u32 0, .slice A4 m4 c4] = w4 at hS0 hG0
  simp only [setRow, Nat.reduceAdd, Nat.zero_add] at hx
  have hw4 : w4.heap[w3.heap.size]? = some (.cells #[.int .u8 0, .slice A3 m3 c3, .int .u32 0, .slice A4 m4 c4] 35 (0, 0)) := hS0
  have HX := Lib.hid hx
  clear hS0 hx hba hnw
  have ho4 := ho3.below hG0
  have hB4 := below_then hB3 hB3.size hG0
  clear ho3 hB3 hG0
  have hlit4 := own_lit w4 #[.int .u8 4] [4] rfl 1 rfl (by omega)
  have hb5 := (Below.refl w4.heap.size w4).alloc (Nat.le_refl _) (.cells #[.int .u8 4] 5)
  go_wp2_with fail
  have hsz : w4.heap.size = v4.heap.size := by rw [← HX.out]; simp
  rw [HX.out, ← hsz]
  clear hsz
  clear HX hv f0 r0 f1 r1 f2 r2 f3 r3
  generalize hw5 : w4.alloc (.cells #[.int .u8 4] 5) = w5 at hlit4 hb5 ⊢
  clear hw5
  have ho5 := ho4.below hb5
  have hB5 := below_then hB4 hB4.size hb5
  clear ho4 hB4 hb5
  have hQ := ParsePass_calls hlit4.bs (by omega)
  rw [pass_one] at hQ
  refine hQ.mono ?_
  rintro e w6 ⟨A6, m6, c6, A7, m7, c7, r6, rfl, _, _, hr6, hb6⟩
  obtain rfl : r6 = 3 := hr6
  have ho6 := ho5.below hb6
  have hB6 := below_then hB5 hB5.size hb6
  clear ho5 hB5 hb6 hQ hlit4 hw4
  have hba := (Below.refl w6.heap.size w6).alloc (Nat.le_refl _) (.cells #[.int .i64 0, .int .i64 0, .int .i64 0, .int .i64 0, .slice none 0 0, .slice none 0 0, .bool false] 42)
  have hnw := heap_alloc_new w6 (.cells #[.int .i64 0, .int .i64 0, .int .i64 0, .int .i64 0, .slice none 0 0, .slice none 0 0, .bool false] 42)
  generalize hv : w6.alloc (.cells #[.int .i64 0, .int .i64 0, .int .i64 0, .int .i64 0, .slice none 0 0, .slice none 0 0, .bool false] 42) = v7 at hba hnw
  have f0 := blk_frozen hnw 0
  have r0 : v7.cell? ⟨w6.heap.size, 0, none⟩ = some (.int .i64 0) := blk_cell hnw 0
  have f1 := blk_frozen hnw 1
  have r1 : v7.cell? ⟨w6.heap.size, 1, none⟩ = some (.int .i64 0) := blk_cell hnw 1
  have f2 := blk_frozen hnw 2
  have r2 : v7.cell? ⟨w6.heap.size, 2, none⟩ = some (.int .i64 0) := blk_cell hnw 2
  have f3 := blk_frozen hnw 3
  have r3 : v7.cell? ⟨w6.heap.size, 3, none⟩ = some (.int .i64 0) := blk_cell hnw 3
  have f4 := blk_frozen hnw 4
  have r4 : v7.cell? ⟨w6.heap.size, 4, none⟩ = some (.slice none 0 0) := blk_cell hnw 4
  have f5 := blk_frozen hnw 5
  have r5 : v7.cell? ⟨w6.heap.size, 5, none⟩ = some (.slice none 0 0) := blk_cell hnw 5
  have f6 := blk_frozen hnw 6
  have r6 : v7.cell? ⟨w6.heap.size, 6, none⟩ = some (.bool false) := blk_cell hnw 6
  have hS0 := setRow_block (k := w6.heap.size) [.int .i64 0, .int .i64 0, .int .i64 0, .int .i64 0, .slice A6 m6 c6, .slice A7 m7 c7, .bool false] 0 hnw
  have hG0 := hba.grown (setRow_grown (k := w6.heap.size) [.int .i64 0, .int .i64 0, .int .i64 0, .int .i64 0, .slice A6 m6 c6, .slice A7 m7 c7, .bool false] v7 0) hba.size (fun k e => by cases e; exact Nat.le_refl _)
  generalize hx : setRow w6.heap.size v7 0 [.int .i64 0, .int .i64 0, .int .i64 0, .int .i64 0, .slice A6 m6 c6, .slice A7 m7 c7, .bool false] = w7 at hS0 hG0
  simp only [setRow, Nat.reduceAdd, Nat.zero_add] at hx
  have hw7 : w7.heap[w6.heap.size]? = some (.cells #[.int .i64 0, .int .i64 0, .int .i64 0, .int .i64 0, .slice A6 m6 c6, .slice A7 m7 c7, .bool false] 42 (0, 0)) := hS0
  have HX := Lib.hid hx
  clear hS0 hx hba hnw
  have ho7 := ho6.below hG0
  have hB7 := below_then hB6 hB6.size hG0
  clear ho6 hB6 hG0
  have s7 := ho7.bs.str
  rw [str_lit, ← HX.out] at s7
  have HB := Lib.hid hB7
  clear hB7 ho7 hw7
  go_wp2
  go_ret
  rw [HX.out]
  exact ⟨rfl, HB.out⟩
end Go.Proofs.Ytegbncngencfnaa
