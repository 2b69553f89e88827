/- The document's Same and SamePass on what reads alike. -/
import Derived.Test.YtegbncngencfnaaCur
namespace Go.Proofs.Ytegbncngencfnaa
open Go.RowKit

set_option maxRecDepth 100000 in
set_option maxHeartbeats 1600000 in
theorem Same24_calls (x d : Int) {An Ad Bn Bd : Option Addr} {nn cn nd cd mn en md ed : Nat} {name data : List UInt8} {w : World} (hn : Bs w An nn cn name) (hd : Bs w Ad nd cd data) (hn2 : Bs w Bn mn en name) (hd2 : Bs w Bd md ed data) :
    Calls Try.prog 23 #[.agg #[.int .u8 x, .slice An nn cn, .int .u32 d, .slice Ad nd cd], .agg #[.int .u8 x, .slice Bn mn en, .int .u32 d, .slice Bd md ed]] w fun e w' => e = .returned (.bool true) ∧ Below w.heap.size w w' := by
  have hnew := heap_alloc_new w (.cells #[.int .u8 x, .slice An nn cn, .int .u32 d, .slice Ad nd cd] 38)
  have hba := (Below.refl w.heap.size w).alloc (Nat.le_refl _) (.cells #[.int .u8 x, .slice An nn cn, .int .u32 d, .slice Ad nd cd] 38)
  generalize hw1 : w.alloc (.cells #[.int .u8 x, .slice An nn cn, .int .u32 d, .slice Ad nd cd] 38) = w1 at hnew hba
  have hlt := blk_lt hnew
  have hba2 := (Below.refl w1.heap.size w1).alloc (Nat.le_refl _) (.cells #[.int .u8 x, .slice Bn mn en, .int .u32 d, .slice Bd md ed] 38)
  have hnw := heap_alloc_new w1 (.cells #[.int .u8 x, .slice Bn mn en, .int .u32 d, .slice Bd md ed] 38)
  have hnb := (hba2.block w.heap.size hlt).trans hnew
  generalize hw2 : w1.alloc (.cells #[.int .u8 x, .slice Bn mn en, .int .u32 d, .slice Bd md ed] 38) = w2 at hba2 hnw hnb
  have hB2 := below_then hba hba.size hba2
  have c0 : w2.cell? ⟨w.heap.size, 0, none⟩ = some (.int .u8 x) := blk_cell hnb 0
  have r0 : w2.cell? ⟨w1.heap.size, 0, none⟩ = some (.int .u8 x) := blk_cell hnw 0
  have c1 : w2.cell? ⟨w.heap.size, 1, none⟩ = some (.slice An nn cn) := blk_cell hnb 1
  have r1 : w2.cell? ⟨w1.heap.size, 1, none⟩ = some (.slice Bn mn en) := blk_cell hnw 1
  have c2 : w2.cell? ⟨w.heap.size, 2, none⟩ = some (.int .u32 d) := blk_cell hnb 2
  have r2 : w2.cell? ⟨w1.heap.size, 2, none⟩ = some (.int .u32 d) := blk_cell hnw 2
  have c3 : w2.cell? ⟨w.heap.size, 3, none⟩ = some (.slice Ad nd cd) := blk_cell hnb 3
  have r3 : w2.cell? ⟨w1.heap.size, 3, none⟩ = some (.slice Bd md ed) := blk_cell hnw 3
  have s0 := (hn.below hB2).str
  have s1 := (hd.below hB2).str
  have s2 := (hn2.below hB2).str
  have s3 := (hd2.below hB2).str
  have HB := Lib.hid hB2
  clear hnew hba hba2 hnw hnb hB2
  go_enter Try.func23, Try.ntmps23
  go_wp2
  go_ret
  exact ⟨by first | rfl | simp, HB.out⟩

set_option maxRecDepth 100000 in
set_option maxHeartbeats 1600000 in
theorem SamePass_calls (v ty ha pu : Int) (la : Bool) {As Ai Bs_ Bi : Option Addr} {ns cs ni ci ms es mi ei : Nat} {salt iss : List UInt8} {w : World} (hs : Bs w As ns cs salt) (hi : Bs w Ai ni ci iss) (hs2 : Bs w Bs_ ms es salt) (hi2 : Bs w Bi mi ei iss) :
    Calls Try.prog 25 #[.agg #[.int .i64 v, .int .i64 ty, .int .i64 ha, .int .i64 pu, .slice As ns cs, .slice Ai ni ci, .bool la], .agg #[.int .i64 v, .int .i64 ty, .int .i64 ha, .int .i64 pu, .slice Bs_ ms es, .slice Bi mi ei, .bool la]] w fun e w' => e = .returned (.bool true) ∧ Below w.heap.size w w' := by
  have hnew := heap_alloc_new w (.cells #[.int .i64 v, .int .i64 ty, .int .i64 ha, .int .i64 pu, .slice As ns cs, .slice Ai ni ci, .bool la] 45)
  have hba := (Below.refl w.heap.size w).alloc (Nat.le_refl _) (.cells #[.int .i64 v, .int .i64 ty, .int .i64 ha, .int .i64 pu, .slice As ns cs, .slice Ai ni ci, .bool la] 45)
  generalize hw1 : w.alloc (.cells #[.int .i64 v, .int .i64 ty, .int .i64 ha, .int .i64 pu, .slice As ns cs, .slice Ai ni ci, .bool la] 45) = w1 at hnew hba
  have hlt := blk_lt hnew
  have hba2 := (Below.refl w1.heap.size w1).alloc (Nat.le_refl _) (.cells #[.int .i64 v, .int .i64 ty, .int .i64 ha, .int .i64 pu, .slice Bs_ ms es, .slice Bi mi ei, .bool la] 45)
  have hnw := heap_alloc_new w1 (.cells #[.int .i64 v, .int .i64 ty, .int .i64 ha, .int .i64 pu, .slice Bs_ ms es, .slice Bi mi ei, .bool la] 45)
  have hnb := (hba2.block w.heap.size hlt).trans hnew
  generalize hw2 : w1.alloc (.cells #[.int .i64 v, .int .i64 ty, .int .i64 ha, .int .i64 pu, .slice Bs_ ms es, .slice Bi mi ei, .bool la] 45) = w2 at hba2 hnw hnb
  have hB2 := below_then hba hba.size hba2
  have c0 : w2.cell? ⟨w.heap.size, 0, none⟩ = some (.int .i64 v) := blk_cell hnb 0
  have r0 : w2.cell? ⟨w1.heap.size, 0, none⟩ = some (.int .i64 v) := blk_cell hnw 0
  have c1 : w2.cell? ⟨w.heap.size, 1, none⟩ = some (.int .i64 ty) := blk_cell hnb 1
  have r1 : w2.cell? ⟨w1.heap.size, 1, none⟩ = some (.int .i64 ty) := blk_cell hnw 1
  have c2 : w2.cell? ⟨w.heap.size, 2, none⟩ = some (.int .i64 ha) := blk_cell hnb 2
  have r2 : w2.cell? ⟨w1.heap.size, 2, none⟩ = some (.int .i64 ha) := blk_cell hnw 2
  have c3 : w2.cell? ⟨w.heap.size, 3, none⟩ = some (.int .i64 pu) := blk_cell hnb 3
  have r3 : w2.cell? ⟨w1.heap.size, 3, none⟩ = some (.int .i64 pu) := blk_cell hnw 3
  have c4 : w2.cell? ⟨w.heap.size, 4, none⟩ = some (.slice As ns cs) := blk_cell hnb 4
  have r4 : w2.cell? ⟨w1.heap.size, 4, none⟩ = some (.slice Bs_ ms es) := blk_cell hnw 4
  have c5 : w2.cell? ⟨w.heap.size, 5, none⟩ = some (.slice Ai ni ci) := blk_cell hnb 5
  have r5 : w2.cell? ⟨w1.heap.size, 5, none⟩ = some (.slice Bi mi ei) := blk_cell hnw 5
  have c6 : w2.cell? ⟨w.heap.size, 6, none⟩ = some (.bool la) := blk_cell hnb 6
  have r6 : w2.cell? ⟨w1.heap.size, 6, none⟩ = some (.bool la) := blk_cell hnw 6
  have s0 := (hs.below hB2).str
  have s1 := (hi.below hB2).str
  have s2 := (hs2.below hB2).str
  have s3 := (hi2.below hB2).str
  have HB := Lib.hid hB2
  clear hnew hba hba2 hnw hnb hB2
  go_enter Try.func25, Try.ntmps25
  go_wp2
  go_ret
  exact ⟨by first | rfl | simp, HB.out⟩

end Go.Proofs.Ytegbncngencfnaa
