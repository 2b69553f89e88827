/- What subpackets tell: Issuer. -/
import Derived.Test.YtegbncngencfnaaSh
import Derived.Test.YtegbncngencfnaaSm
import Derived.Laws.Cover3
namespace Go.Proofs.Ytegbncngencfnaa
open Go.RowKit

/-- The issuer's number that subpackets tell. -/
def issS (ss : List SubV) : List UInt8 × Bool := if (findS 16 ss).2 = true ∧ (findS 16 ss).1.length = 8 then ((findS 16 ss).1, true) else ([0, 0, 0, 0, 0, 0, 0, 0], false)

/-- Stores into a block's cells, one behind the other. -/
def setRow (k : Nat) : World → Nat → List Value → World
  | w, _, [] => w
  | w, i, v :: vs => setRow k (w.setCell ⟨k, i, none⟩ v) (i + 1) vs
def setArr : Array Value → Nat → List Value → Array Value
  | cs, _, [] => cs
  | cs, i, v :: vs => setArr (cs.setIfInBounds i v) (i + 1) vs
theorem setRow_block {k : Nat} {T : TypeId} : ∀ (vs : List Value) {w : World} {cs : Array Value} (i : Nat), w.heap[k]? = some (.cells cs T (0, 0)) → (setRow k w i vs).heap[k]? = some (.cells (setArr cs i vs) T (0, 0))
  | [], _, _, _, h => h
  | v :: vs, _, _, i, h => setRow_block vs (i + 1) (blk_set h i v)
theorem setRow_grown {k : Nat} : ∀ (vs : List Value) (w : World) (i : Nat), w.grownBy (setRow k w i vs) (some k)
  | [], w, _ => World.grownBy.refl w _
  | v :: vs, w, i => grown_trans (grown_setCell w k i v) (setRow_grown vs _ (i + 1))

set_option maxRecDepth 100000 in
set_option maxHeartbeats 3200000 in
theorem Issuer_calls {A : Option Addr} {n c : Nat} {ss : List SubV} {w : World} (h : Ss w A n ss) (hn : n ≤ 9223372036854775807) (hl : ∀ s ∈ ss, s.2.2.length ≤ 100000) :
    Calls Try.prog 35 #[.slice A n c] w fun e w' => e = .returned (.tuple #[.agg (bvs (issS ss).1).toArray, .bool (issS ss).2]) ∧ Below w.heap.size w w' := by
  have hC := fun (W : World) (hW : Below w.heap.size w W) => Find_calls 16 (c := c) (h.below hW) hn hl
  have hN : issS ss = if (findS 16 ss).2 = true ∧ (findS 16 ss).1.length = 8 then ((findS 16 ss).1, true) else ([0, 0, 0, 0, 0, 0, 0, 0], false) := rfl
  generalize findS 16 ss = F at hC hN
  obtain ⟨body, ok⟩ := F
  simp only at hC hN
  have HC := Lib.hid hC
  clear hC
  cases ok with
  | false =>
    have HN := Lib.hid (show issS ss = ([0, 0, 0, 0, 0, 0, 0, 0], false) by rw [hN]; simp)
    clear hN
    go_enter Try.func35, Try.ntmps35
    go_wp2_with fail
    have hnew := heap_alloc_new w (.cells #[.int .u8 0, .int .u8 0, .int .u8 0, .int .u8 0, .int .u8 0, .int .u8 0, .int .u8 0, .int .u8 0] 60)
    have hba := (Below.refl w.heap.size w).alloc (Nat.le_refl _) (.cells #[.int .u8 0, .int .u8 0, .int .u8 0, .int .u8 0, .int .u8 0, .int .u8 0, .int .u8 0, .int .u8 0] 60)
    generalize w.alloc (.cells #[.int .u8 0, .int .u8 0, .int .u8 0, .int .u8 0, .int .u8 0, .int .u8 0, .int .u8 0, .int .u8 0] 60) = w1 at hnew hba ⊢
    refine (HC.out w1 hba).mono ?_
    rintro e w2 ⟨A2, m2, c2, rfl, ho2, hb2⟩
    have hB2 := below_then hba hba.size hb2
    have hn2 := (hb2.block w.heap.size (blk_lt hnew)).trans hnew
    have g0 := blk_frozen hn2 0
    have g1 := blk_frozen hn2 1
    have g2 := blk_frozen hn2 2
    have g3 := blk_frozen hn2 3
    have g4 := blk_frozen hn2 4
    have g5 := blk_frozen hn2 5
    have g6 := blk_frozen hn2 6
    have g7 := blk_frozen hn2 7
    have p0 : w2.cell? ⟨w.heap.size, 0, none⟩ = some (.int .u8 0) := blk_cell hn2 0
    have p1 : w2.cell? ⟨w.heap.size, 1, none⟩ = some (.int .u8 0) := blk_cell hn2 1
    have p2 : w2.cell? ⟨w.heap.size, 2, none⟩ = some (.int .u8 0) := blk_cell hn2 2
    have p3 : w2.cell? ⟨w.heap.size, 3, none⟩ = some (.int .u8 0) := blk_cell hn2 3
    have p4 : w2.cell? ⟨w.heap.size, 4, none⟩ = some (.int .u8 0) := blk_cell hn2 4
    have p5 : w2.cell? ⟨w.heap.size, 5, none⟩ = some (.int .u8 0) := blk_cell hn2 5
    have p6 : w2.cell? ⟨w.heap.size, 6, none⟩ = some (.int .u8 0) := blk_cell hn2 6
    have p7 : w2.cell? ⟨w.heap.size, 7, none⟩ = some (.int .u8 0) := blk_cell hn2 7
    go_wp2
    have hb := setRow_block [.int .u8 0, .int .u8 0, .int .u8 0, .int .u8 0, .int .u8 0, .int .u8 0, .int .u8 0, .int .u8 0] 0 hn2
    have q0 := blk_cell hb 0
    have q1 := blk_cell hb 1
    have q2 := blk_cell hb 2
    have q3 := blk_cell hb 3
    have q4 := blk_cell hb 4
    have q5 := blk_cell hb 5
    have q6 := blk_cell hb 6
    have q7 := blk_cell hb 7
    simp only [setRow, setArr, Nat.reduceAdd, Nat.zero_add] at q0 q1 q2 q3 q4 q5 q6 q7
    refine bodyPost_ret (v := .tuple #[.agg #[.int .u8 0, .int .u8 0, .int .u8 0, .int .u8 0, .int .u8 0, .int .u8 0, .int .u8 0, .int .u8 0], .bool false]) (by simp [results, Try.f35, go_sem, q0, q1, q2, q3, q4, q5, q6, q7]) rfl ?_
    rw [HN.out]
    exact ⟨rfl, hB2.grown (setRow_grown [.int .u8 0, .int .u8 0, .int .u8 0, .int .u8 0, .int .u8 0, .int .u8 0, .int .u8 0, .int .u8 0] w2 0) hB2.size (fun k e => by cases e; exact Nat.le_refl _)⟩
  | true =>
    by_cases h8 : body.length = 8
    · obtain ⟨x0, x1, x2, x3, x4, x5, x6, x7, rfl⟩ : ∃ x0 x1 x2 x3 x4 x5 x6 x7, body = [x0, x1, x2, x3, x4, x5, x6, x7] := by
        match body, h8 with
        | [x0, x1, x2, x3, x4, x5, x6, x7], _ => exact ⟨x0, x1, x2, x3, x4, x5, x6, x7, rfl⟩
      have HN := Lib.hid (show issS ss = ([x0, x1, x2, x3, x4, x5, x6, x7], true) by rw [hN]; simp)
      clear hN h8
      go_enter Try.func35, Try.ntmps35
      go_wp2_with fail
      have hnew := heap_alloc_new w (.cells #[.int .u8 0, .int .u8 0, .int .u8 0, .int .u8 0, .int .u8 0, .int .u8 0, .int .u8 0, .int .u8 0] 60)
      have hba := (Below.refl w.heap.size w).alloc (Nat.le_refl _) (.cells #[.int .u8 0, .int .u8 0, .int .u8 0, .int .u8 0, .int .u8 0, .int .u8 0, .int .u8 0, .int .u8 0] 60)
      generalize w.alloc (.cells #[.int .u8 0, .int .u8 0, .int .u8 0, .int .u8 0, .int .u8 0, .int .u8 0, .int .u8 0, .int .u8 0] 60) = w1 at hnew hba ⊢
      refine (HC.out w1 hba).mono ?_
      rintro e w2 ⟨A2, m2, c2, rfl, ho2, hb2⟩
      obtain rfl : 8 = m2 := ho2.2
      have hB2 := below_then hba hba.size hb2
      have hn2 := (hb2.block w.heap.size (blk_lt hnew)).trans hnew
      obtain ⟨b, off, rfl, hbl, r0⟩ := ho2.bs.byte (k := 0) (by simp)
      have r1 : w2.cell? ⟨b, off + 1, none⟩ = some (.int .u8 (x1.toNat : Int)) := by
        obtain ⟨b', off', e, _, hc⟩ := ho2.bs.byte (k := 1) (by simp)
        injection e with e; injection e with e1 e2; subst e1; subst e2; exact hc
      have r2 : w2.cell? ⟨b, off + 2, none⟩ = some (.int .u8 (x2.toNat : Int)) := by
        obtain ⟨b', off', e, _, hc⟩ := ho2.bs.byte (k := 2) (by simp)
        injection e with e; injection e with e1 e2; subst e1; subst e2; exact hc
      have r3 : w2.cell? ⟨b, off + 3, none⟩ = some (.int .u8 (x3.toNat : Int)) := by
        obtain ⟨b', off', e, _, hc⟩ := ho2.bs.byte (k := 3) (by simp)
        injection e with e; injection e with e1 e2; subst e1; subst e2; exact hc
      have r4 : w2.cell? ⟨b, off + 4, none⟩ = some (.int .u8 (x4.toNat : Int)) := by
        obtain ⟨b', off', e, _, hc⟩ := ho2.bs.byte (k := 4) (by simp)
        injection e with e; injection e with e1 e2; subst e1; subst e2; exact hc
      have r5 : w2.cell? ⟨b, off + 5, none⟩ = some (.int .u8 (x5.toNat : Int)) := by
        obtain ⟨b', off', e, _, hc⟩ := ho2.bs.byte (k := 5) (by simp)
        injection e with e; injection e with e1 e2; subst e1; subst e2; exact hc
      have r6 : w2.cell? ⟨b, off + 6, none⟩ = some (.int .u8 (x6.toNat : Int)) := by
        obtain ⟨b', off', e, _, hc⟩ := ho2.bs.byte (k := 6) (by simp)
        injection e with e; injection e with e1 e2; subst e1; subst e2; exact hc
      have r7 : w2.cell? ⟨b, off + 7, none⟩ = some (.int .u8 (x7.toNat : Int)) := by
        obtain ⟨b', off', e, _, hc⟩ := ho2.bs.byte (k := 7) (by simp)
        injection e with e; injection e with e1 e2; subst e1; subst e2; exact hc
      simp only [List.getElem_cons_zero, Nat.add_zero] at r0
      have g0 := blk_frozen hn2 0
      have p0 : w2.cell? ⟨w.heap.size, 0, none⟩ = some (.int .u8 0) := blk_cell hn2 0
      have g1 := blk_frozen hn2 1
      have p1 : w2.cell? ⟨w.heap.size, 1, none⟩ = some (.int .u8 0) := blk_cell hn2 1
      have g2 := blk_frozen hn2 2
      have p2 : w2.cell? ⟨w.heap.size, 2, none⟩ = some (.int .u8 0) := blk_cell hn2 2
      have g3 := blk_frozen hn2 3
      have p3 : w2.cell? ⟨w.heap.size, 3, none⟩ = some (.int .u8 0) := blk_cell hn2 3
      have g4 := blk_frozen hn2 4
      have p4 : w2.cell? ⟨w.heap.size, 4, none⟩ = some (.int .u8 0) := blk_cell hn2 4
      have g5 := blk_frozen hn2 5
      have p5 : w2.cell? ⟨w.heap.size, 5, none⟩ = some (.int .u8 0) := blk_cell hn2 5
      have g6 := blk_frozen hn2 6
      have p6 : w2.cell? ⟨w.heap.size, 6, none⟩ = some (.int .u8 0) := blk_cell hn2 6
      have g7 := blk_frozen hn2 7
      have p7 : w2.cell? ⟨w.heap.size, 7, none⟩ = some (.int .u8 0) := blk_cell hn2 7
      have hat : ∀ W, (Instr.arrayAt 60 (.slice (some ⟨b, off, none⟩) 8 c2)).run Try.prog W = .ok (.pointer (some ⟨b, off, none⟩)) W := fun W => run_arrayAt W 60 _ 8 _ 8 c2 Try.underlying60 (by omega)
      go_wp2
      have hb := setRow_block [.int .u8 (x0.toNat : Int), .int .u8 (x1.toNat : Int), .int .u8 (x2.toNat : Int), .int .u8 (x3.toNat : Int), .int .u8 (x4.toNat : Int), .int .u8 (x5.toNat : Int), .int .u8 (x6.toNat : Int), .int .u8 (x7.toNat : Int)] 0 hn2
      have q0 := blk_cell hb 0
      have q1 := blk_cell hb 1
      have q2 := blk_cell hb 2
      have q3 := blk_cell hb 3
      have q4 := blk_cell hb 4
      have q5 := blk_cell hb 5
      have q6 := blk_cell hb 6
      have q7 := blk_cell hb 7
      simp only [setRow, setArr, Nat.reduceAdd, Nat.zero_add] at q0 q1 q2 q3 q4 q5 q6 q7
      refine bodyPost_ret (v := .tuple #[.agg #[.int .u8 (x0.toNat : Int), .int .u8 (x1.toNat : Int), .int .u8 (x2.toNat : Int), .int .u8 (x3.toNat : Int), .int .u8 (x4.toNat : Int), .int .u8 (x5.toNat : Int), .int .u8 (x6.toNat : Int), .int .u8 (x7.toNat : Int)], .bool true]) (by simp [results, Try.f35, go_sem, q0, q1, q2, q3, q4, q5, q6, q7]) rfl ?_
      rw [HN.out]
      exact ⟨rfl, hB2.grown (setRow_grown [.int .u8 (x0.toNat : Int), .int .u8 (x1.toNat : Int), .int .u8 (x2.toNat : Int), .int .u8 (x3.toNat : Int), .int .u8 (x4.toNat : Int), .int .u8 (x5.toNat : Int), .int .u8 (x6.toNat : Int), .int .u8 (x7.toNat : Int)] w2 0) hB2.size (fun k e => by cases e; exact Nat.le_refl _)⟩
    · have HN := Lib.hid (show issS ss = ([0, 0, 0, 0, 0, 0, 0, 0], false) by rw [hN]; simp [h8])
      have H8 := Lib.hid h8
      clear hN h8
      go_enter Try.func35, Try.ntmps35
      go_wp2_with fail
      have hnew := heap_alloc_new w (.cells #[.int .u8 0, .int .u8 0, .int .u8 0, .int .u8 0, .int .u8 0, .int .u8 0, .int .u8 0, .int .u8 0] 60)
      have hba := (Below.refl w.heap.size w).alloc (Nat.le_refl _) (.cells #[.int .u8 0, .int .u8 0, .int .u8 0, .int .u8 0, .int .u8 0, .int .u8 0, .int .u8 0, .int .u8 0] 60)
      generalize w.alloc (.cells #[.int .u8 0, .int .u8 0, .int .u8 0, .int .u8 0, .int .u8 0, .int .u8 0, .int .u8 0, .int .u8 0] 60) = w1 at hnew hba ⊢
      refine (HC.out w1 hba).mono ?_
      rintro e w2 ⟨A2, m2, c2, rfl, ho2, hb2⟩
      have hd : ((m2 : Int) != 8) = true := by rw [bne_iff_ne]; have := ho2.2; have := H8.out; omega
      have hB2 := below_then hba hba.size hb2
      have hn2 := (hb2.block w.heap.size (blk_lt hnew)).trans hnew
      have g0 := blk_frozen hn2 0
      have g1 := blk_frozen hn2 1
      have g2 := blk_frozen hn2 2
      have g3 := blk_frozen hn2 3
      have g4 := blk_frozen hn2 4
      have g5 := blk_frozen hn2 5
      have g6 := blk_frozen hn2 6
      have g7 := blk_frozen hn2 7
      have p0 : w2.cell? ⟨w.heap.size, 0, none⟩ = some (.int .u8 0) := blk_cell hn2 0
      have p1 : w2.cell? ⟨w.heap.size, 1, none⟩ = some (.int .u8 0) := blk_cell hn2 1
      have p2 : w2.cell? ⟨w.heap.size, 2, none⟩ = some (.int .u8 0) := blk_cell hn2 2
      have p3 : w2.cell? ⟨w.heap.size, 3, none⟩ = some (.int .u8 0) := blk_cell hn2 3
      have p4 : w2.cell? ⟨w.heap.size, 4, none⟩ = some (.int .u8 0) := blk_cell hn2 4
      have p5 : w2.cell? ⟨w.heap.size, 5, none⟩ = some (.int .u8 0) := blk_cell hn2 5
      have p6 : w2.cell? ⟨w.heap.size, 6, none⟩ = some (.int .u8 0) := blk_cell hn2 6
      have p7 : w2.cell? ⟨w.heap.size, 7, none⟩ = some (.int .u8 0) := blk_cell hn2 7
      go_wp2
      have hb := setRow_block [.int .u8 0, .int .u8 0, .int .u8 0, .int .u8 0, .int .u8 0, .int .u8 0, .int .u8 0, .int .u8 0] 0 hn2
      have q0 := blk_cell hb 0
      have q1 := blk_cell hb 1
      have q2 := blk_cell hb 2
      have q3 := blk_cell hb 3
      have q4 := blk_cell hb 4
      have q5 := blk_cell hb 5
      have q6 := blk_cell hb 6
      have q7 := blk_cell hb 7
      simp only [setRow, setArr, Nat.reduceAdd, Nat.zero_add] at q0 q1 q2 q3 q4 q5 q6 q7
      refine bodyPost_ret (v := .tuple #[.agg #[.int .u8 0, .int .u8 0, .int .u8 0, .int .u8 0, .int .u8 0, .int .u8 0, .int .u8 0, .int .u8 0], .bool false]) (by simp [results, Try.f35, go_sem, q0, q1, q2, q3, q4, q5, q6, q7]) rfl ?_
      rw [HN.out]
      exact ⟨rfl, hB2.grown (setRow_grown [.int .u8 0, .int .u8 0, .int .u8 0, .int .u8 0, .int .u8 0, .int .u8 0, .int .u8 0, .int .u8 0] w2 0) hB2.size (fun k e => by cases e; exact Nat.le_refl _)⟩
end Go.Proofs.Ytegbncngencfnaa
