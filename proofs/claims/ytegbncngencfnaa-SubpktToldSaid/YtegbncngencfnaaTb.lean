/- What subpackets tell: the document's Issuer. -/
import Derived.Test.YtegbncngencfnaaTa
namespace Go.Proofs.Ytegbncngencfnaa
open Go.RowKit

theorem setArr_snoc : ∀ (vs : List Value) (cs : Array Value) (i : Nat) (v : Value), setArr cs i (vs ++ [v]) = (setArr cs i vs).setIfInBounds (i + vs.length) v
  | [], _, _, _ => rfl
  | u :: vs, cs, i, v => by
    rw [List.cons_append, setArr, setArr_snoc vs, setArr, List.length_cons]
    congr 1
    omega
theorem setArr_size : ∀ (vs : List Value) (cs : Array Value) (i : Nat), (setArr cs i vs).size = cs.size
  | [], _, _ => rfl
  | u :: vs, cs, i => by rw [setArr, setArr_size vs]; simp
theorem meas8 {k : Nat} (h : k < 8) : 8 - (intOf (.int .i64 ((k : Int) + 1))).toNat < 8 - (intOf (.int .i64 (k : Int))).toNat := by simp [intOf]; omega
theorem setArr_take (cs : Array Value) (l : List UInt8) (k : Nat) (hk : k < l.length) : setArr cs 0 ((bvs l).take (k + 1)) = (setArr cs 0 ((bvs l).take k)).setIfInBounds k (.int .u8 ((l[k]).toNat : Int)) := by
  rw [List.take_succ_eq_append_getElem (by simpa using hk), setArr_snoc, bv_at hk, List.length_take]
  congr 1
  simp only [List.length_map]
  omega

set_option maxRecDepth 100000 in
set_option maxHeartbeats 3200000 in
theorem rIssuer_calls {A : Option Addr} {n c : Nat} {ss : List SubV} {w : World} (h : Ss w A n ss) (hn : n ≤ 9223372036854775807) :
    Calls Try.prog 36 #[.slice A n c] w fun e w' => e = .returned (.tuple #[.agg (bvs (issS ss).1).toArray, .bool (issS ss).2]) ∧ Below w.heap.size w w' := by
  have hC := fun (W : World) (hW : Below w.heap.size w W) => rFind_calls 16 (c := c) (h.below hW) hn
  have hN : issS ss = if (findS 16 ss).2 = true ∧ (findS 16 ss).1.length = 8 then ((findS 16 ss).1, true) else ([0, 0, 0, 0, 0, 0, 0, 0], false) := rfl
  generalize findS 16 ss = F at hC hN
  obtain ⟨body, ok⟩ := F
  simp only at hC hN
  have HC := Lib.hid hC
  clear hC
  cases ok with
  | false =>
    have HN := Lib.hid (show issS ss = ([0, 0, 0, 0, 0, 0, 0, 0], false) by rw [hN]; simp)
    clear hN
    have hnew := heap_alloc_new w (.cells #[.int .u8 0, .int .u8 0, .int .u8 0, .int .u8 0, .int .u8 0, .int .u8 0, .int .u8 0, .int .u8 0] 60)
    have hba := (Below.refl w.heap.size w).alloc (Nat.le_refl _) (.cells #[.int .u8 0, .int .u8 0, .int .u8 0, .int .u8 0, .int .u8 0, .int .u8 0, .int .u8 0, .int .u8 0] 60)
    go_enter Try.func36, Try.ntmps36
    go_wp2_with fail
    generalize w.alloc (.cells #[.int .u8 0, .int .u8 0, .int .u8 0, .int .u8 0, .int .u8 0, .int .u8 0, .int .u8 0, .int .u8 0] 60) = w1 at hnew hba ⊢
    refine (HC.out w1 hba).mono ?_
    rintro e w2 ⟨A2, m2, c2, rfl, ho2, hb2⟩
    have hB2 := below_then hba hba.size hb2
    have hn2 := (hb2.block w.heap.size (blk_lt hnew)).trans hnew
    have hba2 := (Below.refl w2.heap.size w2).alloc (Nat.le_refl _) (.cells #[.int .u8 0, .int .u8 0, .int .u8 0, .int .u8 0, .int .u8 0, .int .u8 0, .int .u8 0, .int .u8 0] 60)
    have hB3 := below_then hB2 hB2.size hba2
    have hn3 := (hba2.block w.heap.size (blk_lt hn2)).trans hn2
    have hnw := heap_alloc_new w2 (.cells #[.int .u8 0, .int .u8 0, .int .u8 0, .int .u8 0, .int .u8 0, .int .u8 0, .int .u8 0, .int .u8 0] 60)
    have hlt := blk_lt hn2
    have hne1 : ¬ w.heap.size = w2.heap.size := Nat.ne_of_lt hlt
    have hne2 : ¬ w2.heap.size = w.heap.size := fun e => hne1 e.symm
    generalize hw3 : w2.alloc (.cells #[.int .u8 0, .int .u8 0, .int .u8 0, .int .u8 0, .int .u8 0, .int .u8 0, .int .u8 0, .int .u8 0] 60) = w3 at hba2 hB3 hn3 hnw
    have g0 := blk_frozen hn3 0
    have f0 := blk_frozen hnw 0
    have g1 := blk_frozen hn3 1
    have f1 := blk_frozen hnw 1
    have g2 := blk_frozen hn3 2
    have f2 := blk_frozen hnw 2
    have g3 := blk_frozen hn3 3
    have f3 := blk_frozen hnw 3
    have g4 := blk_frozen hn3 4
    have f4 := blk_frozen hnw 4
    have g5 := blk_frozen hn3 5
    have f5 := blk_frozen hnw 5
    have g6 := blk_frozen hn3 6
    have f6 := blk_frozen hnw 6
    have g7 := blk_frozen hn3 7
    have f7 := blk_frozen hnw 7
    have p0 : w3.cell? ⟨w.heap.size, 0, none⟩ = some (.int .u8 0) := blk_cell hn3 0
    have r0 : w3.cell? ⟨w2.heap.size, 0, none⟩ = some (.int .u8 0) := blk_cell hnw 0
    have p1 : w3.cell? ⟨w.heap.size, 1, none⟩ = some (.int .u8 0) := blk_cell hn3 1
    have r1 : w3.cell? ⟨w2.heap.size, 1, none⟩ = some (.int .u8 0) := blk_cell hnw 1
    have p2 : w3.cell? ⟨w.heap.size, 2, none⟩ = some (.int .u8 0) := blk_cell hn3 2
    have r2 : w3.cell? ⟨w2.heap.size, 2, none⟩ = some (.int .u8 0) := blk_cell hnw 2
    have p3 : w3.cell? ⟨w.heap.size, 3, none⟩ = some (.int .u8 0) := blk_cell hn3 3
    have r3 : w3.cell? ⟨w2.heap.size, 3, none⟩ = some (.int .u8 0) := blk_cell hnw 3
    have p4 : w3.cell? ⟨w.heap.size, 4, none⟩ = some (.int .u8 0) := blk_cell hn3 4
    have r4 : w3.cell? ⟨w2.heap.size, 4, none⟩ = some (.int .u8 0) := blk_cell hnw 4
    have p5 : w3.cell? ⟨w.heap.size, 5, none⟩ = some (.int .u8 0) := blk_cell hn3 5
    have r5 : w3.cell? ⟨w2.heap.size, 5, none⟩ = some (.int .u8 0) := blk_cell hnw 5
    have p6 : w3.cell? ⟨w.heap.size, 6, none⟩ = some (.int .u8 0) := blk_cell hn3 6
    have r6 : w3.cell? ⟨w2.heap.size, 6, none⟩ = some (.int .u8 0) := blk_cell hnw 6
    have p7 : w3.cell? ⟨w.heap.size, 7, none⟩ = some (.int .u8 0) := blk_cell hn3 7
    have r7 : w3.cell? ⟨w2.heap.size, 7, none⟩ = some (.int .u8 0) := blk_cell hnw 7
    clear hba2 hn2 hnew
    go_wp2
    have hn4 := ((setRow_grown (k := w2.heap.size) [.int .u8 0, .int .u8 0, .int .u8 0, .int .u8 0, .int .u8 0, .int .u8 0, .int .u8 0, .int .u8 0] w3 0).block w.heap.size (blk_lt hn3) (fun e => hne1 (Option.some.inj e))).trans hn3
    have hb := setRow_block [.int .u8 0, .int .u8 0, .int .u8 0, .int .u8 0, .int .u8 0, .int .u8 0, .int .u8 0, .int .u8 0] 0 hn4
    have q0 := blk_cell hb 0
    have q1 := blk_cell hb 1
    have q2 := blk_cell hb 2
    have q3 := blk_cell hb 3
    have q4 := blk_cell hb 4
    have q5 := blk_cell hb 5
    have q6 := blk_cell hb 6
    have q7 := blk_cell hb 7
    simp only [setRow, setArr, Nat.reduceAdd, Nat.zero_add] at q0 q1 q2 q3 q4 q5 q6 q7
    refine bodyPost_ret (v := .tuple #[.agg #[.int .u8 0, .int .u8 0, .int .u8 0, .int .u8 0, .int .u8 0, .int .u8 0, .int .u8 0, .int .u8 0], .bool false]) (by simp [results, Try.f36, go_sem, q0, q1, q2, q3, q4, q5, q6, q7]) rfl ?_
    rw [HN.out]
    have hB4 := hB3.grown (setRow_grown (k := w2.heap.size) [.int .u8 0, .int .u8 0, .int .u8 0, .int .u8 0, .int .u8 0, .int .u8 0, .int .u8 0, .int .u8 0] w3 0) hB3.size (fun k e => by cases e; exact Nat.le_of_lt hlt)
    exact ⟨rfl, hB4.grown (setRow_grown (k := w.heap.size) [.int .u8 0, .int .u8 0, .int .u8 0, .int .u8 0, .int .u8 0, .int .u8 0, .int .u8 0, .int .u8 0] _ 0) hB4.size (fun k e => by cases e; exact Nat.le_refl _)⟩
  | true =>
    by_cases h8 : body.length = 8
    · have HN := Lib.hid (show issS ss = (body, true) by rw [hN]; simp [h8])
      have H8 := Lib.hid h8
      clear hN h8
      have hnew := heap_alloc_new w (.cells #[.int .u8 0, .int .u8 0, .int .u8 0, .int .u8 0, .int .u8 0, .int .u8 0, .int .u8 0, .int .u8 0] 60)
      have hba := (Below.refl w.heap.size w).alloc (Nat.le_refl _) (.cells #[.int .u8 0, .int .u8 0, .int .u8 0, .int .u8 0, .int .u8 0, .int .u8 0, .int .u8 0, .int .u8 0] 60)
      go_enter Try.func36, Try.ntmps36
      go_wp2_with fail
      generalize w.alloc (.cells #[.int .u8 0, .int .u8 0, .int .u8 0, .int .u8 0, .int .u8 0, .int .u8 0, .int .u8 0, .int .u8 0] 60) = w1 at hnew hba ⊢
      refine (HC.out w1 hba).mono ?_
      rintro e w2 ⟨A2, m2, c2, rfl, ho2, hb2⟩
      have hB2 := below_then hba hba.size hb2
      have hn2 := (hb2.block w.heap.size (blk_lt hnew)).trans hnew
      have hba2 := (Below.refl w2.heap.size w2).alloc (Nat.le_refl _) (.cells #[.int .u8 0, .int .u8 0, .int .u8 0, .int .u8 0, .int .u8 0, .int .u8 0, .int .u8 0, .int .u8 0] 60)
      have hB3 := below_then hB2 hB2.size hba2
      have hn3 := (hba2.block w.heap.size (blk_lt hn2)).trans hn2
      have hnw := heap_alloc_new w2 (.cells #[.int .u8 0, .int .u8 0, .int .u8 0, .int .u8 0, .int .u8 0, .int .u8 0, .int .u8 0, .int .u8 0] 60)
      have hlt0 := blk_lt hn2
      have hne1 : ¬ w.heap.size = w2.heap.size := Nat.ne_of_lt hlt0
      have hne2 : ¬ w2.heap.size = w.heap.size := fun e => hne1 e.symm
      have hd : ((m2 : Int) != 8) = false := by rw [bne_eq_false_iff_eq]; have := ho2.2; have := H8.out; omega
      generalize hw3 : w2.alloc (.cells #[.int .u8 0, .int .u8 0, .int .u8 0, .int .u8 0, .int .u8 0, .int .u8 0, .int .u8 0, .int .u8 0] 60) = w3 at hba2 hB3 hn3 hnw
      have f0 := blk_frozen hnw 0
      have r0 : w3.cell? ⟨w2.heap.size, 0, none⟩ = some (.int .u8 0) := blk_cell hnw 0
      have f1 := blk_frozen hnw 1
      have r1 : w3.cell? ⟨w2.heap.size, 1, none⟩ = some (.int .u8 0) := blk_cell hnw 1
      have f2 := blk_frozen hnw 2
      have r2 : w3.cell? ⟨w2.heap.size, 2, none⟩ = some (.int .u8 0) := blk_cell hnw 2
      have f3 := blk_frozen hnw 3
      have r3 : w3.cell? ⟨w2.heap.size, 3, none⟩ = some (.int .u8 0) := blk_cell hnw 3
      have f4 := blk_frozen hnw 4
      have r4 : w3.cell? ⟨w2.heap.size, 4, none⟩ = some (.int .u8 0) := blk_cell hnw 4
      have f5 := blk_frozen hnw 5
      have r5 : w3.cell? ⟨w2.heap.size, 5, none⟩ = some (.int .u8 0) := blk_cell hnw 5
      have f6 := blk_frozen hnw 6
      have r6 : w3.cell? ⟨w2.heap.size, 6, none⟩ = some (.int .u8 0) := blk_cell hnw 6
      have f7 := blk_frozen hnw 7
      have r7 : w3.cell? ⟨w2.heap.size, 7, none⟩ = some (.int .u8 0) := blk_cell hnw 7
      clear hn2 hnew
      have hS0 := setRow_block (k := w2.heap.size) [.int .u8 0, .int .u8 0, .int .u8 0, .int .u8 0, .int .u8 0, .int .u8 0, .int .u8 0, .int .u8 0] 0 hnw
      rw [show setArr #[.int .u8 0, .int .u8 0, .int .u8 0, .int .u8 0, .int .u8 0, .int .u8 0, .int .u8 0, .int .u8 0] 0 [.int .u8 0, .int .u8 0, .int .u8 0, .int .u8 0, .int .u8 0, .int .u8 0, .int .u8 0, .int .u8 0] = setArr #[.int .u8 0, .int .u8 0, .int .u8 0, .int .u8 0, .int .u8 0, .int .u8 0, .int .u8 0, .int .u8 0] 0 ((bvs body).take 0) by simp [setArr]] at hS0
      have hG0 := setRow_grown (k := w2.heap.size) [.int .u8 0, .int .u8 0, .int .u8 0, .int .u8 0, .int .u8 0, .int .u8 0, .int .u8 0, .int .u8 0] w3 0
      simp only [setRow, Nat.reduceAdd, Nat.zero_add] at hS0 hG0
      have hS := Lib.hid hS0
      have hG := Lib.hid hG0
      clear hS0 hG0
      go_wp2_with fail
      go_loopw [7] (fun v wr => ∃ k : Nat, k ≤ 8 ∧ v = .int .i64 k ∧ w3.grownBy wr (some w2.heap.size) ∧ wr.heap[w2.heap.size]? = some (.cells (setArr #[.int .u8 0, .int .u8 0, .int .u8 0, .int .u8 0, .int .u8 0, .int .u8 0, .int .u8 0, .int .u8 0] 0 ((bvs body).take k)) 60 (0, 0))) (fun v _ => 8 - (intOf v).toNat)
      case atStart => exact ⟨0, Nat.zero_le _, rfl, hG.out, hS.out⟩
      case round =>
        obtain ⟨k, hk, rfl, hgr, hI⟩ := hrel
        clear f0 f1 f2 f3 f4 f5 f6 f7 r0 r1 r2 r3 r4 r5 r6 r7
        have h8 := H8.out
        by_cases hlt : k < 8
        · have hbs : Bs wr A2 m2 c2 body := (ho2.below hba2).grown hgr (fun ad e => by
            have := ho2.lt8 (by intro e; rw [e] at h8; cases h8) ad e
            intro e2
            injection e2 with e2
            omega)
          obtain ⟨b, off, rfl, hbl, hc⟩ := hbs.byte (k := k) (by omega)
          have hfz := blk_frozen hI k
          obtain ⟨u, hp⟩ : ∃ u, wr.cell? ⟨w2.heap.size, k, none⟩ = some u := ⟨_, (blk_cell hI k).trans (Array.getElem?_eq_getElem (by rw [setArr_size]; exact hlt))⟩
          obtain rfl : 8 = m2 := by rw [← h8]; exact ho2.2
          have hst := blk_set hI k (.int .u8 ((body[k]'(by omega)).toNat : Int))
          rw [← setArr_take _ body k (by omega)] at hst
          have HS := Lib.hid hst
          generalize body[k]'(by omega) = y at hc HS
          clear hst hba2 ho2 hbs hI hS hG
          go_wp2
          go_roundw
          case rel => exact ⟨k + 1, by omega, by go_num, grown_trans hgr (grown_setCell _ _ _ _), HS.out⟩
          case measure => exact meas8 hlt
        · obtain rfl : k = 8 := by omega
          obtain ⟨x0, x1, x2, x3, x4, x5, x6, x7, rfl⟩ : ∃ x0 x1 x2 x3 x4 x5 x6 x7, body = [x0, x1, x2, x3, x4, x5, x6, x7] := by
            match body, h8 with
            | [x0, x1, x2, x3, x4, x5, x6, x7], _ => exact ⟨x0, x1, x2, x3, x4, x5, x6, x7, rfl⟩
          have hI2 : wr.heap[w2.heap.size]? = some (.cells #[.int .u8 (x0.toNat : Int), .int .u8 (x1.toNat : Int), .int .u8 (x2.toNat : Int), .int .u8 (x3.toNat : Int), .int .u8 (x4.toNat : Int), .int .u8 (x5.toNat : Int), .int .u8 (x6.toNat : Int), .int .u8 (x7.toNat : Int)] 60 (0, 0)) := hI
          have hn4 := (hgr.block w.heap.size (blk_lt hn3) (fun e => hne1 (Option.some.inj e))).trans hn3
          clear hI hn3 hnw
          have g0 := blk_frozen hn4 0
          have p0 : wr.cell? ⟨w.heap.size, 0, none⟩ = some (.int .u8 0) := blk_cell hn4 0
          have r0 : wr.cell? ⟨w2.heap.size, 0, none⟩ = some (.int .u8 (x0.toNat : Int)) := blk_cell hI2 0
          have g1 := blk_frozen hn4 1
          have p1 : wr.cell? ⟨w.heap.size, 1, none⟩ = some (.int .u8 0) := blk_cell hn4 1
          have r1 : wr.cell? ⟨w2.heap.size, 1, none⟩ = some (.int .u8 (x1.toNat : Int)) := blk_cell hI2 1
          have g2 := blk_frozen hn4 2
          have p2 : wr.cell? ⟨w.heap.size, 2, none⟩ = some (.int .u8 0) := blk_cell hn4 2
          have r2 : wr.cell? ⟨w2.heap.size, 2, none⟩ = some (.int .u8 (x2.toNat : Int)) := blk_cell hI2 2
          have g3 := blk_frozen hn4 3
          have p3 : wr.cell? ⟨w.heap.size, 3, none⟩ = some (.int .u8 0) := blk_cell hn4 3
          have r3 : wr.cell? ⟨w2.heap.size, 3, none⟩ = some (.int .u8 (x3.toNat : Int)) := blk_cell hI2 3
          have g4 := blk_frozen hn4 4
          have p4 : wr.cell? ⟨w.heap.size, 4, none⟩ = some (.int .u8 0) := blk_cell hn4 4
          have r4 : wr.cell? ⟨w2.heap.size, 4, none⟩ = some (.int .u8 (x4.toNat : Int)) := blk_cell hI2 4
          have g5 := blk_frozen hn4 5
          have p5 : wr.cell? ⟨w.heap.size, 5, none⟩ = some (.int .u8 0) := blk_cell hn4 5
          have r5 : wr.cell? ⟨w2.heap.size, 5, none⟩ = some (.int .u8 (x5.toNat : Int)) := blk_cell hI2 5
          have g6 := blk_frozen hn4 6
          have p6 : wr.cell? ⟨w.heap.size, 6, none⟩ = some (.int .u8 0) := blk_cell hn4 6
          have r6 : wr.cell? ⟨w2.heap.size, 6, none⟩ = some (.int .u8 (x6.toNat : Int)) := blk_cell hI2 6
          have g7 := blk_frozen hn4 7
          have p7 : wr.cell? ⟨w.heap.size, 7, none⟩ = some (.int .u8 0) := blk_cell hn4 7
          have r7 : wr.cell? ⟨w2.heap.size, 7, none⟩ = some (.int .u8 (x7.toNat : Int)) := blk_cell hI2 7
          clear hI2
          go_wp2
          have hb := setRow_block [.int .u8 (x0.toNat : Int), .int .u8 (x1.toNat : Int), .int .u8 (x2.toNat : Int), .int .u8 (x3.toNat : Int), .int .u8 (x4.toNat : Int), .int .u8 (x5.toNat : Int), .int .u8 (x6.toNat : Int), .int .u8 (x7.toNat : Int)] 0 hn4
          have q0 := blk_cell hb 0
          have q1 := blk_cell hb 1
          have q2 := blk_cell hb 2
          have q3 := blk_cell hb 3
          have q4 := blk_cell hb 4
          have q5 := blk_cell hb 5
          have q6 := blk_cell hb 6
          have q7 := blk_cell hb 7
          simp only [setRow, setArr, Nat.reduceAdd, Nat.zero_add] at q0 q1 q2 q3 q4 q5 q6 q7
          refine bodyPost_ret (v := .tuple #[.agg #[.int .u8 (x0.toNat : Int), .int .u8 (x1.toNat : Int), .int .u8 (x2.toNat : Int), .int .u8 (x3.toNat : Int), .int .u8 (x4.toNat : Int), .int .u8 (x5.toNat : Int), .int .u8 (x6.toNat : Int), .int .u8 (x7.toNat : Int)], .bool true]) (by simp [results, Try.f36, go_sem, q0, q1, q2, q3, q4, q5, q6, q7]) rfl ?_
          rw [HN.out]
          have hB4 := hB3.grown hgr hB3.size (fun k e => by cases e; exact Nat.le_of_lt hlt0)
          exact ⟨rfl, hB4.grown (setRow_grown (k := w.heap.size) [.int .u8 (x0.toNat : Int), .int .u8 (x1.toNat : Int), .int .u8 (x2.toNat : Int), .int .u8 (x3.toNat : Int), .int .u8 (x4.toNat : Int), .int .u8 (x5.toNat : Int), .int .u8 (x6.toNat : Int), .int .u8 (x7.toNat : Int)] wr 0) hB4.size (fun k e => by cases e; exact Nat.le_refl _)⟩
    · have HN := Lib.hid (show issS ss = ([0, 0, 0, 0, 0, 0, 0, 0], false) by rw [hN]; simp [h8])
      have H8 := Lib.hid h8
      clear hN h8
      have hnew := heap_alloc_new w (.cells #[.int .u8 0, .int .u8 0, .int .u8 0, .int .u8 0, .int .u8 0, .int .u8 0, .int .u8 0, .int .u8 0] 60)
      have hba := (Below.refl w.heap.size w).alloc (Nat.le_refl _) (.cells #[.int .u8 0, .int .u8 0, .int .u8 0, .int .u8 0, .int .u8 0, .int .u8 0, .int .u8 0, .int .u8 0] 60)
      go_enter Try.func36, Try.ntmps36
      go_wp2_with fail
      generalize w.alloc (.cells #[.int .u8 0, .int .u8 0, .int .u8 0, .int .u8 0, .int .u8 0, .int .u8 0, .int .u8 0, .int .u8 0] 60) = w1 at hnew hba ⊢
      refine (HC.out w1 hba).mono ?_
      rintro e w2 ⟨A2, m2, c2, rfl, ho2, hb2⟩
      have hB2 := below_then hba hba.size hb2
      have hn2 := (hb2.block w.heap.size (blk_lt hnew)).trans hnew
      have hba2 := (Below.refl w2.heap.size w2).alloc (Nat.le_refl _) (.cells #[.int .u8 0, .int .u8 0, .int .u8 0, .int .u8 0, .int .u8 0, .int .u8 0, .int .u8 0, .int .u8 0] 60)
      have hB3 := below_then hB2 hB2.size hba2
      have hn3 := (hba2.block w.heap.size (blk_lt hn2)).trans hn2
      have hnw := heap_alloc_new w2 (.cells #[.int .u8 0, .int .u8 0, .int .u8 0, .int .u8 0, .int .u8 0, .int .u8 0, .int .u8 0, .int .u8 0] 60)
      have hlt := blk_lt hn2
      have hne1 : ¬ w.heap.size = w2.heap.size := Nat.ne_of_lt hlt
      have hne2 : ¬ w2.heap.size = w.heap.size := fun e => hne1 e.symm
      have hd : ((m2 : Int) != 8) = true := by rw [bne_iff_ne]; have := ho2.2; have := H8.out; omega
      generalize hw3 : w2.alloc (.cells #[.int .u8 0, .int .u8 0, .int .u8 0, .int .u8 0, .int .u8 0, .int .u8 0, .int .u8 0, .int .u8 0] 60) = w3 at hba2 hB3 hn3 hnw
      have g0 := blk_frozen hn3 0
      have f0 := blk_frozen hnw 0
      have g1 := blk_frozen hn3 1
      have f1 := blk_frozen hnw 1
      have g2 := blk_frozen hn3 2
      have f2 := blk_frozen hnw 2
      have g3 := blk_frozen hn3 3
      have f3 := blk_frozen hnw 3
      have g4 := blk_frozen hn3 4
      have f4 := blk_frozen hnw 4
      have g5 := blk_frozen hn3 5
      have f5 := blk_frozen hnw 5
      have g6 := blk_frozen hn3 6
      have f6 := blk_frozen hnw 6
      have g7 := blk_frozen hn3 7
      have f7 := blk_frozen hnw 7
      have p0 : w3.cell? ⟨w.heap.size, 0, none⟩ = some (.int .u8 0) := blk_cell hn3 0
      have r0 : w3.cell? ⟨w2.heap.size, 0, none⟩ = some (.int .u8 0) := blk_cell hnw 0
      have p1 : w3.cell? ⟨w.heap.size, 1, none⟩ = some (.int .u8 0) := blk_cell hn3 1
      have r1 : w3.cell? ⟨w2.heap.size, 1, none⟩ = some (.int .u8 0) := blk_cell hnw 1
      have p2 : w3.cell? ⟨w.heap.size, 2, none⟩ = some (.int .u8 0) := blk_cell hn3 2
      have r2 : w3.cell? ⟨w2.heap.size, 2, none⟩ = some (.int .u8 0) := blk_cell hnw 2
      have p3 : w3.cell? ⟨w.heap.size, 3, none⟩ = some (.int .u8 0) := blk_cell hn3 3
      have r3 : w3.cell? ⟨w2.heap.size, 3, none⟩ = some (.int .u8 0) := blk_cell hnw 3
      have p4 : w3.cell? ⟨w.heap.size, 4, none⟩ = some (.int .u8 0) := blk_cell hn3 4
      have r4 : w3.cell? ⟨w2.heap.size, 4, none⟩ = some (.int .u8 0) := blk_cell hnw 4
      have p5 : w3.cell? ⟨w.heap.size, 5, none⟩ = some (.int .u8 0) := blk_cell hn3 5
      have r5 : w3.cell? ⟨w2.heap.size, 5, none⟩ = some (.int .u8 0) := blk_cell hnw 5
      have p6 : w3.cell? ⟨w.heap.size, 6, none⟩ = some (.int .u8 0) := blk_cell hn3 6
      have r6 : w3.cell? ⟨w2.heap.size, 6, none⟩ = some (.int .u8 0) := blk_cell hnw 6
      have p7 : w3.cell? ⟨w.heap.size, 7, none⟩ = some (.int .u8 0) := blk_cell hn3 7
      have r7 : w3.cell? ⟨w2.heap.size, 7, none⟩ = some (.int .u8 0) := blk_cell hnw 7
      clear hba2 hn2 hnew
      go_wp2
      have hn4 := ((setRow_grown (k := w2.heap.size) [.int .u8 0, .int .u8 0, .int .u8 0, .int .u8 0, .int .u8 0, .int .u8 0, .int .u8 0, .int .u8 0] w3 0).block w.heap.size (blk_lt hn3) (fun e => hne1 (Option.some.inj e))).trans hn3
      have hb := setRow_block [.int .u8 0, .int .u8 0, .int .u8 0, .int .u8 0, .int .u8 0, .int .u8 0, .int .u8 0, .int .u8 0] 0 hn4
      have q0 := blk_cell hb 0
      have q1 := blk_cell hb 1
      have q2 := blk_cell hb 2
      have q3 := blk_cell hb 3
      have q4 := blk_cell hb 4
      have q5 := blk_cell hb 5
      have q6 := blk_cell hb 6
      have q7 := blk_cell hb 7
      simp only [setRow, setArr, Nat.reduceAdd, Nat.zero_add] at q0 q1 q2 q3 q4 q5 q6 q7
      refine bodyPost_ret (v := .tuple #[.agg #[.int .u8 0, .int .u8 0, .int .u8 0, .int .u8 0, .int .u8 0, .int .u8 0, .int .u8 0, .int .u8 0], .bool false]) (by simp [results, Try.f36, go_sem, q0, q1, q2, q3, q4, q5, q6, q7]) rfl ?_
      rw [HN.out]
      have hB4 := hB3.grown (setRow_grown (k := w2.heap.size) [.int .u8 0, .int .u8 0, .int .u8 0, .int .u8 0, .int .u8 0, .int .u8 0, .int .u8 0, .int .u8 0] w3 0) hB3.size (fun k e => by cases e; exact Nat.le_of_lt hlt)
      exact ⟨rfl, hB4.grown (setRow_grown (k := w.heap.size) [.int .u8 0, .int .u8 0, .int .u8 0, .int .u8 0, .int .u8 0, .int .u8 0, .int .u8 0, .int .u8 0] _ 0) hB4.size (fun k e => by cases e; exact Nat.le_refl _)⟩
end Go.Proofs.Ytegbncngencfnaa
