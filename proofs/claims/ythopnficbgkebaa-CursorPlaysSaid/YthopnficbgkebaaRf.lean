/- The document's cursor. -/
import Derived.Test.YthopnficbgkebaaCua
import Derived.Test.YthopnficbgkebaaSt
import Derived.Deep.RegionHeld
namespace Go.Proofs.Ythopnficbgkebaa
open Go.RowKit
set_option linter.unusedSimpArgs false

theorem heap_lt (w : World) (o : Obj) {k : Nat} (h : k < w.heap.size) : (w.alloc o).heap[k]? = w.heap[k]? := (((Below.refl w.heap.size w).alloc (Nat.le_refl _) o).block k h)
theorem below_two {w : World} (o p : Obj) : Below w.heap.size w ((w.alloc o).alloc p) := ((Below.refl _ _).alloc (Nat.le_refl _) o).alloc (by simp) p
theorem below_set {w w' : World} (h : Below w.heap.size w w') (k j : Nat) (v : Value) : Below w.heap.size w (w'.setCell ⟨w.heap.size + k, j, none⟩ v) := h.setCell (by show w.heap.size ≤ w.heap.size + k; omega) v

set_option maxHeartbeats 800000 in
theorem rBack_calls {A : Option Addr} {n c at_ : Nat} {w : World} (ha : at_ ≤ n) (hn : n ≤ 4294967296) (k : Int) :
    Calls Try.prog 33 #[.agg #[.slice A n c, .int .i64 (at_ : Int)], .int .i64 k] w fun e w' => e = .returned (.tuple #[.agg #[.slice A n c, .int .i64 ((backS at_ k).2 : Int)], .int .i64 (backS at_ k).1]) ∧ Below w.heap.size w w' := by
  by_cases h0 : k < 0
  · have ht := Lib.hid (show backS at_ k = (1, at_) by rw [backS, if_pos (by omega)])
    go_enter Try.func33, Try.ntmps33
    go_wp2
    refine bodyPost_ret (v := .tuple #[.agg #[.slice A n c, .int .i64 (at_ : Int)], .int .i64 1]) (by simp [results, Try.results33, go_sem]) rfl ?_
    rw [ht.out]
    exact ⟨rfl, below_two _ _⟩
  · by_cases h1 : (at_ : Int) < k
    · have ht := Lib.hid (show backS at_ k = (1, at_) by rw [backS, if_pos (by omega)])
      go_enter Try.func33, Try.ntmps33
      go_wp2
      refine bodyPost_ret (v := .tuple #[.agg #[.slice A n c, .int .i64 (at_ : Int)], .int .i64 1]) (by simp [results, Try.results33, go_sem]) rfl ?_
      rw [ht.out]
      exact ⟨rfl, below_two _ _⟩
    · obtain ⟨j, rfl⟩ := Int.eq_ofNat_of_zero_le (by omega : 0 ≤ k)
      have ht := Lib.hid (show backS at_ (j : Int) = (0, at_ - j) by rw [backS, if_neg (by omega)]; simp)
      have e : (at_ : Int) - j = ((at_ - j : Nat) : Int) := by omega
      go_enter Try.func33, Try.ntmps33
      go_wp2
      refine bodyPost_ret (v := .tuple #[.agg #[.slice A n c, .int .i64 ((at_ - j : Nat) : Int)], .int .i64 0]) (by simp [results, Try.results33, go_sem]) rfl ?_
      rw [ht.out]
      exact ⟨rfl, below_two _ _⟩

set_option maxHeartbeats 1600000 in
theorem rTake_calls {A : Option Addr} {n c at_ : Nat} {l : List UInt8} {w : World} (h : Bs w A n c l) (ha : at_ ≤ n) (hn : n ≤ 4294967296) (k : Int) :
    Calls Try.prog 31 #[.agg #[.slice A n c, .int .i64 (at_ : Int)], .int .i64 k] w fun e w' => ∃ A' m' c', e = .returned (.tuple #[.agg #[.slice A n c, .int .i64 ((takeS l at_ k).2.2 : Int)], .slice A' m' c', .int .i64 (takeS l at_ k).2.1]) ∧ Own w' w.heap.size A' m' c' (takeS l at_ k).1 ∧ Below w.heap.size w w' := by
  obtain rfl := h.2
  by_cases h0 : k < 0
  · have ht := Lib.hid (show takeS l at_ k = ([], 1, at_) by rw [takeS, if_pos h0])
    go_enter Try.func31, Try.ntmps31
    go_wp2
    refine bodyPost_ret (v := .tuple #[.agg #[.slice A l.length c, .int .i64 (at_ : Int)], .slice none 0 0, .int .i64 1]) (by simp [results, Try.results31, go_sem]) rfl ?_
    rw [ht.out]
    exact ⟨_, _, _, rfl, Own.nil_ _ _, below_two _ _⟩
  · by_cases h1 : (l.length : Int) - at_ < k
    · have ht := Lib.hid (show takeS l at_ k = ([], 2, at_) by rw [takeS, if_neg h0, if_pos h1])
      go_enter Try.func31, Try.ntmps31
      go_wp2
      refine bodyPost_ret (v := .tuple #[.agg #[.slice A l.length c, .int .i64 (at_ : Int)], .slice none 0 0, .int .i64 2]) (by simp [results, Try.results31, go_sem]) rfl ?_
      rw [ht.out]
      exact ⟨_, _, _, rfl, Own.nil_ _ _, below_two _ _⟩
    · obtain ⟨j, rfl⟩ := Int.eq_ofNat_of_zero_le (by omega : 0 ≤ k)
      have ht := Lib.hid (show takeS l at_ (j : Int) = ((l.drop at_).take j, 0, at_ + j) by rw [takeS, if_neg h0, if_neg h1]; simp)
      have hc := h.cap
      unfold maxLen at hc
      have b1 : at_ + j ≤ c := by omega
      have e3 : ((at_ : Int) + j).toNat = at_ + j := by omega
      have hr3 := (h.from_ ha).upto (k := j) (by omega)
      have hh0 : (((w.alloc (.cells #[.slice A l.length c, .int .i64 (at_ : Int)] 53)).alloc (.cells #[.slice none 0 0, .int .i64 0] 53)).alloc (.cells #[] 5)).heap[w.heap.size]? = some (.cells #[.slice A l.length c, .int .i64 (at_ : Int)] 53 (0, 0)) := by
        rw [heap_lt _ _ (by simp; omega), heap_lt _ _ (by simp), heap_alloc_new]
      have hh1 : (((w.alloc (.cells #[.slice A l.length c, .int .i64 (at_ : Int)] 53)).alloc (.cells #[.slice none 0 0, .int .i64 0] 53)).alloc (.cells #[] 5)).heap[w.heap.size + 1]? = some (.cells #[.slice none 0 0, .int .i64 0] 53 (0, 0)) := by
        rw [heap_lt _ _ (by simp)]
        have := heap_alloc_new (w.alloc (.cells #[.slice A l.length c, .int .i64 (at_ : Int)] 53)) (.cells #[.slice none 0 0, .int .i64 0] 53)
        simpa using this
      have hem : Own (((w.alloc (.cells #[.slice A l.length c, .int .i64 (at_ : Int)] 53)).alloc (.cells #[.slice none 0 0, .int .i64 0] 53)).alloc (.cells #[] 5)) w.heap.size (some ⟨w.heap.size + 1 + 1, 0, none⟩) 0 0 [] := by
        have := (empty8 ((w.alloc (.cells #[.slice A l.length c, .int .i64 (at_ : Int)] 53)).alloc (.cells #[.slice none 0 0, .int .i64 0] 53))).lower (B' := w.heap.size) (by simp; omega)
        simpa using this
      have hal := (below_two (w := w) (.cells #[.slice A l.length c, .int .i64 (at_ : Int)] 53) (.cells #[.slice none 0 0, .int .i64 0] 53)).alloc (by simp; omega) (.cells #[] 5)
      have hr4 := hr3.below hal
      have hsz : w.heap.size + 2 ≤ (((w.alloc (.cells #[.slice A l.length c, .int .i64 (at_ : Int)] 53)).alloc (.cells #[.slice none 0 0, .int .i64 0] 53)).alloc (.cells #[] 5)).heap.size := by simp
      go_enter Try.func31, Try.ntmps31
      go_wp2_with (at_builtin; go_must (refine app8 (.tmp 20) (.tmp 29) rfl rfl rfl hem rfl hr4 (by omega) hal.size ?_); intro A3 c3 w3 hown3 hg3 hat3; go_must (
        have g0 := (hg3.block w.heap.size (by omega) (fun e => by have e' : w.heap.size = w.heap.size + 1 + 1 := (by injection e); omega)).trans hh0
        have g1 := (hg3.block (w.heap.size + 1) (by omega) (fun e => by have e' : w.heap.size + 1 = w.heap.size + 1 + 1 := (by injection e); omega)).trans hh1
        have q0 := blk_cell g0 0
        have q1 := blk_cell g0 1
        have q2 := blk_frozen g0 1
        have p0 := blk_cell g1 0
        have p1 := blk_cell g1 1
        have p2 := blk_frozen g1 0
        have p3 := blk_frozen g1 1
        have hb3 := hem.grew hal hal.size hg3))
      all_goals
        have hbl3 : ∀ ad, A3 = some ad → w.heap.size + 1 < ad.block := fun ad e => by
          rcases hat3 ad e with e2 | e2
          · have e' : w.heap.size + 1 + 1 = ad.block := by injection e2
            omega
          · rw [e2]; simp
        have hown4 : Own w3 w.heap.size A3 j c3 (List.take j (List.drop at_ l)) := by simpa using hown3
        have hown5 := fun (u v x : Value) => ((hown4.grown (grown_setCell w3 w.heap.size 1 u) (fun ad e e2 => by have := hbl3 ad e; injection e2 with e2; omega)).grown (grown_setCell _ (w.heap.size + 1) 0 v) (fun ad e e2 => by have := hbl3 ad e; injection e2 with e2; omega)).grown (grown_setCell _ (w.heap.size + 1) 1 x) (fun ad e e2 => by have := hbl3 ad e; injection e2 with e2; omega)
      case inl =>
        refine bodyPost_ret (v := .tuple #[.agg #[.slice A l.length at_, .int .i64 ((at_ : Int) + j)], .slice A3 j c3, .int .i64 0]) (by simp [results, Try.results31, go_sem, p0, p1]) rfl ?_
        rw [ht.out]
        refine ⟨A3, j, c3, by simp, hown5 _ _ _, ?_⟩
        exact ((hb3.setCell (Nat.le_refl _) _).setCell (by show w.heap.size ≤ w.heap.size + 1; omega) _).setCell (by show w.heap.size ≤ w.heap.size + 1; omega) _
      case inr =>
        refine bodyPost_ret (v := .tuple #[.agg #[.slice A l.length c, .int .i64 ((at_ : Int) + j)], .slice A3 j c3, .int .i64 0]) (by simp [results, Try.results31, go_sem, p0, p1]) rfl ?_
        rw [ht.out]
        refine ⟨A3, j, c3, by simp, hown5 _ _ _, ?_⟩
        exact ((hb3.setCell (Nat.le_refl _) _).setCell (by show w.heap.size ≤ w.heap.size + 1; omega) _).setCell (by show w.heap.size ≤ w.heap.size + 1; omega) _

set_option maxHeartbeats 1600000 in
theorem rNumber_calls {A : Option Addr} {n c at_ : Nat} {l : List UInt8} {w : World} (h : Bs w A n c l) (ha : at_ ≤ n) (hn : n ≤ 4294967296) (k : Int) :
    Calls Try.prog 32 #[.agg #[.slice A n c, .int .i64 (at_ : Int)], .int .i64 k] w fun e w' => e = .returned (.tuple #[.agg #[.slice A n c, .int .i64 ((numS l at_ k).2.2 : Int)], .int .u64 (numS l at_ k).1, .int .i64 (numS l at_ k).2.1]) ∧ Below w.heap.size w w' := by
  obtain rfl := h.2
  by_cases h0 : k < 1
  · have ht := Lib.hid (show numS l at_ k = (0, 1, at_) by rw [numS, if_pos (by omega)])
    go_enter Try.func32, Try.ntmps32
    go_wp2
    refine bodyPost_ret (v := .tuple #[.agg #[.slice A l.length c, .int .i64 (at_ : Int)], .int .u64 0, .int .i64 1]) (by simp [results, Try.results32, go_sem]) rfl ?_
    rw [ht.out]
    exact ⟨rfl, below_two _ _⟩
  · by_cases h1 : 8 < k
    · have ht := Lib.hid (show numS l at_ k = (0, 1, at_) by rw [numS, if_pos (by omega)])
      go_enter Try.func32, Try.ntmps32
      go_wp2
      refine bodyPost_ret (v := .tuple #[.agg #[.slice A l.length c, .int .i64 (at_ : Int)], .int .u64 0, .int .i64 1]) (by simp [results, Try.results32, go_sem]) rfl ?_
      rw [ht.out]
      exact ⟨rfl, below_two _ _⟩
    · have ht := Lib.hid (show numS l at_ k = (val (takeS l at_ k).1, (takeS l at_ k).2.1, (takeS l at_ k).2.2) by rw [numS, if_neg (by omega)])
      have hh0 : ((w.alloc (.cells #[.slice A l.length c, .int .i64 (at_ : Int)] 53)).alloc (.cells #[.slice none 0 0, .int .i64 0] 53)).heap[w.heap.size]? = some (.cells #[.slice A l.length c, .int .i64 (at_ : Int)] 53 (0, 0)) := by
        rw [heap_lt _ _ (by simp), heap_alloc_new]
      have hh1 : ((w.alloc (.cells #[.slice A l.length c, .int .i64 (at_ : Int)] 53)).alloc (.cells #[.slice none 0 0, .int .i64 0] 53)).heap[w.heap.size + 1]? = some (.cells #[.slice none 0 0, .int .i64 0] 53 (0, 0)) := by
        have := heap_alloc_new (w.alloc (.cells #[.slice A l.length c, .int .i64 (at_ : Int)] 53)) (.cells #[.slice none 0 0, .int .i64 0] 53)
        simpa using this
      have hal := below_two (w := w) (.cells #[.slice A l.length c, .int .i64 (at_ : Int)] 53) (.cells #[.slice none 0 0, .int .i64 0] 53)
      have hsz : w.heap.size + 2 ≤ ((w.alloc (.cells #[.slice A l.length c, .int .i64 (at_ : Int)] 53)).alloc (.cells #[.slice none 0 0, .int .i64 0] 53)).heap.size := by simp
      go_enter Try.func32, Try.ntmps32
      go_wp2_with fail
      generalize ((w.alloc (.cells #[.slice A l.length c, .int .i64 (at_ : Int)] 53)).alloc (.cells #[.slice none 0 0, .int .i64 0] 53)) = w2 at hh0 hh1 hal hsz ⊢
      refine (rTake_calls (h.below hal) ha hn k).mono ?_
      rintro e w3 ⟨A3, m3, c3, rfl, ho3, hb3⟩
      generalize takeS l at_ k = x at ho3 ht ⊢
      have g0 := (hb3.block w.heap.size (by omega)).trans hh0
      have g1 := (hb3.block (w.heap.size + 1) (by omega)).trans hh1
      have q0 := blk_cell g0 0
      have q1 := blk_cell g0 1
      have q2 := blk_frozen g0 0
      have q3 := blk_frozen g0 1
      have hB3 := below_then hal hal.size hb3
      go_wp2_with fail
      have G0 := blk_set (blk_set g0 0 (.slice A l.length c)) 1 (.int .i64 (x.2.2 : Int))
      have hgr : w3.grownBy ((w3.setCell ⟨w.heap.size, 0, none⟩ (.slice A l.length c)).setCell ⟨w.heap.size, 1, none⟩ (.int .i64 (x.2.2 : Int))) (some w.heap.size) := grown_trans (grown_setCell _ _ _ _) (grown_setCell _ _ _ _)
      have G1 := (hgr.block (w.heap.size + 1) (by have := hb3.size; omega) (fun e => by injection e with e; omega)).trans g1
      have hA3 : ∀ ad, A3 = some ad → some ad.block ≠ some (w.heap.size + 1) := fun ad e e2 => by have := (ho3.blk ad e).1; injection e2 with e2; omega
      have hs3 := (ho3.grown hgr (fun ad e e2 => by have := (ho3.blk ad e).1; injection e2 with e2; omega)).bs
      have hB4 := hB3.grown hgr hB3.size (fun i e => by cases e; exact Nat.le_refl _)
      clear hh0 hh1 q0 q1 q2 q3 ho3 g0 g1
      generalize (w3.setCell ⟨w.heap.size, 0, none⟩ (.slice A l.length c)).setCell ⟨w.heap.size, 1, none⟩ (.int .i64 (x.2.2 : Int)) = w4 at G0 G1 hs3 hB4 hgr ⊢
      clear hgr
      have p4 : w4.cell? ⟨w.heap.size + 1, 0, none⟩ = some (.slice none 0 0) := blk_cell G1 0
      have p5 : w4.cell? ⟨w.heap.size + 1, 1, none⟩ = some (.int .i64 0) := blk_cell G1 1
      have p6 : w4.frozen? ⟨w.heap.size + 1, 0, none⟩ = false := blk_frozen G1 0
      have p7 : w4.frozen? ⟨w.heap.size + 1, 1, none⟩ = false := blk_frozen G1 1
      have p0 : w4.drew.cell? ⟨w.heap.size + 1, 0, none⟩ = some (.slice none 0 0) := blk_cell G1 0
      have p1 : w4.drew.cell? ⟨w.heap.size + 1, 1, none⟩ = some (.int .i64 0) := blk_cell G1 1
      have q0 : w4.drew.cell? ⟨w.heap.size, 0, none⟩ = some (.slice A l.length c) := blk_cell G0 0
      have q1 : w4.drew.cell? ⟨w.heap.size, 1, none⟩ = some (.int .i64 (x.2.2 : Int)) := blk_cell G0 1
      have p2 : w4.drew.frozen? ⟨w.heap.size + 1, 0, none⟩ = false := blk_frozen G1 0
      have p3 : w4.drew.frozen? ⟨w.heap.size + 1, 1, none⟩ = false := blk_frozen G1 1
      have hgr2 : w4.grownBy ((w4.setCell ⟨w.heap.size + 1, 0, none⟩ (.slice A l.length c)).setCell ⟨w.heap.size + 1, 1, none⟩ (.int .i64 (x.2.2 : Int))) (some (w.heap.size + 1)) := grown_trans (grown_setCell _ _ _ _) (grown_setCell _ _ _ _)
      have G2 := (hgr2.block w.heap.size (blk_lt G0) (fun e => by injection e with e; omega)).trans G0
      have hs6 := (hs3.grown hgr2 hA3).drew
      have hs5 := hs3.drew
      have hB5 := hB4.drew
      have GG := Lib.hid G2
      clear G0 G1 G2 hgr2 hs3 hB4
      go_region_held (fun w' => w'.cell? ⟨w.heap.size, 0, none⟩ = some (.slice A l.length c) ∧ w'.cell? ⟨w.heap.size, 1, none⟩ = some (.int .i64 (x.2.2 : Int))) (first | exact ⟨q0, q1⟩ | exact ⟨blk_cell GG.out 0, blk_cell GG.out 1⟩) (first
        | (go_at_call 36; refine (Value_calls hs5).mono ?_; rintro e w6 ⟨rfl, rfl⟩)
        | (go_at_call 36; refine (Value_calls hs6).mono ?_; rintro e w6 ⟨rfl, rfl⟩))
      all_goals
        go_wp2
        refine bodyPost_ret (v := .tuple #[.agg #[.slice A l.length c, .int .i64 (x.2.2 : Int)], .int .u64 (val x.1), .int .i64 x.2.1]) (by simp [results, Try.results32, go_sem, p0, p1, p4, p5]) rfl ?_
        rw [ht.out]
        exact ⟨rfl, (hB5.setCell (by show w.heap.size ≤ w.heap.size + 1; omega) _).setCell (by show w.heap.size ≤ w.heap.size + 1; omega) _⟩
end Go.Proofs.Ythopnficbgkebaa
