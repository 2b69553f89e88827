/- The document's ParsePass. -/
import Derived.Test.YtegbncngencfnaaLj
import Derived.Test.YtegbncngencfnaaSx
import Derived.Lib.ItoaWalk
import Derived.Deep.Cut
namespace Go.Proofs.Ytegbncngencfnaa
open Go.RowKit

/-- The result's block and 'none' are laid. -/
structure P0 (w W : World) : Prop where
  R : W.heap[w.heap.size]? = some (.cells #[.int .i64 0, .int .i64 0, .int .i64 0, .int .i64 0, .slice none 0 0, .slice none 0 0, .bool false] 45 (0, 0))
  z : W.heap[w.heap.size + 1]? = some (.cells #[.int .i64 0, .int .i64 0, .int .i64 0, .int .i64 0, .slice none 0 0, .slice none 0 0, .bool false] 45 (0, 0))
  B : Below w.heap.size w W
/-- And p, which holds ps. -/
structure PP (w W : World) (ps : Array Value) : Prop extends P0 w W where
  P : W.heap[w.heap.size + 2]? = some (.cells ps 45 (0, 0))
theorem P0.mk_ {w w1 : World} (h : (w.alloc (.cells #[.int .i64 0, .int .i64 0, .int .i64 0, .int .i64 0, .slice none 0 0, .slice none 0 0, .bool false] 45)).alloc (.cells #[.int .i64 0, .int .i64 0, .int .i64 0, .int .i64 0, .slice none 0 0, .slice none 0 0, .bool false] 45) = w1) : P0 w w1 ∧ w1.heap.size = w.heap.size + 2 := by
  subst h
  refine ⟨⟨?_, ?_, ((Below.refl _ w).alloc (Nat.le_refl _) _).alloc (by simp) _⟩, by simp⟩
  · exact (((Below.refl _ (w.alloc (.cells #[.int .i64 0, .int .i64 0, .int .i64 0, .int .i64 0, .slice none 0 0, .slice none 0 0, .bool false] 45))).alloc (Nat.le_refl _) _).block w.heap.size (by simp)).trans (heap_alloc_new w _)
  · have := heap_alloc_new (w.alloc (.cells #[.int .i64 0, .int .i64 0, .int .i64 0, .int .i64 0, .slice none 0 0, .slice none 0 0, .bool false] 45)) (.cells #[.int .i64 0, .int .i64 0, .int .i64 0, .int .i64 0, .slice none 0 0, .slice none 0 0, .bool false] 45)
    simpa using this
theorem PP.mk_ {w w1 w2 : World} {ps : Array Value} (H : P0 w w1) (hs : w1.heap.size = w.heap.size + 2) (h : w1.alloc (.cells ps 45) = w2) : PP w w2 ps := by
  subst h
  have hb := (Below.refl w1.heap.size w1).alloc (Nat.le_refl _) (.cells ps 45)
  refine ⟨⟨(hb.block _ (by omega)).trans H.R, (hb.block _ (by omega)).trans H.z, below_then H.B H.B.size hb⟩, ?_⟩
  rw [← hs]
  exact heap_alloc_new w1 _
theorem PP.set {w W W2 : World} {ps : Array Value} (H : PP w W ps) {i : Nat} {u : Value} (h : W.setCell ⟨w.heap.size + 2, i, none⟩ u = W2) : PP w W2 (ps.setIfInBounds i u) := by
  subst h
  have hb := (Below.refl (w.heap.size + 2) W).setCell (p := ⟨w.heap.size + 2, i, none⟩) (Nat.le_refl _) u
  exact ⟨⟨(hb.block _ (by omega)).trans H.R, (hb.block _ (by omega)).trans H.z, H.B.trans (hb.mono (by omega))⟩, blk_set H.P i u⟩
theorem PP.drewN {w W : World} {ps : Array Value} (H : PP w W ps) (n : Nat) : PP w (W.drewN n) ps := ⟨⟨H.R, H.z, below_drewN H.B n⟩, H.P⟩
theorem PP.drew {w W : World} {ps : Array Value} (H : PP w W ps) : PP w W.drew ps := ⟨⟨H.R, H.z, H.B.drew⟩, H.P⟩

def ParsePassPost (l : List UInt8) (w : World) (e : Ending) (w' : World) : Prop := ∃ A1 m1 c1 A2 m2 c2 r, e = .returned (.tuple #[.agg #[.int .i64 (parseP l).1.1, .int .i64 (parseP l).1.2.1, .int .i64 (parseP l).1.2.2.1, .int .i64 (parseP l).1.2.2.2.1, .slice A1 m1 c1, .slice A2 m2 c2, .bool (parseP l).1.2.2.2.2.2.2], .int .i64 r]) ∧
      Bs w' A1 m1 c1 (parseP l).1.2.2.2.2.1 ∧ Bs w' A2 m2 c2 (parseP l).1.2.2.2.2.2.1 ∧ r = (parseP l).2 ∧ Below w.heap.size w w'
theorem wrap8 (x : UInt8) : wrap64 (x.toNat : Int) = (x.toNat : Int) ∧ IntKind.i64.wrap (x.toNat : Int) = (x.toNat : Int) := by
  have := x.toNat_lt
  exact ⟨IntWalk.wrap64_in _ (by omega), IntWalk.i64_in _ (by omega)⟩
theorem bs_cell {w W : World} {b off n c k : Nat} {l : List UInt8} (h : Bs w (some ⟨b, off, none⟩) n c l) (hB : Below w.heap.size w W) (hk : k < l.length) : W.cell? ⟨b, off + k, none⟩ = some (.int .u8 ((l[k]).toNat : Int)) := by
  obtain ⟨b', off', e', hlt, hc⟩ := h.byte hk
  injection e' with e'
  injection e' with e1 e2
  subst e1
  subst e2
  exact (hB.cell (p := ⟨b, off + k, none⟩) hlt).trans hc
/-- What stands behind the algorithm, where the version is 6. -/
def saltP (v ty ha pu : Int) : List UInt8 → PassV × Int
  | [] => (noP, 2)
  | k :: r4 => if (k.toNat : Int) = saltS ha then (if r4.length < k.toNat then (noP, 2) else tailP v ty ha pu (r4.take k.toNat) 32 (r4.drop k.toNat)) else (noP, 3)
theorem k_facts (k : UInt8) : ∃ K : Nat, Hid (K = 1 + k.toNat) ∧ (1 : Int) + (k.toNat : Int) = (K : Int) ∧ IntKind.i64.wrap (K : Int) = (K : Int) ∧ IntKind.i64.wrap ((1 : Int) + (k.toNat : Int)) = (K : Int) := by
  have := k.toNat_lt
  refine ⟨1 + k.toNat, Lib.hid rfl, by omega, IntWalk.i64_in _ (by omega), ?_⟩
  rw [IntWalk.i64_in _ (by omega)]
  omega
theorem slice_upto (A : Option Addr) (n c j : Nat) (hj : j ≤ c) (y : Int) (hy : y = j) (W : World) :
    (Instr.sliceAt 22 (.slice A n c) none (some (.int .i64 y)) none).run Try.prog W = .ok (.slice A j c) W := by
  subst hy
  rw [run_sliceAt_slice W 22 _ _ _ _ (by kernel_rfl), run_slice_h W 22 A n c (by kernel_rfl) .i64 j (by omega) (by omega)]
  have hz : ∀ w, (sizeOf (Try.prog.elem 22)).run Try.prog w = .ok 1 w := fun w => by kernel_rfl
  rw [hz]
  cases A <;> simp [Result.andThen, sliced, Addr.add]
theorem slice_some (b off c k : Nat) : ∃ o, (if c = k then (some ⟨b, off, none⟩ : Option Addr) else (some ⟨b, off, none⟩ : Option Addr).map (·.add k)) = some ⟨b, o, none⟩ := by
  split
  · exact ⟨off, rfl⟩
  · rename_i h
    by_cases hk : k = 0
    · subst hk; exact ⟨off, rfl⟩
    · exact ⟨off + k, by simp [Addr.add, hk]⟩

set_option maxRecDepth 100000 in
set_option maxHeartbeats 3200000 in
theorem rParsePass_calls {A : Option Addr} {n c : Nat} {l : List UInt8} {w : World} (h : Bs w A n c l) (hn : n ≤ 4294967296) :
    Calls Try.prog 22 #[.slice A n c] w (ParsePassPost l w) := by
  have HN := Lib.hid hn
  have HL := Lib.hid h.2
  by_cases h0 : n < 1
  · have HE := Lib.hid (show parseP l = (noP, 2) by rw [List.eq_nil_of_length_eq_zero (by have := HL.out; omega : l.length = 0)]; rfl)
    have hd1 : decide ((n : Int) < 1) = true := decide_eq_true (by omega)
    clear h0 HL h hn
    go_enter Try.func22, Try.ntmps22
    go_upto_if 11 with fail
    go_name_world w1 hw1
    obtain ⟨H1, hs1⟩ := P0.mk_ hw1
    clear hw1 hs1
    have z0 : w1.cell? ⟨w.heap.size + 1, 0, none⟩ = some (.int .i64 0) := blk_cell H1.z 0
    have z1 : w1.cell? ⟨w.heap.size + 1, 1, none⟩ = some (.int .i64 0) := blk_cell H1.z 1
    have z2 : w1.cell? ⟨w.heap.size + 1, 2, none⟩ = some (.int .i64 0) := blk_cell H1.z 2
    have z3 : w1.cell? ⟨w.heap.size + 1, 3, none⟩ = some (.int .i64 0) := blk_cell H1.z 3
    have z4 : w1.cell? ⟨w.heap.size + 1, 4, none⟩ = some (.slice none 0 0) := blk_cell H1.z 4
    have z5 : w1.cell? ⟨w.heap.size + 1, 5, none⟩ = some (.slice none 0 0) := blk_cell H1.z 5
    have z6 : w1.cell? ⟨w.heap.size + 1, 6, none⟩ = some (.bool false) := blk_cell H1.z 6
    have Rf0 := blk_frozen H1.R 0
    have R0 : w1.cell? ⟨w.heap.size, 0, none⟩ = some (.int .i64 0) := blk_cell H1.R 0
    have Rf1 := blk_frozen H1.R 1
    have R1 : w1.cell? ⟨w.heap.size, 1, none⟩ = some (.int .i64 0) := blk_cell H1.R 1
    have Rf2 := blk_frozen H1.R 2
    have R2 : w1.cell? ⟨w.heap.size, 2, none⟩ = some (.int .i64 0) := blk_cell H1.R 2
    have Rf3 := blk_frozen H1.R 3
    have R3 : w1.cell? ⟨w.heap.size, 3, none⟩ = some (.int .i64 0) := blk_cell H1.R 3
    have Rf4 := blk_frozen H1.R 4
    have R4 : w1.cell? ⟨w.heap.size, 4, none⟩ = some (.slice none 0 0) := blk_cell H1.R 4
    have Rf5 := blk_frozen H1.R 5
    have R5 : w1.cell? ⟨w.heap.size, 5, none⟩ = some (.slice none 0 0) := blk_cell H1.R 5
    have Rf6 := blk_frozen H1.R 6
    have R6 : w1.cell? ⟨w.heap.size, 6, none⟩ = some (.bool false) := blk_cell H1.R 6
    have u0 := blk_cell (setRow_block (k := w.heap.size) [.int .i64 0] 0 H1.R) 0
    have u1 := blk_cell (setRow_block (k := w.heap.size) [.int .i64 0, .int .i64 0] 0 H1.R) 1
    have u2 := blk_cell (setRow_block (k := w.heap.size) [.int .i64 0, .int .i64 0, .int .i64 0] 0 H1.R) 2
    have u3 := blk_cell (setRow_block (k := w.heap.size) [.int .i64 0, .int .i64 0, .int .i64 0, .int .i64 0] 0 H1.R) 3
    have u4 := blk_cell (setRow_block (k := w.heap.size) [.int .i64 0, .int .i64 0, .int .i64 0, .int .i64 0, .slice none 0 0] 0 H1.R) 4
    have u5 := blk_cell (setRow_block (k := w.heap.size) [.int .i64 0, .int .i64 0, .int .i64 0, .int .i64 0, .slice none 0 0, .slice none 0 0] 0 H1.R) 5
    have u6 := blk_cell (setRow_block (k := w.heap.size) [.int .i64 0, .int .i64 0, .int .i64 0, .int .i64 0, .slice none 0 0, .slice none 0 0, .bool false] 0 H1.R) 6
    have hgR := setRow_grown (k := w.heap.size) [.int .i64 0, .int .i64 0, .int .i64 0, .int .i64 0, .slice none 0 0, .slice none 0 0, .bool false] w1 0
    have hBR := H1.B.grown hgR H1.B.size (fun k e => by cases e; exact Nat.le_refl _)
    simp only [setRow, setArr, Nat.reduceAdd, Nat.zero_add] at u0 u1 u2 u3 u4 u5 u6
    have Q0 := Lib.hid u0
    have Q1 := Lib.hid u1
    have Q2 := Lib.hid u2
    have Q3 := Lib.hid u3
    have Q4 := Lib.hid u4
    have Q5 := Lib.hid u5
    have Q6 := Lib.hid u6
    have HBR := Lib.hid hBR
    clear u0 u1 u2 u3 u4 u5 u6 hgR hBR
    go_wp2
    refine bodyPost_ret (v := .tuple #[.agg #[.int .i64 0, .int .i64 0, .int .i64 0, .int .i64 0, .slice none 0 0, .slice none 0 0, .bool false], .int .i64 2]) (by simp [results, Try.f22, go_sem, Q0.out, Q1.out, Q2.out, Q3.out, Q4.out, Q5.out, Q6.out]) rfl ?_
    unfold ParsePassPost
    rw [HE.out]
    exact ⟨none, 0, 0, none, 0, 0, 2, rfl, Bs.nil_ _, Bs.nil_ _, rfl, HBR.out⟩
  · obtain ⟨v, r, hvr⟩ : ∃ v r, l = v :: r := by
      cases l with
      | nil => have := HL.out; simp at this; omega
      | cons v r => exact ⟨v, r, rfl⟩
    have HR := Lib.hid hvr
    have hlr : n = r.length + 1 := by rw [← HL.out, hvr]; rfl
    obtain ⟨b, off, rfl, hbl, -⟩ := h.byte (k := 0) (by have := HL.out; omega)
    have HH := Lib.hid h
    have hd1 : decide ((n : Int) < 1) = false := decide_eq_false (by omega)
    have hi0 : (0 : Int) < (n : Int) := by omega
    have Hlr := Lib.hid hlr
    have hvl := v.toNat_lt
    obtain ⟨hwv, hwv2⟩ := wrap8 v
    clear h hvr hlr h0
    go_enter Try.func22, Try.ntmps22
    go_upto_if 11 with fail
    go_name_world w1 hw1
    obtain ⟨H1, hs1⟩ := P0.mk_ hw1
    clear hw1
    have q0 : w1.cell? ⟨b, off, none⟩ = some (.int .u8 (v.toNat : Int)) := by
      have := bs_cell (k := 0) HH.out H1.B (by rw [HR.out]; simp)
      simpa [HR.out] using this
    go_upto_region 5 with fail
    go_name_world w2 hw2
    have H2 : PP w w2 #[.int .i64 (v.toNat : Int), .int .i64 0, .int .i64 0, .int .i64 0, .slice none 0 0, .slice none 0 0, .bool false] := PP.mk_ H1 hs1 hw2
    clear hw2 q0 H1 hs1 hd1 hwv hwv2
    have p0 : w2.cell? ⟨w.heap.size + 2, 0, none⟩ = some (.int .i64 (v.toNat : Int)) := blk_cell H2.P 0
    by_cases h36 : (v.toNat : Int) = 3 ∨ (v.toNat : Int) = 6
    rotate_left
    · have HE := Lib.hid (show parseP l = (noP, 3) by rw [HR.out]; simp only [parseP]; rw [if_neg h36])
      have hd3 : ((v.toNat : Int) != 3) = true := by rw [bne_iff_ne]; exact fun h => h36 (.inl h)
      have hd6 : ((v.toNat : Int) != 6) = true := by rw [bne_iff_ne]; exact fun h => h36 (.inr h)
      clear h36
      have z0 : w2.cell? ⟨w.heap.size + 1, 0, none⟩ = some (.int .i64 0) := blk_cell H2.z 0
      have z1 : w2.cell? ⟨w.heap.size + 1, 1, none⟩ = some (.int .i64 0) := blk_cell H2.z 1
      have z2 : w2.cell? ⟨w.heap.size + 1, 2, none⟩ = some (.int .i64 0) := blk_cell H2.z 2
      have z3 : w2.cell? ⟨w.heap.size + 1, 3, none⟩ = some (.int .i64 0) := blk_cell H2.z 3
      have z4 : w2.cell? ⟨w.heap.size + 1, 4, none⟩ = some (.slice none 0 0) := blk_cell H2.z 4
      have z5 : w2.cell? ⟨w.heap.size + 1, 5, none⟩ = some (.slice none 0 0) := blk_cell H2.z 5
      have z6 : w2.cell? ⟨w.heap.size + 1, 6, none⟩ = some (.bool false) := blk_cell H2.z 6
      have Rf0 := blk_frozen H2.R 0
      have R0 : w2.cell? ⟨w.heap.size, 0, none⟩ = some (.int .i64 0) := blk_cell H2.R 0
      have Rf1 := blk_frozen H2.R 1
      have R1 : w2.cell? ⟨w.heap.size, 1, none⟩ = some (.int .i64 0) := blk_cell H2.R 1
      have Rf2 := blk_frozen H2.R 2
      have R2 : w2.cell? ⟨w.heap.size, 2, none⟩ = some (.int .i64 0) := blk_cell H2.R 2
      have Rf3 := blk_frozen H2.R 3
      have R3 : w2.cell? ⟨w.heap.size, 3, none⟩ = some (.int .i64 0) := blk_cell H2.R 3
      have Rf4 := blk_frozen H2.R 4
      have R4 : w2.cell? ⟨w.heap.size, 4, none⟩ = some (.slice none 0 0) := blk_cell H2.R 4
      have Rf5 := blk_frozen H2.R 5
      have R5 : w2.cell? ⟨w.heap.size, 5, none⟩ = some (.slice none 0 0) := blk_cell H2.R 5
      have Rf6 := blk_frozen H2.R 6
      have R6 : w2.cell? ⟨w.heap.size, 6, none⟩ = some (.bool false) := blk_cell H2.R 6
      have u0 := blk_cell (setRow_block (k := w.heap.size) [.int .i64 0] 0 H2.R) 0
      have u1 := blk_cell (setRow_block (k := w.heap.size) [.int .i64 0, .int .i64 0] 0 H2.R) 1
      have u2 := blk_cell (setRow_block (k := w.heap.size) [.int .i64 0, .int .i64 0, .int .i64 0] 0 H2.R) 2
      have u3 := blk_cell (setRow_block (k := w.heap.size) [.int .i64 0, .int .i64 0, .int .i64 0, .int .i64 0] 0 H2.R) 3
      have u4 := blk_cell (setRow_block (k := w.heap.size) [.int .i64 0, .int .i64 0, .int .i64 0, .int .i64 0, .slice none 0 0] 0 H2.R) 4
      have u5 := blk_cell (setRow_block (k := w.heap.size) [.int .i64 0, .int .i64 0, .int .i64 0, .int .i64 0, .slice none 0 0, .slice none 0 0] 0 H2.R) 5
      have u6 := blk_cell (setRow_block (k := w.heap.size) [.int .i64 0, .int .i64 0, .int .i64 0, .int .i64 0, .slice none 0 0, .slice none 0 0, .bool false] 0 H2.R) 6
      have hgR := setRow_grown (k := w.heap.size) [.int .i64 0, .int .i64 0, .int .i64 0, .int .i64 0, .slice none 0 0, .slice none 0 0, .bool false] w2 0
      have hBR := H2.B.grown hgR H2.B.size (fun k e => by cases e; exact Nat.le_refl _)
      simp only [setRow, setArr, Nat.reduceAdd, Nat.zero_add] at u0 u1 u2 u3 u4 u5 u6
      have Q0 := Lib.hid u0
      have Q1 := Lib.hid u1
      have Q2 := Lib.hid u2
      have Q3 := Lib.hid u3
      have Q4 := Lib.hid u4
      have Q5 := Lib.hid u5
      have Q6 := Lib.hid u6
      have HBR := Lib.hid hBR
      clear u0 u1 u2 u3 u4 u5 u6 hgR hBR
      go_wp2
      refine bodyPost_ret (v := .tuple #[.agg #[.int .i64 0, .int .i64 0, .int .i64 0, .int .i64 0, .slice none 0 0, .slice none 0 0, .bool false], .int .i64 3]) (by simp [results, Try.f22, go_sem, Q0.out, Q1.out, Q2.out, Q3.out, Q4.out, Q5.out, Q6.out]) rfl ?_
      unfold ParsePassPost
      rw [HE.out]
      exact ⟨none, 0, 0, none, 0, 0, 3, rfl, Bs.nil_ _, Bs.nil_ _, rfl, HBR.out⟩
    have H36 := Lib.hid h36
    go_cut [25] from 8 (fun s wx => s = .bool false ∧ PP w wx #[.int .i64 (v.toNat : Int), .int .i64 0, .int .i64 0, .int .i64 0, .slice none 0 0, .slice none 0 0, .bool false])
    case first =>
      have HP2 := Lib.hid H2
      clear H2 H36
      rcases h36 with h3 | h6
      · have hv3 : ((v.toNat : Int) != 3) = false := by rw [bne_eq_false_iff_eq]; exact h3
        clear h3
        go_wp2_with fail
        go_meet
        exact ⟨rfl, HP2.out⟩
      · have hv3 : ((v.toNat : Int) != 3) = true := by rw [bne_iff_ne]; omega
        have hv6 : ((v.toNat : Int) != 6) = false := by rw [bne_eq_false_iff_eq]; exact h6
        clear h6
        go_wp2_with fail
        go_meet
        exact ⟨rfl, HP2.out⟩
    clear H2 p0 h36
    obtain ⟨rfl, H2⟩ := hcut
    go_upto_if 29 with fail
    by_cases hsh : r.length < 2
    · have HE := Lib.hid (show parseP l = (noP, 2) by
        rw [HR.out]
        match r, hsh with
        | [], _ => simp only [parseP]; rw [if_pos H36.out]
        | [_], _ => simp only [parseP]; rw [if_pos H36.out])
      have hd3 : decide ((n : Int) < 3) = true := decide_eq_true (by have := Hlr.out; omega)
      rw [hd3]
      clear hsh
      have z0 : wc.cell? ⟨w.heap.size + 1, 0, none⟩ = some (.int .i64 0) := blk_cell H2.z 0
      have z1 : wc.cell? ⟨w.heap.size + 1, 1, none⟩ = some (.int .i64 0) := blk_cell H2.z 1
      have z2 : wc.cell? ⟨w.heap.size + 1, 2, none⟩ = some (.int .i64 0) := blk_cell H2.z 2
      have z3 : wc.cell? ⟨w.heap.size + 1, 3, none⟩ = some (.int .i64 0) := blk_cell H2.z 3
      have z4 : wc.cell? ⟨w.heap.size + 1, 4, none⟩ = some (.slice none 0 0) := blk_cell H2.z 4
      have z5 : wc.cell? ⟨w.heap.size + 1, 5, none⟩ = some (.slice none 0 0) := blk_cell H2.z 5
      have z6 : wc.cell? ⟨w.heap.size + 1, 6, none⟩ = some (.bool false) := blk_cell H2.z 6
      have Rf0 := blk_frozen H2.R 0
      have R0 : wc.cell? ⟨w.heap.size, 0, none⟩ = some (.int .i64 0) := blk_cell H2.R 0
      have Rf1 := blk_frozen H2.R 1
      have R1 : wc.cell? ⟨w.heap.size, 1, none⟩ = some (.int .i64 0) := blk_cell H2.R 1
      have Rf2 := blk_frozen H2.R 2
      have R2 : wc.cell? ⟨w.heap.size, 2, none⟩ = some (.int .i64 0) := blk_cell H2.R 2
      have Rf3 := blk_frozen H2.R 3
      have R3 : wc.cell? ⟨w.heap.size, 3, none⟩ = some (.int .i64 0) := blk_cell H2.R 3
      have Rf4 := blk_frozen H2.R 4
      have R4 : wc.cell? ⟨w.heap.size, 4, none⟩ = some (.slice none 0 0) := blk_cell H2.R 4
      have Rf5 := blk_frozen H2.R 5
      have R5 : wc.cell? ⟨w.heap.size, 5, none⟩ = some (.slice none 0 0) := blk_cell H2.R 5
      have Rf6 := blk_frozen H2.R 6
      have R6 : wc.cell? ⟨w.heap.size, 6, none⟩ = some (.bool false) := blk_cell H2.R 6
      have u0 := blk_cell (setRow_block (k := w.heap.size) [.int .i64 0] 0 H2.R) 0
      have u1 := blk_cell (setRow_block (k := w.heap.size) [.int .i64 0, .int .i64 0] 0 H2.R) 1
      have u2 := blk_cell (setRow_block (k := w.heap.size) [.int .i64 0, .int .i64 0, .int .i64 0] 0 H2.R) 2
      have u3 := blk_cell (setRow_block (k := w.heap.size) [.int .i64 0, .int .i64 0, .int .i64 0, .int .i64 0] 0 H2.R) 3
      have u4 := blk_cell (setRow_block (k := w.heap.size) [.int .i64 0, .int .i64 0, .int .i64 0, .int .i64 0, .slice none 0 0] 0 H2.R) 4
      have u5 := blk_cell (setRow_block (k := w.heap.size) [.int .i64 0, .int .i64 0, .int .i64 0, .int .i64 0, .slice none 0 0, .slice none 0 0] 0 H2.R) 5
      have u6 := blk_cell (setRow_block (k := w.heap.size) [.int .i64 0, .int .i64 0, .int .i64 0, .int .i64 0, .slice none 0 0, .slice none 0 0, .bool false] 0 H2.R) 6
      have hgR := setRow_grown (k := w.heap.size) [.int .i64 0, .int .i64 0, .int .i64 0, .int .i64 0, .slice none 0 0, .slice none 0 0, .bool false] wc 0
      have hBR := H2.B.grown hgR H2.B.size (fun k e => by cases e; exact Nat.le_refl _)
      simp only [setRow, setArr, Nat.reduceAdd, Nat.zero_add] at u0 u1 u2 u3 u4 u5 u6
      have Q0 := Lib.hid u0
      have Q1 := Lib.hid u1
      have Q2 := Lib.hid u2
      have Q3 := Lib.hid u3
      have Q4 := Lib.hid u4
      have Q5 := Lib.hid u5
      have Q6 := Lib.hid u6
      have HBR := Lib.hid hBR
      clear u0 u1 u2 u3 u4 u5 u6 hgR hBR
      go_wp2
      refine bodyPost_ret (v := .tuple #[.agg #[.int .i64 0, .int .i64 0, .int .i64 0, .int .i64 0, .slice none 0 0, .slice none 0 0, .bool false], .int .i64 2]) (by simp [results, Try.f22, go_sem, Q0.out, Q1.out, Q2.out, Q3.out, Q4.out, Q5.out, Q6.out]) rfl ?_
      unfold ParsePassPost
      rw [HE.out]
      exact ⟨none, 0, 0, none, 0, 0, 2, rfl, Bs.nil_ _, Bs.nil_ _, rfl, HBR.out⟩
    have hd3 : decide ((n : Int) < 3) = false := decide_eq_false (by have := Hlr.out; omega)
    rw [hd3]
    obtain ⟨ty, ha, r2, hr2⟩ : ∃ ty ha r2, r = ty :: ha :: r2 := by
      match r, hsh with
      | ty :: ha :: r2, _ => exact ⟨ty, ha, r2, rfl⟩
      | [], h => simp at h
      | [_], h => simp at h
    have HR2 := Lib.hid (show l = v :: ty :: ha :: r2 by rw [HR.out, hr2])
    have Hl2 := Lib.hid (show n = r2.length + 3 by rw [Hlr.out, hr2]; rfl)
    have hi1 : (1 : Int) < (n : Int) := by have := Hl2.out; omega
    have hi2 : (2 : Int) < (n : Int) := by have := Hl2.out; omega
    clear hr2 hsh hd3 HR Hlr
    have hvt := ty.toNat_lt
    have hvh := ha.toNat_lt
    obtain ⟨hwt, hwt2⟩ := wrap8 ty
    obtain ⟨hwh, hwh2⟩ := wrap8 ha
    have q1 : wc.cell? ⟨b, off + 1, none⟩ = some (.int .u8 (ty.toNat : Int)) := by
      have := bs_cell (k := 1) HH.out H2.B (by rw [HR2.out]; simp)
      simpa [HR2.out] using this
    have g1 := blk_frozen H2.P 1
    have a1 : wc.cell? ⟨w.heap.size + 2, 1, none⟩ = some (.int .i64 0) := blk_cell H2.P 1
    go_upto_region 10 with fail
    go_name_world w3 hw3
    have H3 : PP w w3 #[.int .i64 (v.toNat : Int), .int .i64 (ty.toNat : Int), .int .i64 0, .int .i64 0, .slice none 0 0, .slice none 0 0, .bool false] := H2.set hw3
    clear hw3 q1 g1 a1 hwt hwt2
    have q2 : w3.cell? ⟨b, off + 2, none⟩ = some (.int .u8 (ha.toNat : Int)) := by
      have := bs_cell (k := 2) HH.out H3.B (by rw [HR2.out]; simp)
      simpa [HR2.out] using this
    have g2 := blk_frozen H3.P 2
    have a2 : w3.cell? ⟨w.heap.size + 2, 2, none⟩ = some (.int .i64 0) := blk_cell H3.P 2
    go_upto_region 11 with fail
    go_name_world w4 hw4
    have H4 : PP w w4 #[.int .i64 (v.toNat : Int), .int .i64 (ty.toNat : Int), .int .i64 (ha.toNat : Int), .int .i64 0, .slice none 0 0, .slice none 0 0, .bool false] := H3.set hw4
    clear hw4 q2 g2 a2 hwh hwh2
    have p0 : w4.cell? ⟨w.heap.size + 2, 0, none⟩ = some (.int .i64 (v.toNat : Int)) := blk_cell H4.P 0
    have p2 : w4.cell? ⟨w.heap.size + 2, 2, none⟩ = some (.int .i64 (ha.toNat : Int)) := blk_cell H4.P 2
    have HM := Lib.hid (fun W => rhashed_calls (ha.toNat : Int) (v.toNat : Int) W)
    by_cases hm : mayS (ha.toNat : Int) (v.toNat : Int) = true
    rotate_left
    · have HE := Lib.hid (show parseP l = (noP, 9) by rw [HR2.out]; simp only [parseP]; rw [if_pos H36.out, if_neg hm])
      have hm2 : mayS (ha.toNat : Int) (v.toNat : Int) = false := by simpa using hm
      rw [hm2] at HM
      clear hm hm2
      have z0 : w4.cell? ⟨w.heap.size + 1, 0, none⟩ = some (.int .i64 0) := blk_cell H4.z 0
      have z1 : w4.cell? ⟨w.heap.size + 1, 1, none⟩ = some (.int .i64 0) := blk_cell H4.z 1
      have z2 : w4.cell? ⟨w.heap.size + 1, 2, none⟩ = some (.int .i64 0) := blk_cell H4.z 2
      have z3 : w4.cell? ⟨w.heap.size + 1, 3, none⟩ = some (.int .i64 0) := blk_cell H4.z 3
      have z4 : w4.cell? ⟨w.heap.size + 1, 4, none⟩ = some (.slice none 0 0) := blk_cell H4.z 4
      have z5 : w4.cell? ⟨w.heap.size + 1, 5, none⟩ = some (.slice none 0 0) := blk_cell H4.z 5
      have z6 : w4.cell? ⟨w.heap.size + 1, 6, none⟩ = some (.bool false) := blk_cell H4.z 6
      have Rf0 := blk_frozen H4.R 0
      have R0 : w4.cell? ⟨w.heap.size, 0, none⟩ = some (.int .i64 0) := blk_cell H4.R 0
      have Rf1 := blk_frozen H4.R 1
      have R1 : w4.cell? ⟨w.heap.size, 1, none⟩ = some (.int .i64 0) := blk_cell H4.R 1
      have Rf2 := blk_frozen H4.R 2
      have R2 : w4.cell? ⟨w.heap.size, 2, none⟩ = some (.int .i64 0) := blk_cell H4.R 2
      have Rf3 := blk_frozen H4.R 3
      have R3 : w4.cell? ⟨w.heap.size, 3, none⟩ = some (.int .i64 0) := blk_cell H4.R 3
      have Rf4 := blk_frozen H4.R 4
      have R4 : w4.cell? ⟨w.heap.size, 4, none⟩ = some (.slice none 0 0) := blk_cell H4.R 4
      have Rf5 := blk_frozen H4.R 5
      have R5 : w4.cell? ⟨w.heap.size, 5, none⟩ = some (.slice none 0 0) := blk_cell H4.R 5
      have Rf6 := blk_frozen H4.R 6
      have R6 : w4.cell? ⟨w.heap.size, 6, none⟩ = some (.bool false) := blk_cell H4.R 6
      have u0 := blk_cell (setRow_block (k := w.heap.size) [.int .i64 0] 0 H4.R) 0
      have u1 := blk_cell (setRow_block (k := w.heap.size) [.int .i64 0, .int .i64 0] 0 H4.R) 1
      have u2 := blk_cell (setRow_block (k := w.heap.size) [.int .i64 0, .int .i64 0, .int .i64 0] 0 H4.R) 2
      have u3 := blk_cell (setRow_block (k := w.heap.size) [.int .i64 0, .int .i64 0, .int .i64 0, .int .i64 0] 0 H4.R) 3
      have u4 := blk_cell (setRow_block (k := w.heap.size) [.int .i64 0, .int .i64 0, .int .i64 0, .int .i64 0, .slice none 0 0] 0 H4.R) 4
      have u5 := blk_cell (setRow_block (k := w.heap.size) [.int .i64 0, .int .i64 0, .int .i64 0, .int .i64 0, .slice none 0 0, .slice none 0 0] 0 H4.R) 5
      have u6 := blk_cell (setRow_block (k := w.heap.size) [.int .i64 0, .int .i64 0, .int .i64 0, .int .i64 0, .slice none 0 0, .slice none 0 0, .bool false] 0 H4.R) 6
      have hgR := setRow_grown (k := w.heap.size) [.int .i64 0, .int .i64 0, .int .i64 0, .int .i64 0, .slice none 0 0, .slice none 0 0, .bool false] w4 0
      have hBR := H4.B.grown hgR H4.B.size (fun k e => by cases e; exact Nat.le_refl _)
      simp only [setRow, setArr, Nat.reduceAdd, Nat.zero_add] at u0 u1 u2 u3 u4 u5 u6
      have Q0 := Lib.hid u0
      have Q1 := Lib.hid u1
      have Q2 := Lib.hid u2
      have Q3 := Lib.hid u3
      have Q4 := Lib.hid u4
      have Q5 := Lib.hid u5
      have Q6 := Lib.hid u6
      have HBR := Lib.hid hBR
      clear u0 u1 u2 u3 u4 u5 u6 hgR hBR
      go_wp2_with (go_at_call 67; refine (HM.out _).mono ?_; rintro e wq ⟨rfl, rfl⟩)
      refine bodyPost_ret (v := .tuple #[.agg #[.int .i64 0, .int .i64 0, .int .i64 0, .int .i64 0, .slice none 0 0, .slice none 0 0, .bool false], .int .i64 9]) (by simp [results, Try.f22, go_sem, Q0.out, Q1.out, Q2.out, Q3.out, Q4.out, Q5.out, Q6.out]) rfl ?_
      unfold ParsePassPost
      rw [HE.out]
      exact ⟨none, 0, 0, none, 0, 0, 9, rfl, Bs.nil_ _, Bs.nil_ _, rfl, HBR.out⟩
    have HM2 := Lib.hid hm
    rw [hm] at HM
    clear hm
    go_upto_if 50 with (go_at_call 67; refine (HM.out _).mono ?_; rintro e wq ⟨rfl, rfl⟩)
    by_cases hsh : r2.length < 1
    · have HE := Lib.hid (show parseP l = (noP, 2) by
        rw [HR2.out]
        match r2, hsh with
        | [], _ => simp only [parseP]; rw [if_pos H36.out, if_pos HM2.out])
      have hd3 : decide ((n : Int) < 4) = true := decide_eq_true (by have := Hl2.out; omega)
      rw [hd3]
      clear hsh
      have z0 : w4.cell? ⟨w.heap.size + 1, 0, none⟩ = some (.int .i64 0) := blk_cell H4.z 0
      have z1 : w4.cell? ⟨w.heap.size + 1, 1, none⟩ = some (.int .i64 0) := blk_cell H4.z 1
      have z2 : w4.cell? ⟨w.heap.size + 1, 2, none⟩ = some (.int .i64 0) := blk_cell H4.z 2
      have z3 : w4.cell? ⟨w.heap.size + 1, 3, none⟩ = some (.int .i64 0) := blk_cell H4.z 3
      have z4 : w4.cell? ⟨w.heap.size + 1, 4, none⟩ = some (.slice none 0 0) := blk_cell H4.z 4
      have z5 : w4.cell? ⟨w.heap.size + 1, 5, none⟩ = some (.slice none 0 0) := blk_cell H4.z 5
      have z6 : w4.cell? ⟨w.heap.size + 1, 6, none⟩ = some (.bool false) := blk_cell H4.z 6
      have Rf0 := blk_frozen H4.R 0
      have R0 : w4.cell? ⟨w.heap.size, 0, none⟩ = some (.int .i64 0) := blk_cell H4.R 0
      have Rf1 := blk_frozen H4.R 1
      have R1 : w4.cell? ⟨w.heap.size, 1, none⟩ = some (.int .i64 0) := blk_cell H4.R 1
      have Rf2 := blk_frozen H4.R 2
      have R2 : w4.cell? ⟨w.heap.size, 2, none⟩ = some (.int .i64 0) := blk_cell H4.R 2
      have Rf3 := blk_frozen H4.R 3
      have R3 : w4.cell? ⟨w.heap.size, 3, none⟩ = some (.int .i64 0) := blk_cell H4.R 3
      have Rf4 := blk_frozen H4.R 4
      have R4 : w4.cell? ⟨w.heap.size, 4, none⟩ = some (.slice none 0 0) := blk_cell H4.R 4
      have Rf5 := blk_frozen H4.R 5
      have R5 : w4.cell? ⟨w.heap.size, 5, none⟩ = some (.slice none 0 0) := blk_cell H4.R 5
      have Rf6 := blk_frozen H4.R 6
      have R6 : w4.cell? ⟨w.heap.size, 6, none⟩ = some (.bool false) := blk_cell H4.R 6
      have u0 := blk_cell (setRow_block (k := w.heap.size) [.int .i64 0] 0 H4.R) 0
      have u1 := blk_cell (setRow_block (k := w.heap.size) [.int .i64 0, .int .i64 0] 0 H4.R) 1
      have u2 := blk_cell (setRow_block (k := w.heap.size) [.int .i64 0, .int .i64 0, .int .i64 0] 0 H4.R) 2
      have u3 := blk_cell (setRow_block (k := w.heap.size) [.int .i64 0, .int .i64 0, .int .i64 0, .int .i64 0] 0 H4.R) 3
      have u4 := blk_cell (setRow_block (k := w.heap.size) [.int .i64 0, .int .i64 0, .int .i64 0, .int .i64 0, .slice none 0 0] 0 H4.R) 4
      have u5 := blk_cell (setRow_block (k := w.heap.size) [.int .i64 0, .int .i64 0, .int .i64 0, .int .i64 0, .slice none 0 0, .slice none 0 0] 0 H4.R) 5
      have u6 := blk_cell (setRow_block (k := w.heap.size) [.int .i64 0, .int .i64 0, .int .i64 0, .int .i64 0, .slice none 0 0, .slice none 0 0, .bool false] 0 H4.R) 6
      have hgR := setRow_grown (k := w.heap.size) [.int .i64 0, .int .i64 0, .int .i64 0, .int .i64 0, .slice none 0 0, .slice none 0 0, .bool false] w4 0
      have hBR := H4.B.grown hgR H4.B.size (fun k e => by cases e; exact Nat.le_refl _)
      simp only [setRow, setArr, Nat.reduceAdd, Nat.zero_add] at u0 u1 u2 u3 u4 u5 u6
      have Q0 := Lib.hid u0
      have Q1 := Lib.hid u1
      have Q2 := Lib.hid u2
      have Q3 := Lib.hid u3
      have Q4 := Lib.hid u4
      have Q5 := Lib.hid u5
      have Q6 := Lib.hid u6
      have HBR := Lib.hid hBR
      clear u0 u1 u2 u3 u4 u5 u6 hgR hBR
      go_wp2
      refine bodyPost_ret (v := .tuple #[.agg #[.int .i64 0, .int .i64 0, .int .i64 0, .int .i64 0, .slice none 0 0, .slice none 0 0, .bool false], .int .i64 2]) (by simp [results, Try.f22, go_sem, Q0.out, Q1.out, Q2.out, Q3.out, Q4.out, Q5.out, Q6.out]) rfl ?_
      unfold ParsePassPost
      rw [HE.out]
      exact ⟨none, 0, 0, none, 0, 0, 2, rfl, Bs.nil_ _, Bs.nil_ _, rfl, HBR.out⟩
    have hd3 : decide ((n : Int) < 4) = false := decide_eq_false (by have := Hl2.out; omega)
    rw [hd3]
    obtain ⟨pu, r3, hr3⟩ : ∃ pu r3, r2 = pu :: r3 := by
      match r2, hsh with
      | pu :: r3, _ => exact ⟨pu, r3, rfl⟩
      | [], h => simp at h
    have HR3 := Lib.hid (show l = v :: ty :: ha :: pu :: r3 by rw [HR2.out, hr3])
    have Hl3 := Lib.hid (show n = r3.length + 4 by rw [Hl2.out, hr3]; rfl)
    have hi3 : (3 : Int) < (n : Int) := by have := Hl3.out; omega
    clear hr3 hsh hd3 HR2 Hl2
    have hvp := pu.toNat_lt
    obtain ⟨hwp, hwp2⟩ := wrap8 pu
    have q3 : w4.cell? ⟨b, off + 3, none⟩ = some (.int .u8 (pu.toNat : Int)) := by
      have := bs_cell (k := 3) HH.out H4.B (by rw [HR3.out]; simp)
      simpa [HR3.out] using this
    have g3 := blk_frozen H4.P 3
    have a3 : w4.cell? ⟨w.heap.size + 2, 3, none⟩ = some (.int .i64 0) := blk_cell H4.P 3
    go_upto_region 16 with fail
    go_name_world w5 hw5
    have H5 : PP w w5 #[.int .i64 (v.toNat : Int), .int .i64 (ty.toNat : Int), .int .i64 (ha.toNat : Int), .int .i64 (pu.toNat : Int), .slice none 0 0, .slice none 0 0, .bool false] := H4.set hw5
    clear hw5 q3 g3 a3 p0 p2 hwp hwp2
    have p0 : w5.cell? ⟨w.heap.size + 2, 0, none⟩ = some (.int .i64 (v.toNat : Int)) := blk_cell H5.P 0
    have p2 : w5.cell? ⟨w.heap.size + 2, 2, none⟩ = some (.int .i64 (ha.toNat : Int)) := blk_cell H5.P 2
    have p3 : w5.cell? ⟨w.heap.size + 2, 3, none⟩ = some (.int .i64 (pu.toNat : Int)) := blk_cell H5.P 3
    have HP := Lib.hid (fun W => rpub_calls (pu.toNat : Int) W)
    by_cases hp : pubS (pu.toNat : Int) = true
    rotate_left
    · have HE := Lib.hid (show parseP l = (noP, 9) by rw [HR3.out]; simp only [parseP]; rw [if_pos H36.out, if_pos HM2.out, if_neg hp])
      have hp2 : pubS (pu.toNat : Int) = false := by simpa using hp
      rw [hp2] at HP
      clear hp hp2
      have z0 : w5.cell? ⟨w.heap.size + 1, 0, none⟩ = some (.int .i64 0) := blk_cell H5.z 0
      have z1 : w5.cell? ⟨w.heap.size + 1, 1, none⟩ = some (.int .i64 0) := blk_cell H5.z 1
      have z2 : w5.cell? ⟨w.heap.size + 1, 2, none⟩ = some (.int .i64 0) := blk_cell H5.z 2
      have z3 : w5.cell? ⟨w.heap.size + 1, 3, none⟩ = some (.int .i64 0) := blk_cell H5.z 3
      have z4 : w5.cell? ⟨w.heap.size + 1, 4, none⟩ = some (.slice none 0 0) := blk_cell H5.z 4
      have z5 : w5.cell? ⟨w.heap.size + 1, 5, none⟩ = some (.slice none 0 0) := blk_cell H5.z 5
      have z6 : w5.cell? ⟨w.heap.size + 1, 6, none⟩ = some (.bool false) := blk_cell H5.z 6
      have Rf0 := blk_frozen H5.R 0
      have R0 : w5.cell? ⟨w.heap.size, 0, none⟩ = some (.int .i64 0) := blk_cell H5.R 0
      have Rf1 := blk_frozen H5.R 1
      have R1 : w5.cell? ⟨w.heap.size, 1, none⟩ = some (.int .i64 0) := blk_cell H5.R 1
      have Rf2 := blk_frozen H5.R 2
      have R2 : w5.cell? ⟨w.heap.size, 2, none⟩ = some (.int .i64 0) := blk_cell H5.R 2
      have Rf3 := blk_frozen H5.R 3
      have R3 : w5.cell? ⟨w.heap.size, 3, none⟩ = some (.int .i64 0) := blk_cell H5.R 3
      have Rf4 := blk_frozen H5.R 4
      have R4 : w5.cell? ⟨w.heap.size, 4, none⟩ = some (.slice none 0 0) := blk_cell H5.R 4
      have Rf5 := blk_frozen H5.R 5
      have R5 : w5.cell? ⟨w.heap.size, 5, none⟩ = some (.slice none 0 0) := blk_cell H5.R 5
      have Rf6 := blk_frozen H5.R 6
      have R6 : w5.cell? ⟨w.heap.size, 6, none⟩ = some (.bool false) := blk_cell H5.R 6
      have u0 := blk_cell (setRow_block (k := w.heap.size) [.int .i64 0] 0 H5.R) 0
      have u1 := blk_cell (setRow_block (k := w.heap.size) [.int .i64 0, .int .i64 0] 0 H5.R) 1
      have u2 := blk_cell (setRow_block (k := w.heap.size) [.int .i64 0, .int .i64 0, .int .i64 0] 0 H5.R) 2
      have u3 := blk_cell (setRow_block (k := w.heap.size) [.int .i64 0, .int .i64 0, .int .i64 0, .int .i64 0] 0 H5.R) 3
      have u4 := blk_cell (setRow_block (k := w.heap.size) [.int .i64 0, .int .i64 0, .int .i64 0, .int .i64 0, .slice none 0 0] 0 H5.R) 4
      have u5 := blk_cell (setRow_block (k := w.heap.size) [.int .i64 0, .int .i64 0, .int .i64 0, .int .i64 0, .slice none 0 0, .slice none 0 0] 0 H5.R) 5
      have u6 := blk_cell (setRow_block (k := w.heap.size) [.int .i64 0, .int .i64 0, .int .i64 0, .int .i64 0, .slice none 0 0, .slice none 0 0, .bool false] 0 H5.R) 6
      have hgR := setRow_grown (k := w.heap.size) [.int .i64 0, .int .i64 0, .int .i64 0, .int .i64 0, .slice none 0 0, .slice none 0 0, .bool false] w5 0
      have hBR := H5.B.grown hgR H5.B.size (fun k e => by cases e; exact Nat.le_refl _)
      simp only [setRow, setArr, Nat.reduceAdd, Nat.zero_add] at u0 u1 u2 u3 u4 u5 u6
      have Q0 := Lib.hid u0
      have Q1 := Lib.hid u1
      have Q2 := Lib.hid u2
      have Q3 := Lib.hid u3
      have Q4 := Lib.hid u4
      have Q5 := Lib.hid u5
      have Q6 := Lib.hid u6
      have HBR := Lib.hid hBR
      clear u0 u1 u2 u3 u4 u5 u6 hgR hBR
      go_wp2_with (go_at_call 68; refine (HP.out _).mono ?_; rintro e wq ⟨rfl, rfl⟩)
      refine bodyPost_ret (v := .tuple #[.agg #[.int .i64 0, .int .i64 0, .int .i64 0, .int .i64 0, .slice none 0 0, .slice none 0 0, .bool false], .int .i64 9]) (by simp [results, Try.f22, go_sem, Q0.out, Q1.out, Q2.out, Q3.out, Q4.out, Q5.out, Q6.out]) rfl ?_
      unfold ParsePassPost
      rw [HE.out]
      exact ⟨none, 0, 0, none, 0, 0, 9, rfl, Bs.nil_ _, Bs.nil_ _, rfl, HBR.out⟩
    have HP2 := Lib.hid hp
    rw [hp] at HP
    clear hp
    have hB4 := HH.out.from_ (k := 4) (by have := Hl3.out; omega)
    rw [show l.drop 4 = r3 by rw [HR3.out]; rfl] at hB4
    have s4 := fun W => slice_from (some ⟨b, off, none⟩) n c 4 (by have := Hl3.out; omega) 4 rfl W
    obtain ⟨off3, ho3⟩ := slice_some b off c 4
    rw [ho3] at s4 hB4
    clear ho3
    obtain ⟨n3, hn3⟩ : ∃ n3, n3 = n - 4 := ⟨_, rfl⟩
    rw [← hn3] at s4 hB4
    have Hn3 := Lib.hid (show n = n3 + 4 by have := Hl3.out; omega)
    clear hn3
    generalize c - 4 = c3 at s4 hB4
    have hle : 4 ≤ n := by have := Hl3.out; omega
    go_upto_if 66 with (go_at_call 68; refine (HP.out _).mono ?_; rintro e wq ⟨rfl, rfl⟩)
    clear p3 s4 hle HM HP
    by_cases h6 : (v.toNat : Int) = 6
    rotate_left
    · have hv6 : ((v.toNat : Int) == 6) = false := by rw [beq_eq_false_iff_ne]; exact h6
      rw [hv6]
      have HT := Lib.hid (show parseP l = tailP v.toNat ty.toNat ha.toNat pu.toNat [] 8 r3 by rw [HR3.out]; simp only [parseP]; rw [if_pos H36.out, if_pos HM2.out, if_pos HP2.out, if_neg h6])
      clear h6 hv6 p0 p2
      go_upto_if 100 with fail
      by_cases hn1 : r3.length < 8 + 1
      · have HE := Lib.hid (show parseP l = (noP, 2) by rw [HT.out, tailP, List.drop_eq_nil_of_le (by omega)])
        have hd5 : decide ((n3 : Int) < 9) = true := decide_eq_true (by have := hB4.2; omega)
        rw [hd5]
        clear hn1
        have z0 : w5.cell? ⟨w.heap.size + 1, 0, none⟩ = some (.int .i64 0) := blk_cell H5.z 0
        have z1 : w5.cell? ⟨w.heap.size + 1, 1, none⟩ = some (.int .i64 0) := blk_cell H5.z 1
        have z2 : w5.cell? ⟨w.heap.size + 1, 2, none⟩ = some (.int .i64 0) := blk_cell H5.z 2
        have z3 : w5.cell? ⟨w.heap.size + 1, 3, none⟩ = some (.int .i64 0) := blk_cell H5.z 3
        have z4 : w5.cell? ⟨w.heap.size + 1, 4, none⟩ = some (.slice none 0 0) := blk_cell H5.z 4
        have z5 : w5.cell? ⟨w.heap.size + 1, 5, none⟩ = some (.slice none 0 0) := blk_cell H5.z 5
        have z6 : w5.cell? ⟨w.heap.size + 1, 6, none⟩ = some (.bool false) := blk_cell H5.z 6
        have Rf0 := blk_frozen H5.R 0
        have R0 : w5.cell? ⟨w.heap.size, 0, none⟩ = some (.int .i64 0) := blk_cell H5.R 0
        have Rf1 := blk_frozen H5.R 1
        have R1 : w5.cell? ⟨w.heap.size, 1, none⟩ = some (.int .i64 0) := blk_cell H5.R 1
        have Rf2 := blk_frozen H5.R 2
        have R2 : w5.cell? ⟨w.heap.size, 2, none⟩ = some (.int .i64 0) := blk_cell H5.R 2
        have Rf3 := blk_frozen H5.R 3
        have R3 : w5.cell? ⟨w.heap.size, 3, none⟩ = some (.int .i64 0) := blk_cell H5.R 3
        have Rf4 := blk_frozen H5.R 4
        have R4 : w5.cell? ⟨w.heap.size, 4, none⟩ = some (.slice none 0 0) := blk_cell H5.R 4
        have Rf5 := blk_frozen H5.R 5
        have R5 : w5.cell? ⟨w.heap.size, 5, none⟩ = some (.slice none 0 0) := blk_cell H5.R 5
        have Rf6 := blk_frozen H5.R 6
        have R6 : w5.cell? ⟨w.heap.size, 6, none⟩ = some (.bool false) := blk_cell H5.R 6
        have u0 := blk_cell (setRow_block (k := w.heap.size) [.int .i64 0] 0 H5.R) 0
        have u1 := blk_cell (setRow_block (k := w.heap.size) [.int .i64 0, .int .i64 0] 0 H5.R) 1
        have u2 := blk_cell (setRow_block (k := w.heap.size) [.int .i64 0, .int .i64 0, .int .i64 0] 0 H5.R) 2
        have u3 := blk_cell (setRow_block (k := w.heap.size) [.int .i64 0, .int .i64 0, .int .i64 0, .int .i64 0] 0 H5.R) 3
        have u4 := blk_cell (setRow_block (k := w.heap.size) [.int .i64 0, .int .i64 0, .int .i64 0, .int .i64 0, .slice none 0 0] 0 H5.R) 4
        have u5 := blk_cell (setRow_block (k := w.heap.size) [.int .i64 0, .int .i64 0, .int .i64 0, .int .i64 0, .slice none 0 0, .slice none 0 0] 0 H5.R) 5
        have u6 := blk_cell (setRow_block (k := w.heap.size) [.int .i64 0, .int .i64 0, .int .i64 0, .int .i64 0, .slice none 0 0, .slice none 0 0, .bool false] 0 H5.R) 6
        have hgR := setRow_grown (k := w.heap.size) [.int .i64 0, .int .i64 0, .int .i64 0, .int .i64 0, .slice none 0 0, .slice none 0 0, .bool false] w5 0
        have hBR := H5.B.grown hgR H5.B.size (fun k e => by cases e; exact Nat.le_refl _)
        simp only [setRow, setArr, Nat.reduceAdd, Nat.zero_add] at u0 u1 u2 u3 u4 u5 u6
        have Q0 := Lib.hid u0
        have Q1 := Lib.hid u1
        have Q2 := Lib.hid u2
        have Q3 := Lib.hid u3
        have Q4 := Lib.hid u4
        have Q5 := Lib.hid u5
        have Q6 := Lib.hid u6
        have HBR := Lib.hid hBR
        clear u0 u1 u2 u3 u4 u5 u6 hgR hBR
        go_wp2
        refine bodyPost_ret (v := .tuple #[.agg #[.int .i64 0, .int .i64 0, .int .i64 0, .int .i64 0, .slice none 0 0, .slice none 0 0, .bool false], .int .i64 2]) (by simp [results, Try.f22, go_sem, Q0.out, Q1.out, Q2.out, Q3.out, Q4.out, Q5.out, Q6.out]) rfl ?_
        unfold ParsePassPost
        rw [HE.out]
        exact ⟨none, 0, 0, none, 0, 0, 2, rfl, Bs.nil_ _, Bs.nil_ _, rfl, HBR.out⟩
      have hd5 : decide ((n3 : Int) < 9) = false := decide_eq_false (by have := hB4.2; omega)
      rw [hd5]
      obtain ⟨x, s, hxs⟩ : ∃ x s, r3.drop 8 = x :: s := by
        cases hd : r3.drop 8 with
        | nil => have := List.drop_eq_nil_iff.1 hd; omega
        | cons x s => exact ⟨x, s, rfl⟩
      have hnl : 8 < n3 := by have := hB4.2; omega
      have hss : n3 = 9 + s.length := by have h1 := congrArg List.length hxs; have := hB4.2; simp at h1; omega
      have Hxs := Lib.hid hxs
      have Hss := Lib.hid hss
      have hcap := hB4.cap
      have HQ := Lib.hid (fun (W : World) (hW : Below w.heap.size w W) => show W.cell? ⟨b, off3 + 8, none⟩ = some (.int .u8 (x.toNat : Int)) by
        have h1 := bs_cell (k := 8) hB4 hW (by have := hB4.2; omega)
        have h2 : (r3.drop 8)[0]? = some x := by rw [hxs]; rfl
        rw [List.getElem?_drop] at h2
        obtain ⟨h3, h4⟩ := List.getElem?_eq_some_iff.1 h2
        simpa [h4] using h1)
      clear hxs hss hd5 hn1
      have HBh := Lib.hid hB4
      have hi8 : (8 : Int) < (n3 : Int) := by omega
      have su : ∀ W, (Instr.sliceAt 22 (.slice (some ⟨b, off3, none⟩) n3 c3) none (some (.int .i64 8)) none).run Try.prog W = .ok (.slice (some ⟨b, off3, none⟩) 8 c3) W := fun W => slice_upto (some ⟨b, off3, none⟩) n3 c3 8 (by omega) 8 rfl W
      have hcc : 8 ≤ c3 := by omega
      have g5 := blk_frozen H5.P 5
      have a5 : w5.cell? ⟨w.heap.size + 2, 5, none⟩ = some (.slice none 0 0) := blk_cell H5.P 5
      clear hB4 hcap
      go_upto_region 34 with fail
      go_name_world w7 hw7
      have H7 : PP w w7 #[.int .i64 (v.toNat : Int), .int .i64 (ty.toNat : Int), .int .i64 (ha.toNat : Int), .int .i64 (pu.toNat : Int), .slice none 0 0, .slice (some ⟨b, off3, none⟩) 8 c3, .bool false] := H5.set hw7
      clear hw7 g5 a5 su hcc
      have q7 := HQ.out w7 H7.B
      have g6 := blk_frozen H7.P 6
      have a6 : w7.cell? ⟨w.heap.size + 2, 6, none⟩ = some (.bool false) := blk_cell H7.P 6
      go_upto_region 35 with fail
      go_name_world w8 hw8
      have H8 : PP w w8 #[.int .i64 (v.toNat : Int), .int .i64 (ty.toNat : Int), .int .i64 (ha.toNat : Int), .int .i64 (pu.toNat : Int), .slice none 0 0, .slice (some ⟨b, off3, none⟩) 8 c3, .bool ((x.toNat : Int) == 1)] := H7.set hw8
      clear hw8 g6 a6 q7
      have q8 := HQ.out w8 H8.B
      have hxl := x.toNat_lt
      by_cases hbad : 1 < (x.toNat : Int) ∨ s ≠ []
      · have HE := Lib.hid (show parseP l = (noP, 3) by rw [HT.out, tailP, Hxs.out]; exact if_pos hbad)
        have HX := Lib.hid H8
        go_cut [123] from 8 (fun s wx => s = .bool true ∧ PP w wx #[.int .i64 (v.toNat : Int), .int .i64 (ty.toNat : Int), .int .i64 (ha.toNat : Int), .int .i64 (pu.toNat : Int), .slice none 0 0, .slice (some ⟨b, off3, none⟩) 8 c3, .bool ((x.toNat : Int) == 1)])
        case first =>
          clear H8
          by_cases hx1 : 1 < (x.toNat : Int)
          · have hxd : decide (1 < (x.toNat : Int)) = true := decide_eq_true hx1
            clear hbad
            go_wp2_with fail
            go_meet
            exact ⟨rfl, HX.out⟩
          · have hxd : decide (1 < (x.toNat : Int)) = false := decide_eq_false hx1
            have hxs : decide (9 < (n3 : Int)) = true := decide_eq_true (by
              have := List.length_pos_iff.2 (hbad.resolve_left hx1)
              have := Hss.out
              omega)
            clear hbad
            go_wp2_with fail
            go_meet
            exact ⟨rfl, HX.out⟩
        clear H8 q8 hbad
        obtain ⟨rfl, H8⟩ := hcut
        have z0 : wc.cell? ⟨w.heap.size + 1, 0, none⟩ = some (.int .i64 0) := blk_cell H8.z 0
        have z1 : wc.cell? ⟨w.heap.size + 1, 1, none⟩ = some (.int .i64 0) := blk_cell H8.z 1
        have z2 : wc.cell? ⟨w.heap.size + 1, 2, none⟩ = some (.int .i64 0) := blk_cell H8.z 2
        have z3 : wc.cell? ⟨w.heap.size + 1, 3, none⟩ = some (.int .i64 0) := blk_cell H8.z 3
        have z4 : wc.cell? ⟨w.heap.size + 1, 4, none⟩ = some (.slice none 0 0) := blk_cell H8.z 4
        have z5 : wc.cell? ⟨w.heap.size + 1, 5, none⟩ = some (.slice none 0 0) := blk_cell H8.z 5
        have z6 : wc.cell? ⟨w.heap.size + 1, 6, none⟩ = some (.bool false) := blk_cell H8.z 6
        have Rf0 := blk_frozen H8.R 0
        have R0 : wc.cell? ⟨w.heap.size, 0, none⟩ = some (.int .i64 0) := blk_cell H8.R 0
        have Rf1 := blk_frozen H8.R 1
        have R1 : wc.cell? ⟨w.heap.size, 1, none⟩ = some (.int .i64 0) := blk_cell H8.R 1
        have Rf2 := blk_frozen H8.R 2
        have R2 : wc.cell? ⟨w.heap.size, 2, none⟩ = some (.int .i64 0) := blk_cell H8.R 2
        have Rf3 := blk_frozen H8.R 3
        have R3 : wc.cell? ⟨w.heap.size, 3, none⟩ = some (.int .i64 0) := blk_cell H8.R 3
        have Rf4 := blk_frozen H8.R 4
        have R4 : wc.cell? ⟨w.heap.size, 4, none⟩ = some (.slice none 0 0) := blk_cell H8.R 4
        have Rf5 := blk_frozen H8.R 5
        have R5 : wc.cell? ⟨w.heap.size, 5, none⟩ = some (.slice none 0 0) := blk_cell H8.R 5
        have Rf6 := blk_frozen H8.R 6
        have R6 : wc.cell? ⟨w.heap.size, 6, none⟩ = some (.bool false) := blk_cell H8.R 6
        have u0 := blk_cell (setRow_block (k := w.heap.size) [.int .i64 0] 0 H8.R) 0
        have u1 := blk_cell (setRow_block (k := w.heap.size) [.int .i64 0, .int .i64 0] 0 H8.R) 1
        have u2 := blk_cell (setRow_block (k := w.heap.size) [.int .i64 0, .int .i64 0, .int .i64 0] 0 H8.R) 2
        have u3 := blk_cell (setRow_block (k := w.heap.size) [.int .i64 0, .int .i64 0, .int .i64 0, .int .i64 0] 0 H8.R) 3
        have u4 := blk_cell (setRow_block (k := w.heap.size) [.int .i64 0, .int .i64 0, .int .i64 0, .int .i64 0, .slice none 0 0] 0 H8.R) 4
        have u5 := blk_cell (setRow_block (k := w.heap.size) [.int .i64 0, .int .i64 0, .int .i64 0, .int .i64 0, .slice none 0 0, .slice none 0 0] 0 H8.R) 5
        have u6 := blk_cell (setRow_block (k := w.heap.size) [.int .i64 0, .int .i64 0, .int .i64 0, .int .i64 0, .slice none 0 0, .slice none 0 0, .bool false] 0 H8.R) 6
        have hgR := setRow_grown (k := w.heap.size) [.int .i64 0, .int .i64 0, .int .i64 0, .int .i64 0, .slice none 0 0, .slice none 0 0, .bool false] wc 0
        have hBR := H8.B.grown hgR H8.B.size (fun k e => by cases e; exact Nat.le_refl _)
        simp only [setRow, setArr, Nat.reduceAdd, Nat.zero_add] at u0 u1 u2 u3 u4 u5 u6
        have Q0 := Lib.hid u0
        have Q1 := Lib.hid u1
        have Q2 := Lib.hid u2
        have Q3 := Lib.hid u3
        have Q4 := Lib.hid u4
        have Q5 := Lib.hid u5
        have Q6 := Lib.hid u6
        have HBR := Lib.hid hBR
        clear u0 u1 u2 u3 u4 u5 u6 hgR hBR
        go_wp2
        refine bodyPost_ret (v := .tuple #[.agg #[.int .i64 0, .int .i64 0, .int .i64 0, .int .i64 0, .slice none 0 0, .slice none 0 0, .bool false], .int .i64 3]) (by simp [results, Try.f22, go_sem, Q0.out, Q1.out, Q2.out, Q3.out, Q4.out, Q5.out, Q6.out]) rfl ?_
        unfold ParsePassPost
        rw [HE.out]
        exact ⟨none, 0, 0, none, 0, 0, 3, rfl, Bs.nil_ _, Bs.nil_ _, rfl, HBR.out⟩
      obtain ⟨hx1, hs0⟩ : ¬ 1 < (x.toNat : Int) ∧ s = [] := ⟨fun h => hbad (.inl h), Classical.not_not.1 fun h => hbad (.inr h)⟩
      have HE := Lib.hid (show parseP l = (((v.toNat : Int), (ty.toNat : Int), (ha.toNat : Int), (pu.toNat : Int), [], r3.take 8, ((x.toNat : Int) == 1)), 0) by rw [HT.out, tailP, Hxs.out, show ((x.toNat : Int) == 1) = decide ((x.toNat : Int) = 1) by by_cases h : (x.toNat : Int) = 1 <;> simp [h]]; exact if_neg hbad)
      have hxd : decide (1 < (x.toNat : Int)) = false := decide_eq_false hx1
      have hxs : decide (9 < (n3 : Int)) = false := decide_eq_false (by have := Hss.out; rw [hs0] at this; simp at this; omega)
      clear hbad hx1 hs0
      have z0 : w8.cell? ⟨w.heap.size + 2, 0, none⟩ = some (.int .i64 (v.toNat : Int)) := blk_cell H8.P 0
      have z1 : w8.cell? ⟨w.heap.size + 2, 1, none⟩ = some (.int .i64 (ty.toNat : Int)) := blk_cell H8.P 1
      have z2 : w8.cell? ⟨w.heap.size + 2, 2, none⟩ = some (.int .i64 (ha.toNat : Int)) := blk_cell H8.P 2
      have z3 : w8.cell? ⟨w.heap.size + 2, 3, none⟩ = some (.int .i64 (pu.toNat : Int)) := blk_cell H8.P 3
      have z4 : w8.cell? ⟨w.heap.size + 2, 4, none⟩ = some (.slice none 0 0) := blk_cell H8.P 4
      have z5 : w8.cell? ⟨w.heap.size + 2, 5, none⟩ = some (.slice (some ⟨b, off3, none⟩) 8 c3) := blk_cell H8.P 5
      have z6 : w8.cell? ⟨w.heap.size + 2, 6, none⟩ = some (.bool ((x.toNat : Int) == 1)) := blk_cell H8.P 6
      have Rf0 := blk_frozen H8.R 0
      have R0 : w8.cell? ⟨w.heap.size, 0, none⟩ = some (.int .i64 0) := blk_cell H8.R 0
      have Rf1 := blk_frozen H8.R 1
      have R1 : w8.cell? ⟨w.heap.size, 1, none⟩ = some (.int .i64 0) := blk_cell H8.R 1
      have Rf2 := blk_frozen H8.R 2
      have R2 : w8.cell? ⟨w.heap.size, 2, none⟩ = some (.int .i64 0) := blk_cell H8.R 2
      have Rf3 := blk_frozen H8.R 3
      have R3 : w8.cell? ⟨w.heap.size, 3, none⟩ = some (.int .i64 0) := blk_cell H8.R 3
      have Rf4 := blk_frozen H8.R 4
      have R4 : w8.cell? ⟨w.heap.size, 4, none⟩ = some (.slice none 0 0) := blk_cell H8.R 4
      have Rf5 := blk_frozen H8.R 5
      have R5 : w8.cell? ⟨w.heap.size, 5, none⟩ = some (.slice none 0 0) := blk_cell H8.R 5
      have Rf6 := blk_frozen H8.R 6
      have R6 : w8.cell? ⟨w.heap.size, 6, none⟩ = some (.bool false) := blk_cell H8.R 6
      have u0 := blk_cell (setRow_block (k := w.heap.size) [.int .i64 (v.toNat : Int)] 0 H8.R) 0
      have u1 := blk_cell (setRow_block (k := w.heap.size) [.int .i64 (v.toNat : Int), .int .i64 (ty.toNat : Int)] 0 H8.R) 1
      have u2 := blk_cell (setRow_block (k := w.heap.size) [.int .i64 (v.toNat : Int), .int .i64 (ty.toNat : Int), .int .i64 (ha.toNat : Int)] 0 H8.R) 2
      have u3 := blk_cell (setRow_block (k := w.heap.size) [.int .i64 (v.toNat : Int), .int .i64 (ty.toNat : Int), .int .i64 (ha.toNat : Int), .int .i64 (pu.toNat : Int)] 0 H8.R) 3
      have u4 := blk_cell (setRow_block (k := w.heap.size) [.int .i64 (v.toNat : Int), .int .i64 (ty.toNat : Int), .int .i64 (ha.toNat : Int), .int .i64 (pu.toNat : Int), .slice none 0 0] 0 H8.R) 4
      have u5 := blk_cell (setRow_block (k := w.heap.size) [.int .i64 (v.toNat : Int), .int .i64 (ty.toNat : Int), .int .i64 (ha.toNat : Int), .int .i64 (pu.toNat : Int), .slice none 0 0, .slice (some ⟨b, off3, none⟩) 8 c3] 0 H8.R) 5
      have u6 := blk_cell (setRow_block (k := w.heap.size) [.int .i64 (v.toNat : Int), .int .i64 (ty.toNat : Int), .int .i64 (ha.toNat : Int), .int .i64 (pu.toNat : Int), .slice none 0 0, .slice (some ⟨b, off3, none⟩) 8 c3, .bool ((x.toNat : Int) == 1)] 0 H8.R) 6
      have hgR := setRow_grown (k := w.heap.size) [.int .i64 (v.toNat : Int), .int .i64 (ty.toNat : Int), .int .i64 (ha.toNat : Int), .int .i64 (pu.toNat : Int), .slice none 0 0, .slice (some ⟨b, off3, none⟩) 8 c3, .bool ((x.toNat : Int) == 1)] w8 0
      have hBR := H8.B.grown hgR H8.B.size (fun k e => by cases e; exact Nat.le_refl _)
      simp only [setRow, setArr, Nat.reduceAdd, Nat.zero_add] at u0 u1 u2 u3 u4 u5 u6
      have Q0 := Lib.hid u0
      have Q1 := Lib.hid u1
      have Q2 := Lib.hid u2
      have Q3 := Lib.hid u3
      have Q4 := Lib.hid u4
      have Q5 := Lib.hid u5
      have Q6 := Lib.hid u6
      have HBR := Lib.hid hBR
      clear u0 u1 u2 u3 u4 u5 u6 hgR hBR
      go_wp2
      refine bodyPost_ret (v := .tuple #[.agg #[.int .i64 (v.toNat : Int), .int .i64 (ty.toNat : Int), .int .i64 (ha.toNat : Int), .int .i64 (pu.toNat : Int), .slice none 0 0, .slice (some ⟨b, off3, none⟩) 8 c3, .bool ((x.toNat : Int) == 1)], .int .i64 0]) (by simp [results, Try.f22, go_sem, Q0.out, Q1.out, Q2.out, Q3.out, Q4.out, Q5.out, Q6.out]) rfl ?_
      unfold ParsePassPost
      rw [HE.out]
      exact ⟨none, 0, 0, some ⟨b, off3, none⟩, 8, c3, 0, rfl, (Bs.nil_ _), (HBh.out.upto (k := 8) (by omega)).below HBR.out, rfl, HBR.out⟩
    have hv6 : ((v.toNat : Int) == 6) = true := beq_iff_eq.2 h6
    rw [hv6]
    have H6 := Lib.hid h6
    clear h6 hv6 p0
    have HT := Lib.hid (show parseP l = saltP v.toNat ty.toNat ha.toNat pu.toNat r3 by rw [HR3.out]; simp only [parseP]; rw [if_pos H36.out, if_pos HM2.out, if_pos HP2.out, if_pos H6.out]; cases r3 <;> rfl)
    go_upto_if 69 with fail
    by_cases hsh : r3.length < 1
    · have HE := Lib.hid (show parseP l = (noP, 2) by
        rw [HT.out]
        match r3, hsh with
        | [], _ => rfl)
      have hd3 : decide ((n3 : Int) < 1) = true := decide_eq_true (by have := hB4.2; omega)
      rw [hd3]
      clear hsh p2
      have z0 : w5.cell? ⟨w.heap.size + 1, 0, none⟩ = some (.int .i64 0) := blk_cell H5.z 0
      have z1 : w5.cell? ⟨w.heap.size + 1, 1, none⟩ = some (.int .i64 0) := blk_cell H5.z 1
      have z2 : w5.cell? ⟨w.heap.size + 1, 2, none⟩ = some (.int .i64 0) := blk_cell H5.z 2
      have z3 : w5.cell? ⟨w.heap.size + 1, 3, none⟩ = some (.int .i64 0) := blk_cell H5.z 3
      have z4 : w5.cell? ⟨w.heap.size + 1, 4, none⟩ = some (.slice none 0 0) := blk_cell H5.z 4
      have z5 : w5.cell? ⟨w.heap.size + 1, 5, none⟩ = some (.slice none 0 0) := blk_cell H5.z 5
      have z6 : w5.cell? ⟨w.heap.size + 1, 6, none⟩ = some (.bool false) := blk_cell H5.z 6
      have Rf0 := blk_frozen H5.R 0
      have R0 : w5.cell? ⟨w.heap.size, 0, none⟩ = some (.int .i64 0) := blk_cell H5.R 0
      have Rf1 := blk_frozen H5.R 1
      have R1 : w5.cell? ⟨w.heap.size, 1, none⟩ = some (.int .i64 0) := blk_cell H5.R 1
      have Rf2 := blk_frozen H5.R 2
      have R2 : w5.cell? ⟨w.heap.size, 2, none⟩ = some (.int .i64 0) := blk_cell H5.R 2
      have Rf3 := blk_frozen H5.R 3
      have R3 : w5.cell? ⟨w.heap.size, 3, none⟩ = some (.int .i64 0) := blk_cell H5.R 3
      have Rf4 := blk_frozen H5.R 4
      have R4 : w5.cell? ⟨w.heap.size, 4, none⟩ = some (.slice none 0 0) := blk_cell H5.R 4
      have Rf5 := blk_frozen H5.R 5
      have R5 : w5.cell? ⟨w.heap.size, 5, none⟩ = some (.slice none 0 0) := blk_cell H5.R 5
      have Rf6 := blk_frozen H5.R 6
      have R6 : w5.cell? ⟨w.heap.size, 6, none⟩ = some (.bool false) := blk_cell H5.R 6
      have u0 := blk_cell (setRow_block (k := w.heap.size) [.int .i64 0] 0 H5.R) 0
      have u1 := blk_cell (setRow_block (k := w.heap.size) [.int .i64 0, .int .i64 0] 0 H5.R) 1
      have u2 := blk_cell (setRow_block (k := w.heap.size) [.int .i64 0, .int .i64 0, .int .i64 0] 0 H5.R) 2
      have u3 := blk_cell (setRow_block (k := w.heap.size) [.int .i64 0, .int .i64 0, .int .i64 0, .int .i64 0] 0 H5.R) 3
      have u4 := blk_cell (setRow_block (k := w.heap.size) [.int .i64 0, .int .i64 0, .int .i64 0, .int .i64 0, .slice none 0 0] 0 H5.R) 4
      have u5 := blk_cell (setRow_block (k := w.heap.size) [.int .i64 0, .int .i64 0, .int .i64 0, .int .i64 0, .slice none 0 0, .slice none 0 0] 0 H5.R) 5
      have u6 := blk_cell (setRow_block (k := w.heap.size) [.int .i64 0, .int .i64 0, .int .i64 0, .int .i64 0, .slice none 0 0, .slice none 0 0, .bool false] 0 H5.R) 6
      have hgR := setRow_grown (k := w.heap.size) [.int .i64 0, .int .i64 0, .int .i64 0, .int .i64 0, .slice none 0 0, .slice none 0 0, .bool false] w5 0
      have hBR := H5.B.grown hgR H5.B.size (fun k e => by cases e; exact Nat.le_refl _)
      simp only [setRow, setArr, Nat.reduceAdd, Nat.zero_add] at u0 u1 u2 u3 u4 u5 u6
      have Q0 := Lib.hid u0
      have Q1 := Lib.hid u1
      have Q2 := Lib.hid u2
      have Q3 := Lib.hid u3
      have Q4 := Lib.hid u4
      have Q5 := Lib.hid u5
      have Q6 := Lib.hid u6
      have HBR := Lib.hid hBR
      clear u0 u1 u2 u3 u4 u5 u6 hgR hBR
      go_wp2
      refine bodyPost_ret (v := .tuple #[.agg #[.int .i64 0, .int .i64 0, .int .i64 0, .int .i64 0, .slice none 0 0, .slice none 0 0, .bool false], .int .i64 2]) (by simp [results, Try.f22, go_sem, Q0.out, Q1.out, Q2.out, Q3.out, Q4.out, Q5.out, Q6.out]) rfl ?_
      unfold ParsePassPost
      rw [HE.out]
      exact ⟨none, 0, 0, none, 0, 0, 2, rfl, Bs.nil_ _, Bs.nil_ _, rfl, HBR.out⟩
    have hd3 : decide ((n3 : Int) < 1) = false := decide_eq_false (by have := hB4.2; omega)
    rw [hd3]
    obtain ⟨k, r4, hr4⟩ : ∃ k r4, r3 = k :: r4 := by
      match r3, hsh with
      | k :: r4, _ => exact ⟨k, r4, rfl⟩
      | [], h => simp at h
    have HR4 := Lib.hid hr4
    have HT4 := Lib.hid (show parseP l = if (k.toNat : Int) = saltS ha.toNat then (if r4.length < k.toNat then (noP, 2) else tailP v.toNat ty.toNat ha.toNat pu.toNat (r4.take k.toNat) 32 (r4.drop k.toNat)) else (noP, 3) by rw [HT.out, hr4]; rfl)
    have Hl4 := Lib.hid (show n3 = r4.length + 1 by rw [← hB4.2, hr4]; rfl)
    have hi3 : (0 : Int) < (n3 : Int) := by have := Hl4.out; omega
    clear hr4 hsh hd3
    have hvk := k.toNat_lt
    have Hwk := Lib.hid (wrap8 k)
    have HB4 := Lib.hid hB4
    have q3 : w5.cell? ⟨b, off3, none⟩ = some (.int .u8 (k.toNat : Int)) := by
      have := bs_cell (k := 0) HB4.out H5.B (by rw [HR4.out]; simp)
      simpa [HR4.out] using this
    have HK := Lib.hid (fun W => rSaltSize_calls (ha.toNat : Int) W)
    clear hB4
    by_cases hk : (k.toNat : Int) = saltS (ha.toNat : Int)
    rotate_left
    · have HE := Lib.hid (show parseP l = (noP, 3) by rw [HT4.out, if_neg hk])
      have hkn : ((k.toNat : Int) != saltS (ha.toNat : Int)) = true := by rw [bne_iff_ne]; exact hk
      generalize saltS (ha.toNat : Int) = sz at HK hkn
      clear hk
      obtain ⟨hwk, hwk2⟩ := Hwk.out
      have z0 : w5.cell? ⟨w.heap.size + 1, 0, none⟩ = some (.int .i64 0) := blk_cell H5.z 0
      have z1 : w5.cell? ⟨w.heap.size + 1, 1, none⟩ = some (.int .i64 0) := blk_cell H5.z 1
      have z2 : w5.cell? ⟨w.heap.size + 1, 2, none⟩ = some (.int .i64 0) := blk_cell H5.z 2
      have z3 : w5.cell? ⟨w.heap.size + 1, 3, none⟩ = some (.int .i64 0) := blk_cell H5.z 3
      have z4 : w5.cell? ⟨w.heap.size + 1, 4, none⟩ = some (.slice none 0 0) := blk_cell H5.z 4
      have z5 : w5.cell? ⟨w.heap.size + 1, 5, none⟩ = some (.slice none 0 0) := blk_cell H5.z 5
      have z6 : w5.cell? ⟨w.heap.size + 1, 6, none⟩ = some (.bool false) := blk_cell H5.z 6
      have Rf0 := blk_frozen H5.R 0
      have R0 : w5.cell? ⟨w.heap.size, 0, none⟩ = some (.int .i64 0) := blk_cell H5.R 0
      have Rf1 := blk_frozen H5.R 1
      have R1 : w5.cell? ⟨w.heap.size, 1, none⟩ = some (.int .i64 0) := blk_cell H5.R 1
      have Rf2 := blk_frozen H5.R 2
      have R2 : w5.cell? ⟨w.heap.size, 2, none⟩ = some (.int .i64 0) := blk_cell H5.R 2
      have Rf3 := blk_frozen H5.R 3
      have R3 : w5.cell? ⟨w.heap.size, 3, none⟩ = some (.int .i64 0) := blk_cell H5.R 3
      have Rf4 := blk_frozen H5.R 4
      have R4 : w5.cell? ⟨w.heap.size, 4, none⟩ = some (.slice none 0 0) := blk_cell H5.R 4
      have Rf5 := blk_frozen H5.R 5
      have R5 : w5.cell? ⟨w.heap.size, 5, none⟩ = some (.slice none 0 0) := blk_cell H5.R 5
      have Rf6 := blk_frozen H5.R 6
      have R6 : w5.cell? ⟨w.heap.size, 6, none⟩ = some (.bool false) := blk_cell H5.R 6
      have u0 := blk_cell (setRow_block (k := w.heap.size) [.int .i64 0] 0 H5.R) 0
      have u1 := blk_cell (setRow_block (k := w.heap.size) [.int .i64 0, .int .i64 0] 0 H5.R) 1
      have u2 := blk_cell (setRow_block (k := w.heap.size) [.int .i64 0, .int .i64 0, .int .i64 0] 0 H5.R) 2
      have u3 := blk_cell (setRow_block (k := w.heap.size) [.int .i64 0, .int .i64 0, .int .i64 0, .int .i64 0] 0 H5.R) 3
      have u4 := blk_cell (setRow_block (k := w.heap.size) [.int .i64 0, .int .i64 0, .int .i64 0, .int .i64 0, .slice none 0 0] 0 H5.R) 4
      have u5 := blk_cell (setRow_block (k := w.heap.size) [.int .i64 0, .int .i64 0, .int .i64 0, .int .i64 0, .slice none 0 0, .slice none 0 0] 0 H5.R) 5
      have u6 := blk_cell (setRow_block (k := w.heap.size) [.int .i64 0, .int .i64 0, .int .i64 0, .int .i64 0, .slice none 0 0, .slice none 0 0, .bool false] 0 H5.R) 6
      have hgR := setRow_grown (k := w.heap.size) [.int .i64 0, .int .i64 0, .int .i64 0, .int .i64 0, .slice none 0 0, .slice none 0 0, .bool false] w5 0
      have hBR := H5.B.grown hgR H5.B.size (fun k e => by cases e; exact Nat.le_refl _)
      simp only [setRow, setArr, Nat.reduceAdd, Nat.zero_add] at u0 u1 u2 u3 u4 u5 u6
      have Q0 := Lib.hid u0
      have Q1 := Lib.hid u1
      have Q2 := Lib.hid u2
      have Q3 := Lib.hid u3
      have Q4 := Lib.hid u4
      have Q5 := Lib.hid u5
      have Q6 := Lib.hid u6
      have HBR := Lib.hid hBR
      clear u0 u1 u2 u3 u4 u5 u6 hgR hBR
      go_wp2_with (go_at_call 69; refine (HK.out _).mono ?_; rintro e wq ⟨rfl, rfl⟩)
      refine bodyPost_ret (v := .tuple #[.agg #[.int .i64 0, .int .i64 0, .int .i64 0, .int .i64 0, .slice none 0 0, .slice none 0 0, .bool false], .int .i64 3]) (by simp [results, Try.f22, go_sem, Q0.out, Q1.out, Q2.out, Q3.out, Q4.out, Q5.out, Q6.out]) rfl ?_
      unfold ParsePassPost
      rw [HE.out]
      exact ⟨none, 0, 0, none, 0, 0, 3, rfl, Bs.nil_ _, Bs.nil_ _, rfl, HBR.out⟩
    have HKS := Lib.hid hk
    have hkn : ((k.toNat : Int) != saltS (ha.toNat : Int)) = false := by rw [bne_eq_false_iff_eq]; exact hk
    clear hk
    generalize saltS (ha.toNat : Int) = sz at HK hkn
    obtain ⟨K, HK2, y1, y2, y3⟩ := k_facts k
    obtain ⟨hwk, hwk2⟩ := Hwk.out
    go_upto_if 85 with (go_at_call 69; refine (HK.out _).mono ?_; rintro e wq ⟨rfl, rfl⟩)
    clear hwk hwk2
    by_cases hkl : r4.length < k.toNat
    · have HE := Lib.hid (show parseP l = (noP, 2) by rw [HT4.out, if_pos HKS.out, if_pos hkl])
      have hd5 : decide (n3 < K) = true := decide_eq_true (by have := Hl4.out; have := HK2.out; omega)
      rw [hd5]
      clear hkl p2
      have z0 : w5.cell? ⟨w.heap.size + 1, 0, none⟩ = some (.int .i64 0) := blk_cell H5.z 0
      have z1 : w5.cell? ⟨w.heap.size + 1, 1, none⟩ = some (.int .i64 0) := blk_cell H5.z 1
      have z2 : w5.cell? ⟨w.heap.size + 1, 2, none⟩ = some (.int .i64 0) := blk_cell H5.z 2
      have z3 : w5.cell? ⟨w.heap.size + 1, 3, none⟩ = some (.int .i64 0) := blk_cell H5.z 3
      have z4 : w5.cell? ⟨w.heap.size + 1, 4, none⟩ = some (.slice none 0 0) := blk_cell H5.z 4
      have z5 : w5.cell? ⟨w.heap.size + 1, 5, none⟩ = some (.slice none 0 0) := blk_cell H5.z 5
      have z6 : w5.cell? ⟨w.heap.size + 1, 6, none⟩ = some (.bool false) := blk_cell H5.z 6
      have Rf0 := blk_frozen H5.R 0
      have R0 : w5.cell? ⟨w.heap.size, 0, none⟩ = some (.int .i64 0) := blk_cell H5.R 0
      have Rf1 := blk_frozen H5.R 1
      have R1 : w5.cell? ⟨w.heap.size, 1, none⟩ = some (.int .i64 0) := blk_cell H5.R 1
      have Rf2 := blk_frozen H5.R 2
      have R2 : w5.cell? ⟨w.heap.size, 2, none⟩ = some (.int .i64 0) := blk_cell H5.R 2
      have Rf3 := blk_frozen H5.R 3
      have R3 : w5.cell? ⟨w.heap.size, 3, none⟩ = some (.int .i64 0) := blk_cell H5.R 3
      have Rf4 := blk_frozen H5.R 4
      have R4 : w5.cell? ⟨w.heap.size, 4, none⟩ = some (.slice none 0 0) := blk_cell H5.R 4
      have Rf5 := blk_frozen H5.R 5
      have R5 : w5.cell? ⟨w.heap.size, 5, none⟩ = some (.slice none 0 0) := blk_cell H5.R 5
      have Rf6 := blk_frozen H5.R 6
      have R6 : w5.cell? ⟨w.heap.size, 6, none⟩ = some (.bool false) := blk_cell H5.R 6
      have u0 := blk_cell (setRow_block (k := w.heap.size) [.int .i64 0] 0 H5.R) 0
      have u1 := blk_cell (setRow_block (k := w.heap.size) [.int .i64 0, .int .i64 0] 0 H5.R) 1
      have u2 := blk_cell (setRow_block (k := w.heap.size) [.int .i64 0, .int .i64 0, .int .i64 0] 0 H5.R) 2
      have u3 := blk_cell (setRow_block (k := w.heap.size) [.int .i64 0, .int .i64 0, .int .i64 0, .int .i64 0] 0 H5.R) 3
      have u4 := blk_cell (setRow_block (k := w.heap.size) [.int .i64 0, .int .i64 0, .int .i64 0, .int .i64 0, .slice none 0 0] 0 H5.R) 4
      have u5 := blk_cell (setRow_block (k := w.heap.size) [.int .i64 0, .int .i64 0, .int .i64 0, .int .i64 0, .slice none 0 0, .slice none 0 0] 0 H5.R) 5
      have u6 := blk_cell (setRow_block (k := w.heap.size) [.int .i64 0, .int .i64 0, .int .i64 0, .int .i64 0, .slice none 0 0, .slice none 0 0, .bool false] 0 H5.R) 6
      have hgR := setRow_grown (k := w.heap.size) [.int .i64 0, .int .i64 0, .int .i64 0, .int .i64 0, .slice none 0 0, .slice none 0 0, .bool false] w5 0
      have hBR := H5.B.grown hgR H5.B.size (fun k e => by cases e; exact Nat.le_refl _)
      simp only [setRow, setArr, Nat.reduceAdd, Nat.zero_add] at u0 u1 u2 u3 u4 u5 u6
      have Q0 := Lib.hid u0
      have Q1 := Lib.hid u1
      have Q2 := Lib.hid u2
      have Q3 := Lib.hid u3
      have Q4 := Lib.hid u4
      have Q5 := Lib.hid u5
      have Q6 := Lib.hid u6
      have HBR := Lib.hid hBR
      clear u0 u1 u2 u3 u4 u5 u6 hgR hBR
      go_wp2
      refine bodyPost_ret (v := .tuple #[.agg #[.int .i64 0, .int .i64 0, .int .i64 0, .int .i64 0, .slice none 0 0, .slice none 0 0, .bool false], .int .i64 2]) (by simp [results, Try.f22, go_sem, Q0.out, Q1.out, Q2.out, Q3.out, Q4.out, Q5.out, Q6.out]) rfl ?_
      unfold ParsePassPost
      rw [HE.out]
      exact ⟨none, 0, 0, none, 0, 0, 2, rfl, Bs.nil_ _, Bs.nil_ _, rfl, HBR.out⟩
    have hd5 : decide (n3 < K) = false := decide_eq_false (by have := Hl4.out; have := HK2.out; omega)
    rw [hd5]
    have HE4 := Lib.hid (show parseP l = tailP v.toNat ty.toNat ha.toNat pu.toNat (r4.take k.toNat) 32 (r4.drop k.toNat) by rw [HT4.out, if_pos HKS.out, if_neg hkl])
    have hk1 : 1 ≤ K := by have := HK2.out; omega
    have hk2 : K ≤ n3 := by have := Hl4.out; have := HK2.out; omega
    have hB5 := HB4.out.from_ (k := K) hk2
    have hB6 := (HB4.out.from_ (k := 1) (by omega)).upto (k := k.toNat) (by have := Hl4.out; omega)
    rw [show r3.drop K = r4.drop k.toNat by rw [HR4.out, HK2.out, Nat.add_comm, List.drop_succ_cons]] at hB5
    rw [show (r3.drop 1).take k.toNat = r4.take k.toNat by rw [HR4.out]; rfl] at hB6
    have s6 := fun W => slice_mid (some ⟨b, off3, none⟩) n3 c3 1 K hk1 (by have := HB4.out.cap; omega) 1 K rfl rfl W
    have s5 := fun W => slice_from (some ⟨b, off3, none⟩) n3 c3 K hk2 K rfl W
    rw [show K - 1 = k.toNat by have := HK2.out; omega] at s6
    obtain ⟨off5, ho5⟩ := slice_some b off3 c3 K
    obtain ⟨off6, ho6⟩ := slice_some b off3 c3 1
    rw [ho5] at s5 hB5
    rw [ho6] at s6 hB6
    obtain ⟨n5, hn5⟩ : ∃ n5, n5 = n3 - K := ⟨_, rfl⟩
    obtain ⟨c5, hc5⟩ : ∃ c5, c5 = c3 - K := ⟨_, rfl⟩
    obtain ⟨c6, hc6⟩ : ∃ c6, c6 = c3 - 1 := ⟨_, rfl⟩
    rw [← hn5, ← hc5] at s5 hB5
    rw [← hc6] at s6 hB6
    have H56 := Lib.hid hB6
    have hn5' : n5 + K = n3 := by omega
    have Hn5 := Lib.hid hn5'
    have hkc : (K : Int) ≤ (c3 : Int) := by have := HB4.out.cap; omega
    have hkn : (K : Int) ≤ (n3 : Int) := by omega
    have hk0 : (1 : Int) ≤ (K : Int) := by omega
    clear ho5 ho6 hn5 hc5 hc6 hB6 hn5' hkl hd5 p2
    have g4 := blk_frozen H5.P 4
    have a4 : w5.cell? ⟨w.heap.size + 2, 4, none⟩ = some (.slice none 0 0) := blk_cell H5.P 4
    go_upto_region 30 with fail
    go_name_world w6 hw6
    have H6b : PP w w6 #[.int .i64 (v.toNat : Int), .int .i64 (ty.toNat : Int), .int .i64 (ha.toNat : Int), .int .i64 (pu.toNat : Int), .slice (some ⟨b, off6, none⟩) k.toNat c6, .slice none 0 0, .bool false] := H5.set hw6
    clear hw6 g4 a4 s6
    have HT := HE4
    obtain ⟨r5, hr5⟩ : ∃ r5, r5 = r4.drop k.toNat := ⟨_, rfl⟩
    rw [← hr5] at HT hB5
    have HR5 := Lib.hid hr5
    clear hr5
    go_upto_if 100 with fail
    by_cases hn1 : r5.length < 32 + 1
    · have HE := Lib.hid (show parseP l = (noP, 2) by rw [HT.out, tailP, List.drop_eq_nil_of_le (by omega)])
      have hd5 : decide ((n5 : Int) < 33) = true := decide_eq_true (by have := hB5.2; omega)
      rw [hd5]
      clear hn1
      have z0 : w6.cell? ⟨w.heap.size + 1, 0, none⟩ = some (.int .i64 0) := blk_cell H6b.z 0
      have z1 : w6.cell? ⟨w.heap.size + 1, 1, none⟩ = some (.int .i64 0) := blk_cell H6b.z 1
      have z2 : w6.cell? ⟨w.heap.size + 1, 2, none⟩ = some (.int .i64 0) := blk_cell H6b.z 2
      have z3 : w6.cell? ⟨w.heap.size + 1, 3, none⟩ = some (.int .i64 0) := blk_cell H6b.z 3
      have z4 : w6.cell? ⟨w.heap.size + 1, 4, none⟩ = some (.slice none 0 0) := blk_cell H6b.z 4
      have z5 : w6.cell? ⟨w.heap.size + 1, 5, none⟩ = some (.slice none 0 0) := blk_cell H6b.z 5
      have z6 : w6.cell? ⟨w.heap.size + 1, 6, none⟩ = some (.bool false) := blk_cell H6b.z 6
      have Rf0 := blk_frozen H6b.R 0
      have R0 : w6.cell? ⟨w.heap.size, 0, none⟩ = some (.int .i64 0) := blk_cell H6b.R 0
      have Rf1 := blk_frozen H6b.R 1
      have R1 : w6.cell? ⟨w.heap.size, 1, none⟩ = some (.int .i64 0) := blk_cell H6b.R 1
      have Rf2 := blk_frozen H6b.R 2
      have R2 : w6.cell? ⟨w.heap.size, 2, none⟩ = some (.int .i64 0) := blk_cell H6b.R 2
      have Rf3 := blk_frozen H6b.R 3
      have R3 : w6.cell? ⟨w.heap.size, 3, none⟩ = some (.int .i64 0) := blk_cell H6b.R 3
      have Rf4 := blk_frozen H6b.R 4
      have R4 : w6.cell? ⟨w.heap.size, 4, none⟩ = some (.slice none 0 0) := blk_cell H6b.R 4
      have Rf5 := blk_frozen H6b.R 5
      have R5 : w6.cell? ⟨w.heap.size, 5, none⟩ = some (.slice none 0 0) := blk_cell H6b.R 5
      have Rf6 := blk_frozen H6b.R 6
      have R6 : w6.cell? ⟨w.heap.size, 6, none⟩ = some (.bool false) := blk_cell H6b.R 6
      have u0 := blk_cell (setRow_block (k := w.heap.size) [.int .i64 0] 0 H6b.R) 0
      have u1 := blk_cell (setRow_block (k := w.heap.size) [.int .i64 0, .int .i64 0] 0 H6b.R) 1
      have u2 := blk_cell (setRow_block (k := w.heap.size) [.int .i64 0, .int .i64 0, .int .i64 0] 0 H6b.R) 2
      have u3 := blk_cell (setRow_block (k := w.heap.size) [.int .i64 0, .int .i64 0, .int .i64 0, .int .i64 0] 0 H6b.R) 3
      have u4 := blk_cell (setRow_block (k := w.heap.size) [.int .i64 0, .int .i64 0, .int .i64 0, .int .i64 0, .slice none 0 0] 0 H6b.R) 4
      have u5 := blk_cell (setRow_block (k := w.heap.size) [.int .i64 0, .int .i64 0, .int .i64 0, .int .i64 0, .slice none 0 0, .slice none 0 0] 0 H6b.R) 5
      have u6 := blk_cell (setRow_block (k := w.heap.size) [.int .i64 0, .int .i64 0, .int .i64 0, .int .i64 0, .slice none 0 0, .slice none 0 0, .bool false] 0 H6b.R) 6
      have hgR := setRow_grown (k := w.heap.size) [.int .i64 0, .int .i64 0, .int .i64 0, .int .i64 0, .slice none 0 0, .slice none 0 0, .bool false] w6 0
      have hBR := H6b.B.grown hgR H6b.B.size (fun k e => by cases e; exact Nat.le_refl _)
      simp only [setRow, setArr, Nat.reduceAdd, Nat.zero_add] at u0 u1 u2 u3 u4 u5 u6
      have Q0 := Lib.hid u0
      have Q1 := Lib.hid u1
      have Q2 := Lib.hid u2
      have Q3 := Lib.hid u3
      have Q4 := Lib.hid u4
      have Q5 := Lib.hid u5
      have Q6 := Lib.hid u6
      have HBR := Lib.hid hBR
      clear u0 u1 u2 u3 u4 u5 u6 hgR hBR
      go_wp2
      refine bodyPost_ret (v := .tuple #[.agg #[.int .i64 0, .int .i64 0, .int .i64 0, .int .i64 0, .slice none 0 0, .slice none 0 0, .bool false], .int .i64 2]) (by simp [results, Try.f22, go_sem, Q0.out, Q1.out, Q2.out, Q3.out, Q4.out, Q5.out, Q6.out]) rfl ?_
      unfold ParsePassPost
      rw [HE.out]
      exact ⟨none, 0, 0, none, 0, 0, 2, rfl, Bs.nil_ _, Bs.nil_ _, rfl, HBR.out⟩
    have hd5 : decide ((n5 : Int) < 33) = false := decide_eq_false (by have := hB5.2; omega)
    rw [hd5]
    obtain ⟨x, s, hxs⟩ : ∃ x s, r5.drop 32 = x :: s := by
      cases hd : r5.drop 32 with
      | nil => have := List.drop_eq_nil_iff.1 hd; omega
      | cons x s => exact ⟨x, s, rfl⟩
    have hnl : 32 < n5 := by have := hB5.2; omega
    have hss : n5 = 33 + s.length := by have h1 := congrArg List.length hxs; have := hB5.2; simp at h1; omega
    have Hxs := Lib.hid hxs
    have Hss := Lib.hid hss
    have hcap := hB5.cap
    have HQ := Lib.hid (fun (W : World) (hW : Below w.heap.size w W) => show W.cell? ⟨b, off5 + 32, none⟩ = some (.int .u8 (x.toNat : Int)) by
      have h1 := bs_cell (k := 32) hB5 hW (by have := hB5.2; omega)
      have h2 : (r5.drop 32)[0]? = some x := by rw [hxs]; rfl
      rw [List.getElem?_drop] at h2
      obtain ⟨h3, h4⟩ := List.getElem?_eq_some_iff.1 h2
      simpa [h4] using h1)
    clear hxs hss hd5 hn1
    have HBh := Lib.hid hB5
    have hi8 : (32 : Int) < (n5 : Int) := by omega
    have su : ∀ W, (Instr.sliceAt 22 (.slice (some ⟨b, off5, none⟩) n5 c5) none (some (.int .i64 32)) none).run Try.prog W = .ok (.slice (some ⟨b, off5, none⟩) 32 c5) W := fun W => slice_upto (some ⟨b, off5, none⟩) n5 c5 32 (by omega) 32 rfl W
    have hcc : 32 ≤ c5 := by omega
    have g5 := blk_frozen H6b.P 5
    have a5 : w6.cell? ⟨w.heap.size + 2, 5, none⟩ = some (.slice none 0 0) := blk_cell H6b.P 5
    clear hB5 hcap
    go_upto_region 34 with fail
    go_name_world w7 hw7
    have H7 : PP w w7 #[.int .i64 (v.toNat : Int), .int .i64 (ty.toNat : Int), .int .i64 (ha.toNat : Int), .int .i64 (pu.toNat : Int), .slice (some ⟨b, off6, none⟩) k.toNat c6, .slice (some ⟨b, off5, none⟩) 32 c5, .bool false] := H6b.set hw7
    clear hw7 g5 a5 su hcc
    have q7 := HQ.out w7 H7.B
    have g6 := blk_frozen H7.P 6
    have a6 : w7.cell? ⟨w.heap.size + 2, 6, none⟩ = some (.bool false) := blk_cell H7.P 6
    go_upto_region 35 with fail
    go_name_world w8 hw8
    have H8 : PP w w8 #[.int .i64 (v.toNat : Int), .int .i64 (ty.toNat : Int), .int .i64 (ha.toNat : Int), .int .i64 (pu.toNat : Int), .slice (some ⟨b, off6, none⟩) k.toNat c6, .slice (some ⟨b, off5, none⟩) 32 c5, .bool ((x.toNat : Int) == 1)] := H7.set hw8
    clear hw8 g6 a6 q7
    have q8 := HQ.out w8 H8.B
    have hxl := x.toNat_lt
    by_cases hbad : 1 < (x.toNat : Int) ∨ s ≠ []
    · have HE := Lib.hid (show parseP l = (noP, 3) by rw [HT.out, tailP, Hxs.out]; exact if_pos hbad)
      have HX := Lib.hid H8
      go_cut [123] from 8 (fun s wx => s = .bool true ∧ PP w wx #[.int .i64 (v.toNat : Int), .int .i64 (ty.toNat : Int), .int .i64 (ha.toNat : Int), .int .i64 (pu.toNat : Int), .slice (some ⟨b, off6, none⟩) k.toNat c6, .slice (some ⟨b, off5, none⟩) 32 c5, .bool ((x.toNat : Int) == 1)])
      case first =>
        clear H8
        by_cases hx1 : 1 < (x.toNat : Int)
        · have hxd : decide (1 < (x.toNat : Int)) = true := decide_eq_true hx1
          clear hbad
          go_wp2_with fail
          go_meet
          exact ⟨rfl, HX.out⟩
        · have hxd : decide (1 < (x.toNat : Int)) = false := decide_eq_false hx1
          have hxs : decide (33 < (n5 : Int)) = true := decide_eq_true (by
            have := List.length_pos_iff.2 (hbad.resolve_left hx1)
            have := Hss.out
            omega)
          clear hbad
          go_wp2_with fail
          go_meet
          exact ⟨rfl, HX.out⟩
      clear H8 q8 hbad
      obtain ⟨rfl, H8⟩ := hcut
      have z0 : wc.cell? ⟨w.heap.size + 1, 0, none⟩ = some (.int .i64 0) := blk_cell H8.z 0
      have z1 : wc.cell? ⟨w.heap.size + 1, 1, none⟩ = some (.int .i64 0) := blk_cell H8.z 1
      have z2 : wc.cell? ⟨w.heap.size + 1, 2, none⟩ = some (.int .i64 0) := blk_cell H8.z 2
      have z3 : wc.cell? ⟨w.heap.size + 1, 3, none⟩ = some (.int .i64 0) := blk_cell H8.z 3
      have z4 : wc.cell? ⟨w.heap.size + 1, 4, none⟩ = some (.slice none 0 0) := blk_cell H8.z 4
      have z5 : wc.cell? ⟨w.heap.size + 1, 5, none⟩ = some (.slice none 0 0) := blk_cell H8.z 5
      have z6 : wc.cell? ⟨w.heap.size + 1, 6, none⟩ = some (.bool false) := blk_cell H8.z 6
      have Rf0 := blk_frozen H8.R 0
      have R0 : wc.cell? ⟨w.heap.size, 0, none⟩ = some (.int .i64 0) := blk_cell H8.R 0
      have Rf1 := blk_frozen H8.R 1
      have R1 : wc.cell? ⟨w.heap.size, 1, none⟩ = some (.int .i64 0) := blk_cell H8.R 1
      have Rf2 := blk_frozen H8.R 2
      have R2 : wc.cell? ⟨w.heap.size, 2, none⟩ = some (.int .i64 0) := blk_cell H8.R 2
      have Rf3 := blk_frozen H8.R 3
      have R3 : wc.cell? ⟨w.heap.size, 3, none⟩ = some (.int .i64 0) := blk_cell H8.R 3
      have Rf4 := blk_frozen H8.R 4
      have R4 : wc.cell? ⟨w.heap.size, 4, none⟩ = some (.slice none 0 0) := blk_cell H8.R 4
      have Rf5 := blk_frozen H8.R 5
      have R5 : wc.cell? ⟨w.heap.size, 5, none⟩ = some (.slice none 0 0) := blk_cell H8.R 5
      have Rf6 := blk_frozen H8.R 6
      have R6 : wc.cell? ⟨w.heap.size, 6, none⟩ = some (.bool false) := blk_cell H8.R 6
      have u0 := blk_cell (setRow_block (k := w.heap.size) [.int .i64 0] 0 H8.R) 0
      have u1 := blk_cell (setRow_block (k := w.heap.size) [.int .i64 0, .int .i64 0] 0 H8.R) 1
      have u2 := blk_cell (setRow_block (k := w.heap.size) [.int .i64 0, .int .i64 0, .int .i64 0] 0 H8.R) 2
      have u3 := blk_cell (setRow_block (k := w.heap.size) [.int .i64 0, .int .i64 0, .int .i64 0, .int .i64 0] 0 H8.R) 3
      have u4 := blk_cell (setRow_block (k := w.heap.size) [.int .i64 0, .int .i64 0, .int .i64 0, .int .i64 0, .slice none 0 0] 0 H8.R) 4
      have u5 := blk_cell (setRow_block (k := w.heap.size) [.int .i64 0, .int .i64 0, .int .i64 0, .int .i64 0, .slice none 0 0, .slice none 0 0] 0 H8.R) 5
      have u6 := blk_cell (setRow_block (k := w.heap.size) [.int .i64 0, .int .i64 0, .int .i64 0, .int .i64 0, .slice none 0 0, .slice none 0 0, .bool false] 0 H8.R) 6
      have hgR := setRow_grown (k := w.heap.size) [.int .i64 0, .int .i64 0, .int .i64 0, .int .i64 0, .slice none 0 0, .slice none 0 0, .bool false] wc 0
      have hBR := H8.B.grown hgR H8.B.size (fun k e => by cases e; exact Nat.le_refl _)
      simp only [setRow, setArr, Nat.reduceAdd, Nat.zero_add] at u0 u1 u2 u3 u4 u5 u6
      have Q0 := Lib.hid u0
      have Q1 := Lib.hid u1
      have Q2 := Lib.hid u2
      have Q3 := Lib.hid u3
      have Q4 := Lib.hid u4
      have Q5 := Lib.hid u5
      have Q6 := Lib.hid u6
      have HBR := Lib.hid hBR
      clear u0 u1 u2 u3 u4 u5 u6 hgR hBR
      go_wp2
      refine bodyPost_ret (v := .tuple #[.agg #[.int .i64 0, .int .i64 0, .int .i64 0, .int .i64 0, .slice none 0 0, .slice none 0 0, .bool false], .int .i64 3]) (by simp [results, Try.f22, go_sem, Q0.out, Q1.out, Q2.out, Q3.out, Q4.out, Q5.out, Q6.out]) rfl ?_
      unfold ParsePassPost
      rw [HE.out]
      exact ⟨none, 0, 0, none, 0, 0, 3, rfl, Bs.nil_ _, Bs.nil_ _, rfl, HBR.out⟩
    obtain ⟨hx1, hs0⟩ : ¬ 1 < (x.toNat : Int) ∧ s = [] := ⟨fun h => hbad (.inl h), Classical.not_not.1 fun h => hbad (.inr h)⟩
    have HE := Lib.hid (show parseP l = (((v.toNat : Int), (ty.toNat : Int), (ha.toNat : Int), (pu.toNat : Int), r4.take k.toNat, r5.take 32, ((x.toNat : Int) == 1)), 0) by rw [HT.out, tailP, Hxs.out, show ((x.toNat : Int) == 1) = decide ((x.toNat : Int) = 1) by by_cases h : (x.toNat : Int) = 1 <;> simp [h]]; exact if_neg hbad)
    have hxd : decide (1 < (x.toNat : Int)) = false := decide_eq_false hx1
    have hxs : decide (33 < (n5 : Int)) = false := decide_eq_false (by have := Hss.out; rw [hs0] at this; simp at this; omega)
    clear hbad hx1 hs0
    have z0 : w8.cell? ⟨w.heap.size + 2, 0, none⟩ = some (.int .i64 (v.toNat : Int)) := blk_cell H8.P 0
    have z1 : w8.cell? ⟨w.heap.size + 2, 1, none⟩ = some (.int .i64 (ty.toNat : Int)) := blk_cell H8.P 1
    have z2 : w8.cell? ⟨w.heap.size + 2, 2, none⟩ = some (.int .i64 (ha.toNat : Int)) := blk_cell H8.P 2
    have z3 : w8.cell? ⟨w.heap.size + 2, 3, none⟩ = some (.int .i64 (pu.toNat : Int)) := blk_cell H8.P 3
    have z4 : w8.cell? ⟨w.heap.size + 2, 4, none⟩ = some (.slice (some ⟨b, off6, none⟩) k.toNat c6) := blk_cell H8.P 4
    have z5 : w8.cell? ⟨w.heap.size + 2, 5, none⟩ = some (.slice (some ⟨b, off5, none⟩) 32 c5) := blk_cell H8.P 5
    have z6 : w8.cell? ⟨w.heap.size + 2, 6, none⟩ = some (.bool ((x.toNat : Int) == 1)) := blk_cell H8.P 6
    have Rf0 := blk_frozen H8.R 0
    have R0 : w8.cell? ⟨w.heap.size, 0, none⟩ = some (.int .i64 0) := blk_cell H8.R 0
    have Rf1 := blk_frozen H8.R 1
    have R1 : w8.cell? ⟨w.heap.size, 1, none⟩ = some (.int .i64 0) := blk_cell H8.R 1
    have Rf2 := blk_frozen H8.R 2
    have R2 : w8.cell? ⟨w.heap.size, 2, none⟩ = some (.int .i64 0) := blk_cell H8.R 2
    have Rf3 := blk_frozen H8.R 3
    have R3 : w8.cell? ⟨w.heap.size, 3, none⟩ = some (.int .i64 0) := blk_cell H8.R 3
    have Rf4 := blk_frozen H8.R 4
    have R4 : w8.cell? ⟨w.heap.size, 4, none⟩ = some (.slice none 0 0) := blk_cell H8.R 4
    have Rf5 := blk_frozen H8.R 5
    have R5 : w8.cell? ⟨w.heap.size, 5, none⟩ = some (.slice none 0 0) := blk_cell H8.R 5
    have Rf6 := blk_frozen H8.R 6
    have R6 : w8.cell? ⟨w.heap.size, 6, none⟩ = some (.bool false) := blk_cell H8.R 6
    have u0 := blk_cell (setRow_block (k := w.heap.size) [.int .i64 (v.toNat : Int)] 0 H8.R) 0
    have u1 := blk_cell (setRow_block (k := w.heap.size) [.int .i64 (v.toNat : Int), .int .i64 (ty.toNat : Int)] 0 H8.R) 1
    have u2 := blk_cell (setRow_block (k := w.heap.size) [.int .i64 (v.toNat : Int), .int .i64 (ty.toNat : Int), .int .i64 (ha.toNat : Int)] 0 H8.R) 2
    have u3 := blk_cell (setRow_block (k := w.heap.size) [.int .i64 (v.toNat : Int), .int .i64 (ty.toNat : Int), .int .i64 (ha.toNat : Int), .int .i64 (pu.toNat : Int)] 0 H8.R) 3
    have u4 := blk_cell (setRow_block (k := w.heap.size) [.int .i64 (v.toNat : Int), .int .i64 (ty.toNat : Int), .int .i64 (ha.toNat : Int), .int .i64 (pu.toNat : Int), .slice (some ⟨b, off6, none⟩) k.toNat c6] 0 H8.R) 4
    have u5 := blk_cell (setRow_block (k := w.heap.size) [.int .i64 (v.toNat : Int), .int .i64 (ty.toNat : Int), .int .i64 (ha.toNat : Int), .int .i64 (pu.toNat : Int), .slice (some ⟨b, off6, none⟩) k.toNat c6, .slice (some ⟨b, off5, none⟩) 32 c5] 0 H8.R) 5
    have u6 := blk_cell (setRow_block (k := w.heap.size) [.int .i64 (v.toNat : Int), .int .i64 (ty.toNat : Int), .int .i64 (ha.toNat : Int), .int .i64 (pu.toNat : Int), .slice (some ⟨b, off6, none⟩) k.toNat c6, .slice (some ⟨b, off5, none⟩) 32 c5, .bool ((x.toNat : Int) == 1)] 0 H8.R) 6
    have hgR := setRow_grown (k := w.heap.size) [.int .i64 (v.toNat : Int), .int .i64 (ty.toNat : Int), .int .i64 (ha.toNat : Int), .int .i64 (pu.toNat : Int), .slice (some ⟨b, off6, none⟩) k.toNat c6, .slice (some ⟨b, off5, none⟩) 32 c5, .bool ((x.toNat : Int) == 1)] w8 0
    have hBR := H8.B.grown hgR H8.B.size (fun k e => by cases e; exact Nat.le_refl _)
    simp only [setRow, setArr, Nat.reduceAdd, Nat.zero_add] at u0 u1 u2 u3 u4 u5 u6
    have Q0 := Lib.hid u0
    have Q1 := Lib.hid u1
    have Q2 := Lib.hid u2
    have Q3 := Lib.hid u3
    have Q4 := Lib.hid u4
    have Q5 := Lib.hid u5
    have Q6 := Lib.hid u6
    have HBR := Lib.hid hBR
    clear u0 u1 u2 u3 u4 u5 u6 hgR hBR
    go_wp2
    refine bodyPost_ret (v := .tuple #[.agg #[.int .i64 (v.toNat : Int), .int .i64 (ty.toNat : Int), .int .i64 (ha.toNat : Int), .int .i64 (pu.toNat : Int), .slice (some ⟨b, off6, none⟩) k.toNat c6, .slice (some ⟨b, off5, none⟩) 32 c5, .bool ((x.toNat : Int) == 1)], .int .i64 0]) (by simp [results, Try.f22, go_sem, Q0.out, Q1.out, Q2.out, Q3.out, Q4.out, Q5.out, Q6.out]) rfl ?_
    unfold ParsePassPost
    rw [HE.out]
    exact ⟨(some ⟨b, off6, none⟩), k.toNat, c6, some ⟨b, off5, none⟩, 32, c5, 0, rfl, (H56.out.below HBR.out), (HBh.out.upto (k := 32) (by omega)).below HBR.out, rfl, HBR.out⟩
end Go.Proofs.Ytegbncngencfnaa
