/- The document's Parse of a literal. -/
import Derived.Test.YtegbncngencfnaaLi
import Derived.Test.YtegbncngencfnaaSx
import Derived.Deep.RegionHeld3
namespace Go.Proofs.Ytegbncngencfnaa
open Go.RowKit

theorem parseL_cons (f : UInt8) (r : List UInt8) : parseL (f :: r) = (if fmtS f = true then (match r with
      | [] => ((0, [], 0, []), 2)
      | k :: r2 => if r2.length < k.toNat + 4 then ((0, [], 0, []), 2) else ((f, r2.take k.toNat, val ((r2.drop k.toNat).take 4), r2.drop (k.toNat + 4)), 0)) else ((0, [], 0, []), 3) : (UInt8 × List UInt8 × Int × List UInt8) × Int) := rfl
theorem nat_bit (k : UInt8) : ((k.toNat : Nat) : Int) % 256 = (k.toNat : Int) := by have := k.toNat_lt; omega

set_option maxRecDepth 100000 in
set_option maxHeartbeats 3200000 in
theorem rParse24_calls {A : Option Addr} {n c : Nat} {l : List UInt8} {w : World} (h : Bs w A n c l) (hn : n ≤ 4294967296) :
    Calls Try.prog 20 #[.slice A n c] w fun e w' => ∃ A1 m1 c1 A2 m2 c2 r, e = .returned (.tuple #[.agg #[.int .u8 ((parseL l).1.1.toNat : Int), .slice A1 m1 c1, .int .u32 (parseL l).1.2.2.1, .slice A2 m2 c2], .int .i64 r]) ∧
      Bs w' A1 m1 c1 (parseL l).1.2.1 ∧ Bs w' A2 m2 c2 (parseL l).1.2.2.2 ∧ r = (parseL l).2 ∧ Below w.heap.size w w' := by
  obtain rfl := h.2
  have HN := Lib.hid hn
  have hnew := heap_alloc_new w (.cells #[.int .u8 0, .slice none 0 0, .int .u32 0, .slice none 0 0] 38)
  have hba := (Below.refl w.heap.size w).alloc (Nat.le_refl _) (.cells #[.int .u8 0, .slice none 0 0, .int .u32 0, .slice none 0 0] 38)
  generalize hw0 : w.alloc (.cells #[.int .u8 0, .slice none 0 0, .int .u32 0, .slice none 0 0] 38) = w0 at hnew hba
  have f0 := blk_frozen hnew 0
  have r0 : w0.cell? ⟨w.heap.size, 0, none⟩ = some (.int .u8 0) := blk_cell hnew 0
  have f1 := blk_frozen hnew 1
  have r1 : w0.cell? ⟨w.heap.size, 1, none⟩ = some (.slice none 0 0) := blk_cell hnew 1
  have f2 := blk_frozen hnew 2
  have r2 : w0.cell? ⟨w.heap.size, 2, none⟩ = some (.int .u32 0) := blk_cell hnew 2
  have f3 := blk_frozen hnew 3
  have r3 : w0.cell? ⟨w.heap.size, 3, none⟩ = some (.slice none 0 0) := blk_cell hnew 3
  cases l with
  | nil =>
    have HE := Lib.hid (show parseL [] = ((0, [], 0, []), 2) from rfl)
    go_enter Try.func20, Try.ntmps20
    have u0 := blk_cell (setRow_block (k := w.heap.size) [.int .u8 0, .slice none 0 0, .int .u32 0, .slice none 0 0] 0 hnew) 0
    have u1 := blk_cell (setRow_block (k := w.heap.size) [.int .u8 0, .slice none 0 0, .int .u32 0, .slice none 0 0] 0 hnew) 1
    have u2 := blk_cell (setRow_block (k := w.heap.size) [.int .u8 0, .slice none 0 0, .int .u32 0, .slice none 0 0] 0 hnew) 2
    have u3 := blk_cell (setRow_block (k := w.heap.size) [.int .u8 0, .slice none 0 0, .int .u32 0, .slice none 0 0] 0 hnew) 3
    have hgR := setRow_grown (k := w.heap.size) [.int .u8 0, .slice none 0 0, .int .u32 0, .slice none 0 0] w0 0
    have hBR := hba.grown hgR hba.size (fun k e => by cases e; exact Nat.le_refl _)
    simp only [setRow, setArr, Nat.reduceAdd, Nat.zero_add] at u0 u1 u2 u3
    have Q0 := Lib.hid u0
    have Q1 := Lib.hid u1
    have Q2 := Lib.hid u2
    have Q3 := Lib.hid u3
    have HBR := Lib.hid hBR
    clear u0 u1 u2 u3 hgR hBR
    go_wp2
    refine bodyPost_ret (v := .tuple #[.agg #[.int .u8 0, .slice none 0 0, .int .u32 0, .slice none 0 0], .int .i64 2]) (by simp [results, Try.f20, go_sem, Q0.out, Q1.out, Q2.out, Q3.out]) rfl ?_
    rw [HE.out]
    exact ⟨none, 0, 0, none, 0, 0, 2, rfl, Bs.nil_ _, Bs.nil_ _, rfl, HBR.out⟩
  | cons f r =>
    obtain ⟨b, off, rfl, hbl, hc0⟩ := h.byte (k := 0) (by simp)
    have q0 : w0.cell? ⟨b, off, none⟩ = some (.int .u8 (f.toNat : Int)) := (hba.cell (p := ⟨b, off + 0, none⟩) hbl).trans hc0
    have hz0 : ((((f :: r).length : Nat) : Int) == 0) = false := by rw [beq_eq_false_iff_ne]; simp only [List.length_cons]; omega
    have hi0 : (0 : Int) < (((f :: r).length : Nat) : Int) := by simp only [List.length_cons]; omega
    have HF := Lib.hid (fun W => rformat_calls f W)
    have hE := parseL_cons f r
    generalize fmtS f = fm at HF hE
    cases fm with
    | false =>
      have HE := Lib.hid (show parseL (f :: r) = ((0, [], 0, []), 3) by rw [hE]; simp)
      clear hE
      generalize (f :: r).length = n at h hz0 hi0 HN
      go_enter Try.func20, Try.ntmps20
      have u0 := blk_cell (setRow_block (k := w.heap.size) [.int .u8 0, .slice none 0 0, .int .u32 0, .slice none 0 0] 0 hnew) 0
      have u1 := blk_cell (setRow_block (k := w.heap.size) [.int .u8 0, .slice none 0 0, .int .u32 0, .slice none 0 0] 0 hnew) 1
      have u2 := blk_cell (setRow_block (k := w.heap.size) [.int .u8 0, .slice none 0 0, .int .u32 0, .slice none 0 0] 0 hnew) 2
      have u3 := blk_cell (setRow_block (k := w.heap.size) [.int .u8 0, .slice none 0 0, .int .u32 0, .slice none 0 0] 0 hnew) 3
      have hgR := setRow_grown (k := w.heap.size) [.int .u8 0, .slice none 0 0, .int .u32 0, .slice none 0 0] w0 0
      have hBR := hba.grown hgR hba.size (fun k e => by cases e; exact Nat.le_refl _)
      simp only [setRow, setArr, Nat.reduceAdd, Nat.zero_add] at u0 u1 u2 u3
      have Q0 := Lib.hid u0
      have Q1 := Lib.hid u1
      have Q2 := Lib.hid u2
      have Q3 := Lib.hid u3
      have HBR := Lib.hid hBR
      clear u0 u1 u2 u3 hgR hBR
      go_wp2_with (go_at_call 61; refine (HF.out _).mono ?_; rintro e wq ⟨rfl, rfl⟩)
      refine bodyPost_ret (v := .tuple #[.agg #[.int .u8 0, .slice none 0 0, .int .u32 0, .slice none 0 0], .int .i64 3]) (by simp [results, Try.f20, go_sem, Q0.out, Q1.out, Q2.out, Q3.out]) rfl ?_
      rw [HE.out]
      exact ⟨none, 0, 0, none, 0, 0, 3, rfl, Bs.nil_ _, Bs.nil_ _, rfl, HBR.out⟩
    | true =>
      cases r with
      | nil =>
        have HE := Lib.hid (show parseL [f] = ((0, [], 0, []), 2) by rw [hE]; simp)
        clear hE
        go_enter Try.func20, Try.ntmps20
        have u0 := blk_cell (setRow_block (k := w.heap.size) [.int .u8 0, .slice none 0 0, .int .u32 0, .slice none 0 0] 0 hnew) 0
        have u1 := blk_cell (setRow_block (k := w.heap.size) [.int .u8 0, .slice none 0 0, .int .u32 0, .slice none 0 0] 0 hnew) 1
        have u2 := blk_cell (setRow_block (k := w.heap.size) [.int .u8 0, .slice none 0 0, .int .u32 0, .slice none 0 0] 0 hnew) 2
        have u3 := blk_cell (setRow_block (k := w.heap.size) [.int .u8 0, .slice none 0 0, .int .u32 0, .slice none 0 0] 0 hnew) 3
        have hgR := setRow_grown (k := w.heap.size) [.int .u8 0, .slice none 0 0, .int .u32 0, .slice none 0 0] w0 0
        have hBR := hba.grown hgR hba.size (fun k e => by cases e; exact Nat.le_refl _)
        simp only [setRow, setArr, Nat.reduceAdd, Nat.zero_add] at u0 u1 u2 u3
        have Q0 := Lib.hid u0
        have Q1 := Lib.hid u1
        have Q2 := Lib.hid u2
        have Q3 := Lib.hid u3
        have HBR := Lib.hid hBR
        clear u0 u1 u2 u3 hgR hBR
        go_wp2_with (go_at_call 61; refine (HF.out _).mono ?_; rintro e wq ⟨rfl, rfl⟩)
        refine bodyPost_ret (v := .tuple #[.agg #[.int .u8 0, .slice none 0 0, .int .u32 0, .slice none 0 0], .int .i64 2]) (by simp [results, Try.f20, go_sem, Q0.out, Q1.out, Q2.out, Q3.out]) rfl ?_
        rw [HE.out]
        exact ⟨none, 0, 0, none, 0, 0, 2, rfl, Bs.nil_ _, Bs.nil_ _, rfl, HBR.out⟩
      | cons k r2 =>
        obtain ⟨b', off', e', _, hc1⟩ := h.byte (k := 1) (by simp)
        injection e' with e'
        injection e' with e1 e2
        subst e1
        subst e2
        have q1 : w0.cell? ⟨b, off + 1, none⟩ = some (.int .u8 (k.toNat : Int)) := (hba.cell (p := ⟨b, off + 1, none⟩) hbl).trans hc1
        have hk := k.toNat_lt
        have hl : (f :: k :: r2).length = r2.length + 2 := rfl
        have hd1 : decide (((((f :: k :: r2).length : Nat) : Int)) < 2) = false := decide_eq_false (by rw [hl]; omega)
        have hi1 : (1 : Int) < (((f :: k :: r2).length : Nat) : Int) := by rw [hl]; omega
        have HKN := Lib.hid (show k.toNat < 256 from hk)
        by_cases h4 : r2.length < k.toNat + 4
        · have HE := Lib.hid (show parseL (f :: k :: r2) = ((0, [], 0, []), 2) by rw [hE]; simp [h4])
          have hd2 : decide (((((f :: k :: r2).length : Nat) : Int)) < 6 + (k.toNat : Int)) = true := decide_eq_true (by rw [hl]; omega)
          clear hE hl h4
          generalize (f :: k :: r2).length = n at h hz0 hi0 HN hd1 hi1 hd2
          go_enter Try.func20, Try.ntmps20
          have u0 := blk_cell (setRow_block (k := w.heap.size) [.int .u8 0, .slice none 0 0, .int .u32 0, .slice none 0 0] 0 hnew) 0
          have u1 := blk_cell (setRow_block (k := w.heap.size) [.int .u8 0, .slice none 0 0, .int .u32 0, .slice none 0 0] 0 hnew) 1
          have u2 := blk_cell (setRow_block (k := w.heap.size) [.int .u8 0, .slice none 0 0, .int .u32 0, .slice none 0 0] 0 hnew) 2
          have u3 := blk_cell (setRow_block (k := w.heap.size) [.int .u8 0, .slice none 0 0, .int .u32 0, .slice none 0 0] 0 hnew) 3
          have hgR := setRow_grown (k := w.heap.size) [.int .u8 0, .slice none 0 0, .int .u32 0, .slice none 0 0] w0 0
          have hBR := hba.grown hgR hba.size (fun k e => by cases e; exact Nat.le_refl _)
          simp only [setRow, setArr, Nat.reduceAdd, Nat.zero_add] at u0 u1 u2 u3
          have Q0 := Lib.hid u0
          have Q1 := Lib.hid u1
          have Q2 := Lib.hid u2
          have Q3 := Lib.hid u3
          have HBR := Lib.hid hBR
          clear u0 u1 u2 u3 hgR hBR
          go_wp2_with (go_at_call 61; refine (HF.out _).mono ?_; rintro e wq ⟨rfl, rfl⟩)
          refine bodyPost_ret (v := .tuple #[.agg #[.int .u8 0, .slice none 0 0, .int .u32 0, .slice none 0 0], .int .i64 2]) (by simp [results, Try.f20, go_sem, Q0.out, Q1.out, Q2.out, Q3.out]) rfl ?_
          rw [HE.out]
          exact ⟨none, 0, 0, none, 0, 0, 2, rfl, Bs.nil_ _, Bs.nil_ _, rfl, HBR.out⟩
        · have HE := Lib.hid (show parseL (f :: k :: r2) = ((f, r2.take k.toNat, val ((r2.drop k.toNat).take 4), r2.drop (k.toNat + 4)), 0) by rw [hE]; simp [h4])
          have hd2 : decide (((((f :: k :: r2).length : Nat) : Int)) < 6 + (k.toNat : Int)) = false := decide_eq_false (by rw [hl]; omega)
          obtain ⟨N, hN⟩ : ∃ N, N = 2 + k.toNat := ⟨_, rfl⟩
          obtain ⟨M, hM⟩ : ∃ M, M = N + 4 := ⟨_, rfl⟩
          have y1 : (2 : Int) + (k.toNat : Int) = (N : Int) := by omega
          have y2 : (N : Int) + 4 = (M : Int) := by omega
          have y3 : IntKind.i64.wrap ((N : Int) + 4) = (M : Int) := by rw [y2]; exact IntWalk.i64_in _ (by omega)
          have y4 : IntKind.i64.wrap (M : Int) = (M : Int) := IntWalk.i64_in _ (by omega)
          have hi2 : ((0 : Int) < (((f :: k :: r2).length : Nat) : Int)) = True := eq_true (by rw [hl]; omega)
          have hi3 : (0 < (f :: k :: r2).length) = True := eq_true (by rw [hl]; omega)
          have hcap := h.cap
          have b1 := (h.from_ (k := 2) (by rw [hl]; omega)).upto (k := k.toNat) (by rw [hl]; omega)
          have b2 := (h.from_ (k := N) (by rw [hl]; omega)).upto (k := 4) (by rw [hl]; omega)
          have b3 := h.from_ (k := M) (by rw [hl]; omega)
          have e1 : ((f :: k :: r2).drop 2).take k.toNat = r2.take k.toNat := rfl
          have e2 : ((f :: k :: r2).drop N).take 4 = (r2.drop k.toNat).take 4 := by rw [hN, Nat.add_comm, List.drop_succ_cons, List.drop_succ_cons]
          have e3 : (f :: k :: r2).drop M = r2.drop (k.toNat + 4) := by rw [hM, hN, show 2 + k.toNat + 4 = k.toNat + 4 + 1 + 1 by omega, List.drop_succ_cons, List.drop_succ_cons]
          rw [e1] at b1
          rw [e2] at b2
          rw [e3] at b3
          have hvy := val_lt ((r2.drop k.toNat).take 4) (by rw [List.length_take]; omega)
          have hvr := (val_range ((r2.drop k.toNat).take 4)).1
          generalize (f :: k :: r2).length = n at h hz0 hi0 hi2 hi3 HN hd1 hi1 hd2 hl hcap b1 b2 b3
          have s1 := fun W => slice_mid (some ⟨b, off, none⟩) n c 2 N (by omega) (by omega) 2 N rfl rfl W
          have s2 := fun W => slice_mid (some ⟨b, off, none⟩) n c N M (by omega) (by omega) N M rfl rfl W
          have s3 := fun W => slice_from (some ⟨b, off, none⟩) n c M (by omega) M rfl W
          rw [show N - 2 = k.toNat by omega] at s1
          rw [show M - N = 4 by omega] at s2
          generalize (if c = 2 then (some ⟨b, off, none⟩ : Option Addr) else (some ⟨b, off, none⟩ : Option Addr).map (·.add 2)) = A1 at s1 b1
          generalize (if c = N then (some ⟨b, off, none⟩ : Option Addr) else (some ⟨b, off, none⟩ : Option Addr).map (·.add N)) = A2 at s2 b2
          generalize (if c = M then (some ⟨b, off, none⟩ : Option Addr) else (some ⟨b, off, none⟩ : Option Addr).map (·.add M)) = A3 at s3 b3
          have hv := Value_calls (b2.below hba).drew
          generalize hy : val ((r2.drop k.toNat).take 4) = y at HE hv hvy hvr
          have m1 : y % 4294967296 = y := by omega
          have m2 : IntKind.u32.wrap y = y := by rw [IntKind.wrap_u32]; exact m1
          have HV := Lib.hid hv
          have q0d : w0.drew.cell? ⟨b, off, none⟩ = some (.int .u8 (f.toNat : Int)) := q0
          have hgU := setRow_grown (k := w.heap.size) [.int .u8 (f.toNat : Int), .slice A1 k.toNat (c - 2), .int .u32 y, .slice A3 (n - M) (c - M)] w0 0
          have hq0U : (setRow w.heap.size w0 0 [.int .u8 (f.toNat : Int), .slice A1 k.toNat (c - 2), .int .u32 y, .slice A3 (n - M) (c - M)]).cell? ⟨b, off, none⟩ = some (.int .u8 (f.toNat : Int)) := (hba.grown hgU hba.size (fun k e => by cases e; exact Nat.le_refl _)).cell (p := ⟨b, off + 0, none⟩) hbl |>.trans hc0
          have q0s := drew_cell hq0U
          have hBU := (hba.grown hgU hba.size (fun k e => by cases e; exact Nat.le_refl _)).drew
          have u0 := blk_cell (setRow_block (k := w.heap.size) [.int .u8 (f.toNat : Int)] 0 hnew) 0
          have u1 := blk_cell (setRow_block (k := w.heap.size) [.int .u8 (f.toNat : Int), .slice A1 k.toNat (c - 2)] 0 hnew) 1
          have u2 := blk_cell (setRow_block (k := w.heap.size) [.int .u8 (f.toNat : Int), .slice A1 k.toNat (c - 2), .int .u32 y] 0 hnew) 2
          have u3 := blk_cell (setRow_block (k := w.heap.size) [.int .u8 (f.toNat : Int), .slice A1 k.toNat (c - 2), .int .u32 y, .slice A3 (n - M) (c - M)] 0 hnew) 3
          simp only [setRow, setArr, Nat.reduceAdd, Nat.zero_add] at u0 u1 u2 u3 q0s hBU
          have Q0 := Lib.hid u0
          have Q1 := Lib.hid u1
          have Q2 := Lib.hid u2
          have Q3 := Lib.hid u3
          have HBU := Lib.hid hBU
          have hY1 := Lib.hid hN
          have hY2 := Lib.hid hM
          have HB1 := Lib.hid b1
          have HB3 := Lib.hid b3
          clear u0 u1 u2 u3 hgU hBU hq0U hN hM hE hl hvy hvr hy b1 b2 b3 hc0 hc1 hcap e1 e2 e3 h4 hv
          go_enter Try.func20, Try.ntmps20
          go_wp2_with (go_at_call 61; refine (HF.out _).mono ?_; rintro e wq ⟨rfl, rfl⟩)
          go_region_held3 (fun w' => w'.cell? ⟨b, off, none⟩ = some (.int .u8 (f.toNat : Int))) (first | with_reducible exact q0d | with_reducible exact q0s) (first
            | (go_at_call 62; refine HV.out.mono ?_; rintro e wq ⟨rfl, rfl⟩))
          go_wp2
          refine bodyPost_ret (v := .tuple #[.agg #[.int .u8 (f.toNat : Int), .slice A1 k.toNat (c - 2), .int .u32 y, .slice A3 (n - M) (c - M)], .int .i64 0]) (by simp [results, Try.f20, go_sem, Q0.out, Q1.out, Q2.out, Q3.out]) rfl ?_
          rw [HE.out]
          exact ⟨A1, _, _, A3, _, _, 0, rfl, HB1.out.below HBU.out, HB3.out.below HBU.out, rfl, HBU.out⟩
end Go.Proofs.Ytegbncngencfnaa
