/- The statements of layer 21: SubpktTold. -/
import Derived.Test.YtegbncngencfnaaLw21
import Derived.Test.YtegbncngencfnaaSi
import Derived.Test.YtegbncngencfnaaSz
import Derived.Test.YtegbncngencfnaaTb
import Derived.Laws.BitsAllLaws
import Derived.Deep.RegionHeld
import Derived.Laws.StructEq
import Derived.Laws.Cover2
import Derived.KernelRfl
namespace Go.Proofs.Ytegbncngencfnaa
open Go.RowKit

theorem xor85 (y : UInt8) : bits .xor .u8 (y.toNat : Int) 85 = ((y ^^^ 85).toNat : Int) := by
  have := u8_xor_nat y.toNat 85 (UInt8.toNat_lt y) (by omega)
  rw [show ((85 : Nat) : Int) = 85 from rfl] at this
  rw [this, UInt8.toNat_xor]
  rfl
theorem xor85_back (y : UInt8) : bits .xor .u8 ((y ^^^ 85).toNat : Int) 85 = (y.toNat : Int) := by
  rw [xor85, UInt8.xor_assoc, UInt8.xor_self, UInt8.xor_zero]
/-- The first k bytes masked. -/
def mask (k : Nat) (l : List UInt8) : List UInt8 := (l.take k).map (· ^^^ 85) ++ l.drop k
theorem mask_len (k : Nat) (l : List UInt8) : (mask k l).length = l.length := by simp [mask]; omega
theorem mask_at {k : Nat} {l : List UInt8} (h : k < l.length) : (mask k l)[k]'(by rw [mask_len]; exact h) = l[k] := by
  simp only [mask]
  rw [List.getElem_append_right (by simp; exact Nat.min_le_left _ _)]
  simp [Nat.min_eq_left (Nat.le_of_lt h)]
theorem mask_step {k : Nat} {l : List UInt8} (h : k < l.length) : (mask k l).set k (l[k] ^^^ 85) = mask (k + 1) l := by
  simp only [mask]
  rw [List.set_append, if_neg (by simp; exact Nat.min_le_left _ _), List.take_succ_eq_append_getElem h, List.drop_eq_getElem_cons h]
  simp only [List.length_map, List.length_take, Nat.min_eq_left (Nat.le_of_lt h), Nat.sub_self, List.set_cons_zero, List.map_append, List.map_cons, List.map_nil, List.append_assoc, List.singleton_append]
theorem mask_all {l : List UInt8} : mask l.length l = l.map (· ^^^ 85) := by simp [mask]
theorem issS_len (ss : List SubV) : (issS ss).1.length = 8 := by
  rw [issS]
  split
  · rename_i h; exact h.2
  · rfl

theorem eqArr8 (x0 x1 x2 x3 x4 x5 x6 x7 : Int) (w : World) : (Op.equalIn 10000 60 (.agg #[.int .u8 x0, .int .u8 x1, .int .u8 x2, .int .u8 x3, .int .u8 x4, .int .u8 x5, .int .u8 x6, .int .u8 x7]) (.agg #[.int .u8 x0, .int .u8 x1, .int .u8 x2, .int .u8 x3, .int .u8 x4, .int .u8 x5, .int .u8 x6, .int .u8 x7])).run Try.prog w = .ok true w := by
  have u3 := Try.underlying5
  have a3 := Try.isAgg5
  have z3 := Try.sizeOf5
  rw [show (10000 : Nat) = 9999 + 1 from rfl, Op.equalIn]
  simp only [Sem.run_bind, run_underlying Try.underlying60, Result.andThen_ok]
  simp only [Std.Legacy.Range.forIn_eq_forIn_range', Std.Legacy.Range.size, Nat.sub_zero, Nat.add_sub_cancel, Nat.div_one, List.range'_succ, List.range'_zero, List.forIn_cons, List.forIn_nil]
  go_simp

set_option maxRecDepth 100000 in
set_option maxHeartbeats 6400000 in
theorem SubpktTold_walk (t : Int) {A : Option Addr} {n c : Nat} {ss : List SubV} {w : World} (h : Ss w A n ss) (hn : n ≤ 9223372036854775807) (hl : ∀ s ∈ ss, s.2.2.length ≤ 140737488355328) :
    Calls Try.prog 7 #[.slice A n c, .int .i64 t] w fun e w' => e = .returned (.bool true) ∧ Below w.heap.size w w' := by
  have hsm := Small21_calls (c := c) h hn hl
  have HL := Lib.hid hl
  clear hl
  go_enter Try.func7, Try.ntmps7
  go_wp2_with fail
  refine hsm.mono ?_
  rintro e w1 ⟨⟨r, rfl, hs⟩, rfl⟩
  have HS := Lib.hid hs
  clear hs hsm
  cases r with
  | false =>
    go_wp2_with (go_at_call 12; refine (alive21_calls _).mono ?_; rintro e w1 ⟨rfl, hb1⟩)
    go_ret
    exact ⟨rfl, hb1⟩
  | true =>
    have H5 := Lib.hid (show ∀ s ∈ ss, s.2.2.length ≤ 100000 from fun s hs => by have := (HS.out rfl).2 s hs; omega)
    have HF := Lib.hid (fun W (hW : Below w.heap.size w W) => Find_calls t (c := c) (h.below hW) hn H5.out)
    have HFr := Lib.hid (fun W (hW : Below w.heap.size w W) => rFind_calls t (c := c) (h.below hW) hn)
    have HN := Lib.hid (fun W (hW : Below w.heap.size w W) => Number21_calls t (c := c) (h.below hW) hn H5.out)
    have HNr := Lib.hid (fun W (hW : Below w.heap.size w W) => rNumber_calls t (c := c) (h.below hW) hn)
    have HP := Lib.hid (fun W (hW : Below w.heap.size w W) => Print_calls (c := c) (h.below hW) hn H5.out)
    have HPr := Lib.hid (fun W (hW : Below w.heap.size w W) => rPrint_calls (c := c) (h.below hW) hn)
    have HI := Lib.hid (fun W (hW : Below w.heap.size w W) => Issuer_calls (c := c) (h.below hW) hn H5.out)
    have HIr := Lib.hid (fun W (hW : Below w.heap.size w W) => rIssuer_calls (c := c) (h.below hW) hn)
    have HU := Lib.hid (fun W (hW : Below w.heap.size w W) => Uses_calls (c := c) (h.below hW) hn H5.out)
    have HUr := Lib.hid (fun W (hW : Below w.heap.size w W) => rUses_calls (c := c) (h.below hW) hn)
    have HH := Lib.hid (fun W (hW : Below w.heap.size w W) => Hard_calls (c := c) (h.below hW) hn H5.out)
    have HHr := Lib.hid (fun W (hW : Below w.heap.size w W) => rHard_calls (c := c) (h.below hW) hn)
    have hil := issS_len ss
    generalize findS t ss = F at HF HFr
    generalize numberS t ss = Nu at HN HNr
    generalize printF ss = P at HP HPr
    generalize issS ss = I at HI HIr hil
    generalize firstS 27 ss = u at HU HUr
    generalize hardS ss = hd at HH HHr
    obtain ⟨body, ok⟩ := F
    obtain ⟨nu, nok⟩ := Nu
    obtain ⟨pl, pok⟩ := P
    obtain ⟨il, iok⟩ := I
    simp only at hil
    obtain ⟨x0, x1, x2, x3, x4, x5, x6, x7, rfl⟩ : ∃ x0 x1 x2 x3 x4 x5 x6 x7, il = [x0, x1, x2, x3, x4, x5, x6, x7] := by
      match il, hil with
      | [x0, x1, x2, x3, x4, x5, x6, x7], _ => exact ⟨x0, x1, x2, x3, x4, x5, x6, x7, rfl⟩
    have hag : (bvs [x0, x1, x2, x3, x4, x5, x6, x7]).toArray = #[.int .u8 (x0.toNat : Int), .int .u8 (x1.toNat : Int), .int .u8 (x2.toNat : Int), .int .u8 (x3.toNat : Int), .int .u8 (x4.toNat : Int), .int .u8 (x5.toNat : Int), .int .u8 (x6.toNat : Int), .int .u8 (x7.toNat : Int)] := rfl
    simp only [hag] at HI HIr
    clear hil hag
    go_wp2_with fail
    refine (HF.out w (Below.refl _ _)).mono ?_
    rintro e w1 ⟨A1, m1, c1, rfl, ho1, hb1⟩
    go_wp2_with fail
    refine (HFr.out w1 hb1).mono ?_
    rintro e w2 ⟨A2, m2, c2, rfl, ho2, hb2⟩
    have hB2 := below_then hb1 hb1.size hb2
    have s1 := (ho1.bs.below hb2).str
    have s2 := ho2.str
    have ho1b := ho1.below hb2
    clear ho1 ho2 hb1 hb2
    have hm1 : body.length = m1 := ho1b.2
    have hm1c : m1 ≤ 9223372036854775807 := by have := ho1b.bs.cap; simp only [maxLen] at this; omega
    go_wp2_with fail
    go_loopw [9] (fun v wr => ∃ k : Nat, k ≤ m1 ∧ v = .int .i64 k ∧ Own wr w.heap.size A1 m1 c1 (mask k body) ∧ Below w.heap.size w wr) (fun v _ => m1 - (intOf v).toNat)
    case atStart => exact ⟨0, Nat.zero_le _, rfl, by simpa [mask] using ho1b, hB2⟩
    case round =>
      obtain ⟨k, hk, rfl, hor, hbr⟩ := hrel
      clear s1 s2 ho1b hB2
      by_cases hlt : k < m1
      · obtain ⟨g, rfl, hBg, hgl, hcell, hfr, hset⟩ := hor.at_ (k := k) (by rw [mask_len]; omega)
        rw [mask_at (by omega)] at hcell
        have hst := hset ((body[k]'(by omega)) ^^^ 85)
        rw [mask_step (by omega)] at hst
        generalize body[k]'(by omega) = y at hcell hst
        have hx := xor85 y
        have HST := Lib.hid hst
        clear hset hst hor
        go_wp2
        go_roundw
        case rel => exact ⟨k + 1, by omega, by go_num, HST.out, hbr.setCell (p := ⟨g, k, none⟩) hBg _⟩
        case measure => simp [intOf]; omega
      · obtain rfl : k = m1 := by omega
        have hor2 : Own wr w.heap.size A1 k c1 (body.map (· ^^^ 85)) := by rw [← mask_all, hm1]; exact hor
        clear hor
        go_wp2_with fail
        refine (HN.out wr hbr).mono ?_
        rintro e w3 ⟨rfl, hb3⟩
        have hB3 := below_then hbr hbr.size hb3
        have ho3 := hor2.below hb3
        clear hor2 hbr hb3
        go_wp2_with fail
        refine (HNr.out w3 hB3).mono ?_
        rintro e w4 ⟨rfl, hb4⟩
        have hB4 := below_then hB3 hB3.size hb4
        have ho4 := ho3.below hb4
        clear ho3 hB3 hb4
        go_wp2_with fail
        refine (HP.out w4 hB4).mono ?_
        rintro e w5 ⟨A5, m5, c5, rfl, hp5, hb5⟩
        have hB5 := below_then hB4 hB4.size hb5
        have ho5 := ho4.below hb5
        clear ho4 hB4 hb5
        go_wp2_with fail
        refine (HPr.out w5 hB5).mono ?_
        rintro e w6 ⟨A6, m6, c6, rfl, hq6, hb6⟩
        have hB6 := below_then hB5 hB5.size hb6
        have ho6 := ho5.below hb6
        have hp6 := hp5.below hb6
        clear ho5 hB5 hp5 hb6
        go_wp2_with fail
        refine (HI.out w6 hB6).mono ?_
        rintro e w7 ⟨rfl, hb7⟩
        have hB7 := below_then hB6 hB6.size hb7
        have ho7 := ho6.below hb7
        have hp7 := hp6.below hb7
        have hq7 := hq6.below hb7
        clear ho6 hp6 hq6 hB6 hb7
        have hba := (Below.refl w7.heap.size w7).alloc (Nat.le_refl _) (.cells #[.int .u8 0, .int .u8 0, .int .u8 0, .int .u8 0, .int .u8 0, .int .u8 0, .int .u8 0, .int .u8 0] 60)
        have hnw := heap_alloc_new w7 (.cells #[.int .u8 0, .int .u8 0, .int .u8 0, .int .u8 0, .int .u8 0, .int .u8 0, .int .u8 0, .int .u8 0] 60)
        have hz7 := blk_lt hnw
        generalize hv8 : w7.alloc (.cells #[.int .u8 0, .int .u8 0, .int .u8 0, .int .u8 0, .int .u8 0, .int .u8 0, .int .u8 0, .int .u8 0] 60) = v8 at hba hnw hz7
        have f0 := blk_frozen hnw 0
        have r0 : v8.cell? ⟨w7.heap.size, 0, none⟩ = some (.int .u8 0) := blk_cell hnw 0
        have f1 := blk_frozen hnw 1
        have r1 : v8.cell? ⟨w7.heap.size, 1, none⟩ = some (.int .u8 0) := blk_cell hnw 1
        have f2 := blk_frozen hnw 2
        have r2 : v8.cell? ⟨w7.heap.size, 2, none⟩ = some (.int .u8 0) := blk_cell hnw 2
        have f3 := blk_frozen hnw 3
        have r3 : v8.cell? ⟨w7.heap.size, 3, none⟩ = some (.int .u8 0) := blk_cell hnw 3
        have f4 := blk_frozen hnw 4
        have r4 : v8.cell? ⟨w7.heap.size, 4, none⟩ = some (.int .u8 0) := blk_cell hnw 4
        have f5 := blk_frozen hnw 5
        have r5 : v8.cell? ⟨w7.heap.size, 5, none⟩ = some (.int .u8 0) := blk_cell hnw 5
        have f6 := blk_frozen hnw 6
        have r6 : v8.cell? ⟨w7.heap.size, 6, none⟩ = some (.int .u8 0) := blk_cell hnw 6
        have f7 := blk_frozen hnw 7
        have r7 : v8.cell? ⟨w7.heap.size, 7, none⟩ = some (.int .u8 0) := blk_cell hnw 7
        have hS0 := setRow_block (k := w7.heap.size) [.int .u8 (x0.toNat : Int), .int .u8 (x1.toNat : Int), .int .u8 (x2.toNat : Int), .int .u8 (x3.toNat : Int), .int .u8 (x4.toNat : Int), .int .u8 (x5.toNat : Int), .int .u8 (x6.toNat : Int), .int .u8 (x7.toNat : Int)] 0 hnw
        have hG0 := hba.grown (setRow_grown (k := w7.heap.size) [.int .u8 (x0.toNat : Int), .int .u8 (x1.toNat : Int), .int .u8 (x2.toNat : Int), .int .u8 (x3.toNat : Int), .int .u8 (x4.toNat : Int), .int .u8 (x5.toNat : Int), .int .u8 (x6.toNat : Int), .int .u8 (x7.toNat : Int)] v8 0) hba.size (fun k e => by cases e; exact Nat.le_refl _)
        generalize hw8 : setRow w7.heap.size v8 0 [.int .u8 (x0.toNat : Int), .int .u8 (x1.toNat : Int), .int .u8 (x2.toNat : Int), .int .u8 (x3.toNat : Int), .int .u8 (x4.toNat : Int), .int .u8 (x5.toNat : Int), .int .u8 (x6.toNat : Int), .int .u8 (x7.toNat : Int)] = w8 at hS0 hG0
        simp only [setRow, Nat.reduceAdd, Nat.zero_add] at hw8
        have hS8 : w8.heap[w7.heap.size]? = some (.cells #[.int .u8 (x0.toNat : Int), .int .u8 (x1.toNat : Int), .int .u8 (x2.toNat : Int), .int .u8 (x3.toNat : Int), .int .u8 (x4.toNat : Int), .int .u8 (x5.toNat : Int), .int .u8 (x6.toNat : Int), .int .u8 (x7.toNat : Int)] 60 (0, 0)) := hS0
        have HW8 := Lib.hid hw8
        clear hS0 hw8 hba hnw
        go_wp2_with fail
        rw [HW8.out]
        clear HW8 hv8 f0 f1 f2 f3 f4 f5 f6 f7 r0 r1 r2 r3 r4 r5 r6 r7
        have hB8 := below_then hB7 hB7.size hG0
        have ho8 := ho7.below hG0
        have hp8 := hp7.below hG0
        have hq8 := hq7.below hG0
        clear ho7 hp7 hq7 hB7 hG0
        go_wp2_with fail
        refine (HIr.out w8 hB8).mono ?_
        rintro e w9 ⟨rfl, hb9⟩
        have hB9 := below_then hB8 hB8.size hb9
        have ho9 := ho8.below hb9
        have hp9 := hp8.below hb9
        have hq9 := hq8.below hb9
        have hS9 := (hb9.block w7.heap.size (blk_lt hS8)).trans hS8
        clear hS8 ho8 hp8 hq8 hB8 hb9
        have hba := (Below.refl w9.heap.size w9).alloc (Nat.le_refl _) (.cells #[.int .u8 0, .int .u8 0, .int .u8 0, .int .u8 0, .int .u8 0, .int .u8 0, .int .u8 0, .int .u8 0] 60)
        have hnw := heap_alloc_new w9 (.cells #[.int .u8 0, .int .u8 0, .int .u8 0, .int .u8 0, .int .u8 0, .int .u8 0, .int .u8 0, .int .u8 0] 60)
        have hz9 := blk_lt hnw
        generalize hv10 : w9.alloc (.cells #[.int .u8 0, .int .u8 0, .int .u8 0, .int .u8 0, .int .u8 0, .int .u8 0, .int .u8 0, .int .u8 0] 60) = v10 at hba hnw hz9
        have f0 := blk_frozen hnw 0
        have r0 : v10.cell? ⟨w9.heap.size, 0, none⟩ = some (.int .u8 0) := blk_cell hnw 0
        have f1 := blk_frozen hnw 1
        have r1 : v10.cell? ⟨w9.heap.size, 1, none⟩ = some (.int .u8 0) := blk_cell hnw 1
        have f2 := blk_frozen hnw 2
        have r2 : v10.cell? ⟨w9.heap.size, 2, none⟩ = some (.int .u8 0) := blk_cell hnw 2
        have f3 := blk_frozen hnw 3
        have r3 : v10.cell? ⟨w9.heap.size, 3, none⟩ = some (.int .u8 0) := blk_cell hnw 3
        have f4 := blk_frozen hnw 4
        have r4 : v10.cell? ⟨w9.heap.size, 4, none⟩ = some (.int .u8 0) := blk_cell hnw 4
        have f5 := blk_frozen hnw 5
        have r5 : v10.cell? ⟨w9.heap.size, 5, none⟩ = some (.int .u8 0) := blk_cell hnw 5
        have f6 := blk_frozen hnw 6
        have r6 : v10.cell? ⟨w9.heap.size, 6, none⟩ = some (.int .u8 0) := blk_cell hnw 6
        have f7 := blk_frozen hnw 7
        have r7 : v10.cell? ⟨w9.heap.size, 7, none⟩ = some (.int .u8 0) := blk_cell hnw 7
        have hS0 := setRow_block (k := w9.heap.size) [.int .u8 (x0.toNat : Int), .int .u8 (x1.toNat : Int), .int .u8 (x2.toNat : Int), .int .u8 (x3.toNat : Int), .int .u8 (x4.toNat : Int), .int .u8 (x5.toNat : Int), .int .u8 (x6.toNat : Int), .int .u8 (x7.toNat : Int)] 0 hnw
        have hG0 := hba.grown (setRow_grown (k := w9.heap.size) [.int .u8 (x0.toNat : Int), .int .u8 (x1.toNat : Int), .int .u8 (x2.toNat : Int), .int .u8 (x3.toNat : Int), .int .u8 (x4.toNat : Int), .int .u8 (x5.toNat : Int), .int .u8 (x6.toNat : Int), .int .u8 (x7.toNat : Int)] v10 0) hba.size (fun k e => by cases e; exact Nat.le_refl _)
        generalize hw10 : setRow w9.heap.size v10 0 [.int .u8 (x0.toNat : Int), .int .u8 (x1.toNat : Int), .int .u8 (x2.toNat : Int), .int .u8 (x3.toNat : Int), .int .u8 (x4.toNat : Int), .int .u8 (x5.toNat : Int), .int .u8 (x6.toNat : Int), .int .u8 (x7.toNat : Int)] = w10 at hS0 hG0
        simp only [setRow, Nat.reduceAdd, Nat.zero_add] at hw10
        have hS10 : w10.heap[w9.heap.size]? = some (.cells #[.int .u8 (x0.toNat : Int), .int .u8 (x1.toNat : Int), .int .u8 (x2.toNat : Int), .int .u8 (x3.toNat : Int), .int .u8 (x4.toNat : Int), .int .u8 (x5.toNat : Int), .int .u8 (x6.toNat : Int), .int .u8 (x7.toNat : Int)] 60 (0, 0)) := hS0
        have HW10 := Lib.hid hw10
        clear hS0 hw10 hba hnw
        go_wp2_with fail
        rw [HW10.out]
        clear HW10 hv10 f0 f1 f2 f3 f4 f5 f6 f7 r0 r1 r2 r3 r4 r5 r6 r7
        have hS11 := (hG0.block w7.heap.size (blk_lt hS9)).trans hS9
        have hB10 := below_then hB9 hB9.size hG0
        have ho10 := ho9.below hG0
        have hp10 := hp9.below hG0
        have hq10 := hq9.below hG0
        clear ho9 hp9 hq9 hB9 hG0 hS9
        go_wp2_with fail
        refine (HFr.out w10 hB10).mono ?_
        rintro e w11 ⟨A11, m11, c11, rfl, hr11, hb11⟩
        have hB11 := below_then hB10 hB10.size hb11
        have ho := (ho10.below hb11).bs
        have hp := (hp10.below hb11)
        have hq := (hq10.below hb11)
        have hSa := (hb11.block w7.heap.size (blk_lt hS11)).trans hS11
        have hSb := (hb11.block w9.heap.size (blk_lt hS10)).trans hS10
        clear ho10 hp10 hq10 hB10 hb11 hS10 hS11
        have hm11 : m11 = k := by rw [← hr11.2]; exact hm1
        subst hm11
        go_wp2_with fail
        go_loopw [24] (fun v wr => ∃ i : Nat, i ≤ m11 ∧ v = .int .i64 i ∧ Below w11.heap.size w11 wr) (fun v _ => m11 - (intOf v).toNat)
        case atStart => exact ⟨0, Nat.zero_le _, rfl, Below.refl _ _⟩
        case round =>
          obtain ⟨i, hi, rfl, hbl⟩ := hrel
          clear hlt hk
          by_cases hlt : i < m11
          · obtain ⟨b, off, rfl, hbb, hcb⟩ := hr11.byte (k := i) (by omega)
            obtain ⟨b2, off2, rfl, hbb2, hcb2⟩ := ho.byte (k := i) (by simp; omega)
            rw [List.getElem_map] at hcb2
            generalize body[i]'(by omega) = y at hcb hcb2
            have hx := xor85_back y
            generalize (y ^^^ 85) = z at hx hcb2
            have e1 : wr.drew.cell? ⟨b, off + i, none⟩ = some (.int .u8 (y.toNat : Int)) := (hbl.cell (p := ⟨b, off + i, none⟩) hbb).trans hcb
            have e2 : wr.drew.cell? ⟨b2, off2 + i, none⟩ = some (.int .u8 (z.toNat : Int)) := (hbl.cell (p := ⟨b2, off2 + i, none⟩) hbb2).trans hcb2
            have hi0 : (0 : Int) ≤ (i : Int) := by omega
            have hi1 : (i : Int) < (m11 : Int) := by omega
            clear hcb hcb2 ho hp hq hSa hSb hr11
            go_wp2_with fail
            go_region_held (fun w' => w'.cell? ⟨b, off + i, none⟩ = some (.int .u8 (y.toNat : Int)) ∧ w'.cell? ⟨b2, off2 + i, none⟩ = some (.int .u8 (z.toNat : Int))) (exact ⟨e1, e2⟩) (fail)
            go_wp2
            go_roundw
            case rel => exact ⟨i + 1, by omega, by go_num, hbl.drew⟩
            case measure => simp [intOf]; omega
          · have heq := fun W => eqArr8 x0.toNat x1.toNat x2.toNat x3.toNat x4.toNat x5.toNat x6.toNat x7.toNat W
            have hBr := below_then hB11 hB11.size hbl
            clear hr11 ho
            go_wp2_with (first
              | (go_at_call 12; refine (alive21_calls _).mono ?_; rintro e w12 ⟨rfl, hb12⟩; have hbl12 := below_then hbl hbl.size hb12; have hB12 := below_then hBr hBr.size hb12; have s5 := (hp.below hbl12).str; have s6 := (hq.below hbl12).str; have hSa12 := (hbl12.block w7.heap.size (blk_lt hSa)).trans hSa; have hSb12 := (hbl12.block w9.heap.size (blk_lt hSb)).trans hSb; have p0 : w12.cell? ⟨w7.heap.size, 0, none⟩ = some (.int .u8 (x0.toNat : Int)) := blk_cell hSa12 0; have r0 : w12.cell? ⟨w9.heap.size, 0, none⟩ = some (.int .u8 (x0.toNat : Int)) := blk_cell hSb12 0; have p1 : w12.cell? ⟨w7.heap.size, 1, none⟩ = some (.int .u8 (x1.toNat : Int)) := blk_cell hSa12 1; have r1 : w12.cell? ⟨w9.heap.size, 1, none⟩ = some (.int .u8 (x1.toNat : Int)) := blk_cell hSb12 1; have p2 : w12.cell? ⟨w7.heap.size, 2, none⟩ = some (.int .u8 (x2.toNat : Int)) := blk_cell hSa12 2; have r2 : w12.cell? ⟨w9.heap.size, 2, none⟩ = some (.int .u8 (x2.toNat : Int)) := blk_cell hSb12 2; have p3 : w12.cell? ⟨w7.heap.size, 3, none⟩ = some (.int .u8 (x3.toNat : Int)) := blk_cell hSa12 3; have r3 : w12.cell? ⟨w9.heap.size, 3, none⟩ = some (.int .u8 (x3.toNat : Int)) := blk_cell hSb12 3; have p4 : w12.cell? ⟨w7.heap.size, 4, none⟩ = some (.int .u8 (x4.toNat : Int)) := blk_cell hSa12 4; have r4 : w12.cell? ⟨w9.heap.size, 4, none⟩ = some (.int .u8 (x4.toNat : Int)) := blk_cell hSb12 4; have p5 : w12.cell? ⟨w7.heap.size, 5, none⟩ = some (.int .u8 (x5.toNat : Int)) := blk_cell hSa12 5; have r5 : w12.cell? ⟨w9.heap.size, 5, none⟩ = some (.int .u8 (x5.toNat : Int)) := blk_cell hSb12 5; have p6 : w12.cell? ⟨w7.heap.size, 6, none⟩ = some (.int .u8 (x6.toNat : Int)) := blk_cell hSa12 6; have r6 : w12.cell? ⟨w9.heap.size, 6, none⟩ = some (.int .u8 (x6.toNat : Int)) := blk_cell hSb12 6; have p7 : w12.cell? ⟨w7.heap.size, 7, none⟩ = some (.int .u8 (x7.toNat : Int)) := blk_cell hSa12 7; have r7 : w12.cell? ⟨w9.heap.size, 7, none⟩ = some (.int .u8 (x7.toNat : Int)) := blk_cell hSb12 7)
              | (go_at_call 37; refine (HU.out _ hB12).mono ?_; rintro e w13 ⟨rfl, hb13⟩; have hB13 := below_then hB12 hB12.size hb13)
              | (go_at_call 38; refine (HUr.out _ hB13).mono ?_; rintro e w14 ⟨rfl, hb14⟩; have hB14 := below_then hB13 hB13.size hb14)
              | (go_at_call 39; refine (HH.out _ hB14).mono ?_; rintro e w15 ⟨rfl, hb15⟩; have hB15 := below_then hB14 hB14.size hb15)
              | (go_at_call 40; refine (HHr.out _ hB15).mono ?_; rintro e w16 ⟨rfl, hb16⟩; have hB16 := below_then hB15 hB15.size hb16))
            go_ret
            exact ⟨rfl, hB16⟩
end Go.Proofs.Ytegbncngencfnaa
