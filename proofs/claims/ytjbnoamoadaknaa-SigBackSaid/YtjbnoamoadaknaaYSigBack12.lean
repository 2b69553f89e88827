import Derived.Test.YtjbnoamoadaknaaYSigBack11
import Derived.Test.YtjbnoamoadaknaaYSigBack10
import Derived.Deep.RegionHeld
import Derived.Deep.QuietTactic
import Derived.BigQuiet
import Derived.Test.YtjbnoamoadaknaaYSigBack6
/- Taking a subpacket. -/
section
namespace Go.Proofs.Ytjbnoamoadaknaa
open Go.RowKit

/-- The subpacket at the beginning of b, what stands behind it, and why there is none. -/
def stakeR (b : List UInt8) : SubV × List UInt8 × Int :=
  if (slenR b).2.2 ≠ 0 then ((0, false, []), [], (slenR b).2.2) else if (slenR b).1 = 0 then ((0, false, []), [], 3) else
  if (slenR b).2.1.length < (slenR b).1 then ((0, false, []), [], 2) else
  ((((((slenR b).2.1.headD 0).toNat % 128 : Nat) : Int), decide (128 ≤ ((slenR b).2.1.headD 0).toNat), ((slenR b).2.1.take (slenR b).1).drop 1), (slenR b).2.1.drop (slenR b).1, 0)

theorem and_tab : ∀ n : Fin 256, (bits BinOp.and IntKind.u8 ((n.val : Nat) : Int) 127 = ((n.val % 128 : Nat) : Int)) ∧ (bits BinOp.and IntKind.u8 ((n.val : Nat) : Int) 128 != 0) = decide (128 ≤ n.val) := by decide +kernel

/-- 'take' has answered. -/
def SubSaid (g : Nat) (l : List UInt8) (w w' : World) (S : SubV × List UInt8 × Int) (e : Ending) : Prop :=
  ∃ (ty : Int) (cr : Bool) (Ab : Option Addr) (nb_ cb : Nat) (r : Int) (a2 : Nat), e = .returned (.tuple #[.agg #[.int .i64 ty, .bool cr, .slice Ab nb_ cb], .int .i64 r]) ∧ r = S.2.2 ∧ (r = 0 → ty = S.1.1 ∧ cr = S.1.2.1 ∧ Bs w' Ab nb_ cb S.1.2.2 ∧ l.drop a2 = S.2.1) ∧ (∀ ad, Ab = some ad → w.heap.size ≤ ad.block) ∧ a2 ≤ l.length ∧ Cur w' g a2 l
/-- Three stores into a new block of three cells. -/
abbrev set3 (w1 : World) (k : Nat) (v0 v1 v2 : Value) : World := ((w1.setCell ⟨k, 0, none⟩ v0).setCell ⟨k, 1, none⟩ v1).setCell ⟨k, 2, none⟩ v2
theorem set3_block {w1 : World} {k : Nat} {u0 u1 u2 : Value} {T : TypeId} (h : w1.heap[k]? = some (.cells #[u0, u1, u2] T (0, 0))) (v0 v1 v2 : Value) : (set3 w1 k v0 v1 v2).heap[k]? = some (.cells #[v0, v1, v2] T (0, 0)) :=
  blk_set (blk_set (blk_set h 0 v0) 1 v1) 2 v2
theorem set3_grown (w1 : World) (k : Nat) (v0 v1 v2 : Value) : w1.grownBy (set3 w1 k v0 v1 v2) (some k) :=
  grown_trans (grown_trans (grown_setCell w1 k 0 v0) (grown_setCell _ k 1 v1)) (grown_setCell _ k 2 v2)
theorem grown_new {w w1 w2 : World} {r : Option Nat} {k : Nat} (h : w.grownBy w1 r) (h2 : w1.grownBy w2 (some k)) (hk : w.heap.size ≤ k) : w.grownBy w2 r :=
  ⟨h2.os.trans h.os, h2.tape.trans h.tape, h2.output.trans h.output, Nat.le_trans h.size h2.size, fun i hi hn => (h2.block i (Nat.lt_of_lt_of_le hi h.size) (fun e => by injection e with e; omega)).trans (h.block i hi hn)⟩

set_option maxRecDepth 100000 in
set_option maxHeartbeats 3200000 in
theorem stake_calls {w : World} {g a : Nat} {l : List UInt8} (h : Cur w g a l) :
    Calls Try.prog 80 #[.pointer (some ⟨g, 0, none⟩)] w fun e w' => SubSaid g l w w' (stakeR (l.drop a)) e ∧ w.grownBy w' (some g) := by
  have hgl := h.lt
  have hll := h.len.2
  have hcur := h.below ((Below.refl w.heap.size w).alloc (Nat.le_refl _) (.cells #[.int .i64 0, .bool false, .slice none 0 0] 70))
  have hsl := slength_calls hcur
  have hg0 : w.grownBy (w.alloc (.cells #[.int .i64 0, .bool false, .slice none 0 0] 70)) (some g) := World.grownBy_alloc w _ _
  have hnew := heap_alloc_new w (.cells #[.int .i64 0, .bool false, .slice none 0 0] 70)
  have hS : stakeR (l.drop a) = (if (slenR (l.drop a)).2.2 ≠ 0 then ((0, false, []), [], (slenR (l.drop a)).2.2) else if (slenR (l.drop a)).1 = 0 then ((0, false, []), [], 3) else
  if (slenR (l.drop a)).2.1.length < (slenR (l.drop a)).1 then ((0, false, []), [], 2) else
  ((((((slenR (l.drop a)).2.1.headD 0).toNat % 128 : Nat) : Int), decide (128 ≤ ((slenR (l.drop a)).2.1.headD 0).toNat), ((slenR (l.drop a)).2.1.take (slenR (l.drop a)).1).drop 1), (slenR (l.drop a)).2.1.drop (slenR (l.drop a)).1, 0) : SubV × List UInt8 × Int) := rfl
  generalize stakeR (l.drop a) = S at hS ⊢
  generalize slenR (l.drop a) = L at hS hsl
  have HS := Lib.hid hS
  have HL := Lib.hid hsl
  clear hS hsl hcur
  go_enter Try.func80, Try.ntmps80
  go_wp2_with fail
  generalize w.alloc (.cells #[.int .i64 0, .bool false, .slice none 0 0] 70) = w0 at hg0 hnew HL ⊢
  refine HL.out.mono ?_
  rintro e w1 ⟨⟨n, r, a1, rfl, hr, hn, ha1, hc1⟩, hg1⟩
  have hn1 := (hg1.block w.heap.size (blk_lt hnew) (fun e => by injection e with e; omega)).trans hnew
  have hg1' := grown_trans hg0 hg1
  have HR := Lib.hid hr
  have HN := Lib.hid hn
  clear hr hn hg1 hg0 hnew
  have c0 := blk_cell hn1 0
  have c1 := blk_cell hn1 1
  have c2 := blk_cell hn1 2
  have f0 := blk_frozen hn1 0
  have f1 := blk_frozen hn1 1
  have f2 := blk_frozen hn1 2
  simp only [List.getElem?_toArray, List.getElem?_cons_zero, List.getElem?_cons_succ] at c0 c1 c2
  by_cases h0 : r = 0
  · obtain ⟨rfl, hd1⟩ := HN.out h0
    subst h0
    have HD := Lib.hid hd1
    clear hd1
    obtain ⟨n, rst, e0⟩ := L
    simp only at HR HS HD
    have HE := Lib.hid HR.out.symm
    by_cases hn0 : n = 0
    · subst hn0
      have HS2 := Lib.hid (show S = ((0, false, []), [], 3) by rw [HS.out, if_neg (by rw [← HR.out]; decide), if_pos rfl])
      go_wp2
      have hb := set3_block hn1 (.int .i64 0) (.bool false) (.slice none 0 0)
      have q0 := blk_cell hb 0
      have q1 := blk_cell hb 1
      have q2 := blk_cell hb 2
      simp only [List.getElem?_toArray, List.getElem?_cons_zero, List.getElem?_cons_succ] at q0 q1 q2
      refine bodyPost_ret (v := .tuple #[.agg #[.int .i64 0, .bool false, .slice none 0 0], .int .i64 3]) (by simp [results, Try.f80, go_sem, q0, q1, q2]) rfl ?_
      rw [HS2.out]
      exact ⟨⟨_, _, _, _, _, _, a1, rfl, rfl, (fun e => by cases e), (fun ad e => by cases e), ha1, hc1.grown (set3_grown w1 w.heap.size _ _ _) (fun k e => by cases e; exact hgl)⟩, grown_new hg1' (set3_grown w1 w.heap.size _ _ _) (Nat.le_refl _)⟩
    · have hta := Take_any hc1 (n : Int)
      have hrl : l.length - a1 = rst.length := by rw [← HD.out, List.length_drop]
      by_cases hsh : rst.length < n
      · have ht : takeS l a1 (n : Int) = ([], 2, a1) := by rw [takeS, if_neg (by omega), if_pos (by omega)]
        have HS2 := Lib.hid (show S = ((0, false, []), [], 2) by rw [HS.out, if_neg (by rw [← HR.out]; decide), if_neg hn0, if_pos hsh])
        rw [ht] at hta
        have HT := Lib.hid hta
        have hnz : ¬ (n : Int) = 0 := by omega
        clear hta ht hsh hrl
        go_wp2_with (go_at_call 59; refine HT.out.mono ?_; rintro e w2 ⟨A2, m2, c2', r2, rfl, ho2, hr2, hc2, hg2⟩; obtain rfl : r2 = 2 := hr2; go_must (have hn2 := (hg2.block w.heap.size (blk_lt hn1) (fun e => by injection e with e; omega)).trans hn1; have p0 := blk_cell hn2 0; have p1 := blk_cell hn2 1; have p2 := blk_cell hn2 2; have g0 := blk_frozen hn2 0; have g1 := blk_frozen hn2 1; have g2 := blk_frozen hn2 2; simp only [List.getElem?_toArray, List.getElem?_cons_zero, List.getElem?_cons_succ] at p0 p1 p2))
        have hb := set3_block hn2 (.int .i64 0) (.bool false) (.slice none 0 0)
        have q0 := blk_cell hb 0
        have q1 := blk_cell hb 1
        have q2 := blk_cell hb 2
        simp only [List.getElem?_toArray, List.getElem?_cons_zero, List.getElem?_cons_succ] at q0 q1 q2
        refine bodyPost_ret (v := .tuple #[.agg #[.int .i64 0, .bool false, .slice none 0 0], .int .i64 2]) (by simp [results, Try.f80, go_sem, q0, q1, q2]) rfl ?_
        rw [HS2.out]
        exact ⟨⟨_, _, _, _, _, _, a1, rfl, rfl, (fun e => by cases e), (fun ad e => by cases e), ha1, hc2.grown (set3_grown w2 w.heap.size _ _ _) (fun k e => by cases e; exact hgl)⟩, grown_new (grown_trans hg1' hg2) (set3_grown w2 w.heap.size _ _ _) (Nat.le_refl _)⟩
      · have ht : takeS l a1 (n : Int) = (rst.take n, 0, a1 + n) := by rw [takeS, if_neg (by omega), if_neg (by omega), HD.out]; simp
        have HS2 := Lib.hid (show S = (((((rst.headD 0).toNat % 128 : Nat) : Int), decide (128 ≤ (rst.headD 0).toNat), (rst.take n).drop 1), rst.drop n, 0) by rw [HS.out, if_neg (by rw [← HR.out]; decide), if_neg hn0, if_neg hsh])
        rw [ht] at hta
        cases rst with
        | nil => simp at hsh; omega
        | cons x b =>
          obtain ⟨n, rfl⟩ : ∃ m, n = m + 1 := ⟨n - 1, by omega⟩
          simp only [List.take_succ_cons, List.headD_cons, List.drop_succ_cons, List.drop_zero] at hta HS2
          have hdd : l.drop (a1 + (n + 1)) = b.drop n := by rw [← List.drop_drop, HD.out]; rfl
          have HT := Lib.hid hta
          have HDD := Lib.hid hdd
          have hbl2 : n ≤ b.length := by simp at hsh; omega
          have ha2 : a1 + (n + 1) ≤ l.length := by simp at hrl; omega
          have hnz : ¬ ((n + 1 : Nat) : Int) = 0 := by omega
          have hx := x.toNat_lt
          obtain ⟨t1, t2⟩ := and_tab ⟨x.toNat, hx⟩
          simp only at t1 t2
          clear hta ht hsh hrl hdd hnz hn0
          go_wp2_with (go_at_call 59; refine HT.out.mono ?_; rintro e w2 ⟨A2, m2, c2', r2, rfl, ho2, hr2, hc2, hg2⟩; obtain rfl : r2 = 0 := hr2; go_must (have hn2 := (hg2.block w.heap.size (blk_lt hn1) (fun e => by injection e with e; omega)).trans hn1))
          have hm2 := ho2.2
          obtain rfl : m2 = n + 1 := by rw [← hm2]; simp; omega
          have hfr := ho2.bs.from_ (k := 1) (by omega)
          have hsf := fun W => slice_from A2 (n + 1) c2' 1 (by omega) 1 rfl W
          have hmb := map_blk (A := A2) (a2 := if c2' = 1 then A2 else A2.map (·.add 1)) rfl
          generalize (if c2' = 1 then A2 else A2.map (·.add 1)) = A3 at hfr hsf hmb
          obtain ⟨b2, o2, rfl, hbl, hcell⟩ := ho2.bs.byte (k := 0) (by simp)
          have q0 : w2.cell? ⟨b2, o2, none⟩ = some (.int .u8 (x.toNat : Int)) := hcell
          have p0 : w2.cell? ⟨w.heap.size, 0, none⟩ = some (.int .i64 0) := blk_cell hn2 0
          have p1 : w2.cell? ⟨w.heap.size, 1, none⟩ = some (.bool false) := blk_cell hn2 1
          have p2 : w2.cell? ⟨w.heap.size, 2, none⟩ = some (.slice none 0 0) := blk_cell hn2 2
          have g0 : w2.frozen? ⟨w.heap.size, 0, none⟩ = false := blk_frozen hn2 0
          have g1 : w2.frozen? ⟨w.heap.size, 1, none⟩ = false := blk_frozen hn2 1
          have g2 : w2.frozen? ⟨w.heap.size, 2, none⟩ = false := blk_frozen hn2 2
          have hst := ho2.blk
          generalize hy : x.toNat % 128 = y at t1 HS2
          have hw1 : IntKind.i64.wrap (y : Int) = (y : Int) := IntWalk.i64_in _ (by omega)
          have hi1 : (0 : Int) < ((n + 1 : Nat) : Int) := by omega
          have hn2' : w2.drew.heap[w.heap.size]? = some (.cells #[.int .i64 0, .bool false, .slice none 0 0] 70 (0, 0)) := hn2
          have HY := Lib.hid hy
          have HM := Lib.hid hm2
          clear hy hm2 c0 c1 c2 f0 f1 f2
          go_wp2_with fail
          go_still_tail 13, (by kernel_rfl)
          change wpList _ _ _ _ _ w2.drew
          go_wp2
          have hb : (set3 w2 w.heap.size (.int .i64 (y : Int)) (.bool (decide (128 ≤ x.toNat))) (.slice A3 n (c2' - 1))).drew.heap[w.heap.size]? = some (.cells #[.int .i64 (y : Int), .bool (decide (128 ≤ x.toNat)), .slice A3 n (c2' - 1)] 70 (0, 0)) := set3_block hn2 _ _ _
          have hgf : w2.grownBy (set3 w2 w.heap.size (.int .i64 (y : Int)) (.bool (decide (128 ≤ x.toNat))) (.slice A3 n (c2' - 1))).drew (some w.heap.size) := grown_trans (set3_grown w2 w.heap.size _ _ _) (grown_of_below (Below.refl _ _).drew _)
          have hcf := hc2.grown hgf (fun k e => by cases e; exact hgl)
          have hbf := hfr.grown8 hgf (fun hl ad e e2 => by
            obtain ⟨a1', e1, e3⟩ := hmb ad e
            have h4 := (hst a1' e1).1
            have h5 := blk_lt hn1
            injection e2 with e2
            omega)
          generalize (set3 w2 w.heap.size (.int .i64 (y : Int)) (.bool (decide (128 ≤ x.toNat))) (.slice A3 n (c2' - 1))).drew = Wf at hb hgf hcf hbf ⊢
          have z0 := blk_cell hb 0
          have z1 := blk_cell hb 1
          have z2 := blk_cell hb 2
          simp only [List.getElem?_toArray, List.getElem?_cons_zero, List.getElem?_cons_succ] at z0 z1 z2
          refine bodyPost_ret (v := .tuple #[.agg #[.int .i64 (y : Int), .bool (decide (128 ≤ x.toNat)), .slice A3 n (c2' - 1)], .int .i64 0]) (by simp [results, Try.f80, go_sem, z0, z1, z2]) rfl ?_
          rw [HS2.out]
          refine ⟨⟨_, _, _, _, _, _, a1 + (n + 1), rfl, rfl, (fun _ => ⟨rfl, rfl, hbf, HDD.out⟩), fun ad e => ?_, ha2, hcf⟩, grown_new (grown_trans hg1' hg2) hgf (Nat.le_refl _)⟩
          obtain ⟨a1', e1, e3⟩ := hmb ad e
          have h4 := (hst a1' e1).1
          have h5 := hg1'.size
          omega
  · have hne : (r != 0) = true := by rw [bne_iff_ne]; exact h0
    have HS2 := Lib.hid (show S = ((0, false, []), [], r) by rw [HS.out, ← HR.out, if_pos h0])
    have H0 := Lib.hid h0
    clear h0
    go_wp2
    have hb := set3_block hn1 (.int .i64 0) (.bool false) (.slice none 0 0)
    have q0 := blk_cell hb 0
    have q1 := blk_cell hb 1
    have q2 := blk_cell hb 2
    simp only [List.getElem?_toArray, List.getElem?_cons_zero, List.getElem?_cons_succ] at q0 q1 q2
    refine bodyPost_ret (v := .tuple #[.agg #[.int .i64 0, .bool false, .slice none 0 0], .int .i64 r]) (by simp [results, Try.f80, go_sem, q0, q1, q2]) rfl ?_
    rw [HS2.out]
    exact ⟨⟨_, _, _, _, _, _, a1, rfl, rfl, (fun e => absurd e H0.out), (fun ad e => by cases e), ha1, hc1.grown (set3_grown w1 w.heap.size _ _ _) (fun k e => by cases e; exact hgl)⟩, grown_new hg1' (set3_grown w1 w.heap.size _ _ _) (Nat.le_refl _)⟩
end Go.Proofs.Ytjbnoamoadaknaa
end

/- The document's length of a subpacket. -/
section
namespace Go.Proofs.Ytjbnoamoadaknaa
open Go.RowKit

end Go.Proofs.Ytjbnoamoadaknaa
end

/- subpkt.Parse. -/
section
namespace Go.Proofs.Ytjbnoamoadaknaa
open Go.RowKit

/-- The subpackets of bytes, behind acc. -/
def parseT : Nat → List SubV → List UInt8 → List SubV × Int
  | 0, acc, _ => (acc, 0)
  | f + 1, acc, b => if b = [] then (acc, 0) else if acc.length = 40 then ([], 4) else
    if (stakeR b).2.2 = 0 then parseT f (acc ++ [(stakeR b).1]) (stakeR b).2.1 else ([], (stakeR b).2.2)
def parseF (b : List UInt8) : List SubV × Int := if 4000 < b.length then ([], 4) else parseT 41 [] b

theorem alloc2_new (w : World) (o1 o2 : Obj) : ((w.alloc o1).alloc o2).heap[w.heap.size + 1]? = some o2 := by
  have := heap_alloc_new (w.alloc o1) o2
  rw [World.size_alloc] at this
  exact this
set_option maxRecDepth 100000 in
set_option maxHeartbeats 3200000 in
theorem Parse_calls {A : Option Addr} {n c : Nat} {l : List UInt8} {w : World} (h : Bs w A n c l) :
    Calls Try.prog 56 #[.slice A n c] w fun e w' => ∃ A' m' c' r, e = .returned (.tuple #[.slice A' m' c', .int .i64 r]) ∧ OwnSs w' w.heap.size none A' m' c' (parseF l).1 ∧ r = (parseF l).2 ∧ Below w.heap.size w w' := by
  obtain rfl := h.2
  have hnm : l.length ≤ 9223372036854775807 := by have := h.cap; unfold maxLen at this; omega
  by_cases h4 : 4000 < l.length
  · have ht := Lib.hid (show parseF l = ([], 4) by rw [parseF, if_pos h4])
    go_enter Try.func56, Try.ntmps56
    go_wp2
    go_ret2
    rw [ht.out]
    exact ⟨_, _, _, _, rfl, OwnSs.nil_ _ _ _, rfl, Below.refl _ _⟩
  · have ht := Lib.hid (show parseF l = parseT 41 [] l by rw [parseF, if_neg h4])
    have hd4 : decide ((4000 : Int) < (l.length : Int)) = false := decide_eq_false (by omega)
    have H4 := Lib.hid h4
    clear h4
    go_enter Try.func56, Try.ntmps56
    go_wp2_with (go_at_call 23; refine (Over_calls h (by have := H4.out; omega)).mono ?_; rintro e w1 ⟨g, rfl, hg, hc, hb1⟩)
    have hgl := hc.lt
    go_loopw [4] (fun o wr => ∃ (Ao : Option Addr) (k co : Nat) (acc : List SubV) (a : Nat), o = .slice Ao k co ∧ k ≤ 40 ∧ OwnSs wr (g + 1) (some g) Ao k co acc ∧ Cur wr g a l ∧ Below w.heap.size w wr ∧ g < wr.heap.size ∧ Hid (parseT (41 - k) acc (l.drop a) = parseT 41 [] l)) (fun o _ => match o with | .slice _ k _ => 41 - k | _ => 0)
    case atStart => exact ⟨none, 0, 0, [], 0, rfl, Nat.zero_le _, OwnSs.nil_ _ _ _, hc, hb1, hgl, Lib.hid rfl⟩
    case round =>
      obtain ⟨Ao, k, co, acc, a, rfl, hk, hown, hcur, hbr, hgr, hfi⟩ := hrel
      clear hc hb1 hgl
      obtain rfl := hown.len
      have hcl := hcur.len
      have hf := hfi.out
      rw [show 41 - acc.length = 40 - acc.length + 1 by omega, parseT] at hf
      by_cases hbl : l.drop a = []
      · rw [if_pos hbl] at hf
        have HF := Lib.hid hf
        have hla : (l.length : Int) - (a : Int) = 0 := by have := congrArg List.length hbl; simp at this; omega
        clear hf hbl
        go_wp2_with (go_at_call 79; refine (Left_calls hcur).mono ?_; rintro e w2 ⟨rfl, nq, rfl⟩)
        go_ret2
        rw [ht.out, ← HF.out]
        exact ⟨_, _, _, _, rfl, (hown.below (below_drewN (Below.refl _ _) nq)).free.lower (by omega), rfl, below_drewN hbr _⟩
      · have hla : (0 : Int) < (l.length : Int) - (a : Int) := by
          have := List.length_pos_iff.2 hbl
          rw [List.length_drop] at this
          omega
        rw [if_neg hbl] at hf
        by_cases hk40 : acc.length = 40
        · rw [if_pos hk40] at hf
          have HF := Lib.hid hf
          clear hf
          go_wp2_with (go_at_call 79; refine (Left_calls hcur).mono ?_; rintro e w2 ⟨rfl, nq, rfl⟩)
          go_ret2
          rw [ht.out, ← HF.out]
          exact ⟨_, _, _, _, rfl, OwnSs.nil_ _ _ _, rfl, below_drewN hbr _⟩
        · rw [if_neg hk40] at hf
          have hd40 : ((acc.length : Int) == 40) = false := by rw [beq_eq_false_iff_ne]; omega
          have htk := fun (W : World) (hc : Cur W g a l) => stake_calls hc
          generalize stakeR (l.drop a) = S at hf htk
          obtain ⟨⟨sty, scr, sbody⟩, rst, r⟩ := S
          simp only at hf
          have HK := Lib.hid htk
          have hk39 : acc.length ≤ 39 := by omega
          have hbl0 := Lib.hid hbl
          clear htk hk40 hbl
          by_cases hr0 : r = 0
          · subst hr0
            rw [if_pos rfl] at hf
            have HF := Lib.hid hf
            clear hf
            go_wp2_with (first
              | (go_at_call 79; refine (Left_calls hcur).mono ?_; rintro e w2 ⟨rfl, nq, rfl⟩)
              | (go_at_call 80; refine (HK.out _ (hcur.drewN nq)).mono ?_; rintro e w3 ⟨⟨ty, cr, Ab, nb_, cb, r3, a3, rfl, hr3, hs3, hab3, ha3, hc3⟩, hg3⟩; obtain rfl : r3 = 0 := hr3; obtain ⟨rfl, rfl, hbs3, hd3⟩ := hs3 rfl; have HD3 := Lib.hid hd3; clear hd3 hs3; go_must (have hg3' : wr.grownBy w3 (some g) := grown_trans (grown_of_below (below_drewN (Below.refl wr.heap.size wr) nq) _) hg3; have hown3 := hown.other hg3'; have hB3 : Below w.heap.size w w3 := hbr.grown hg3' hbr.size (fun k e => by cases e; exact hg); have hsz3 : wr.heap.size ≤ w3.heap.size := hg3'.size; have hba := (Below.refl w3.heap.size w3).alloc (Nat.le_refl _) (.cells #[.int .i64 ty, .bool cr, .slice Ab nb_ cb] 70); have hbb := hba.alloc (by simp) (.cells #[.int .i64 ty, .bool cr, .slice Ab nb_ cb] 70); have hnX : ((w3.alloc (.cells #[.int .i64 ty, .bool cr, .slice Ab nb_ cb] 70)).alloc (.cells #[.int .i64 ty, .bool cr, .slice Ab nb_ cb] 70)).heap[w3.heap.size + 1]? = some (.cells #[.int .i64 ty, .bool cr, .slice Ab nb_ cb] 70 (0, 0)) := alloc2_new w3 _ _; have hown4 := hown3.below hbb; have hc4 := hc3.below hbb; have hbs4 := hbs3.below hbb; have hB4 := below_then hB3 hB3.size hbb; have hsz4 := hbb.size))
              | (at_builtin; refine appSk (.tmp 27) (.tmp 29) rfl rfl rfl hown4 (ty, cr, sbody) rfl hnX hbs4 (fun _ ad e => ?_) (fun k e => ?_) (by omega) (by omega) ?_))
            focus
              have h1 : wr.heap.size ≤ ad.block := hab3 ad e
              refine ⟨fun e2 => ?_, fun e2 => by have e3 : ad.block = g := (by first | exact e2 | exact Option.some.inj e2); omega⟩
              cases Ao with
              | none => cases e2
              | some a0 =>
                have e' : ad.block = a0.block := by injection e2
                have := (hown.blk a0 rfl).2
                omega
            focus
              have e3 : g = k := by first | exact e | exact Option.some.inj e
              omega
            intro A5 c5 w5 hown5 hg5 hat5
            have hc5 := hc4.grown hg5 (fun k e => by
              cases Ao with
              | none => cases e
              | some a0 => cases e; exact (hown4.blk _ rfl).1)
            have hB5 : Below w.heap.size w w5 := hB4.grown hg5 hB4.size (fun k e => by
              cases Ao with
              | none => cases e
              | some a0 => cases e; exact Nat.le_trans (show w.heap.size ≤ g + 1 by omega) (hown4.blk _ rfl).1)
            have hsz5 := hg5.size
            have hf5 : parseT (41 - (acc.length + 1)) (acc ++ [(ty, cr, sbody)]) (l.drop a3) = parseT 41 [] l := by rw [HD3.out, show 41 - (acc.length + 1) = 40 - acc.length by omega]; exact HF.out
            have HF5 := Lib.hid hf5
            clear hf5
            go_wp2
            go_roundw
            case rel => exact ⟨A5, _, c5, _, a3, rfl, by omega, hown5, hc5, hB5, by omega, HF5⟩
            case measure => simp; omega
          · rw [if_neg hr0] at hf
            have HF := Lib.hid hf
            have hne : (r != 0) = true := by rw [bne_iff_ne]; exact hr0
            have H0 := Lib.hid hr0
            clear hf hr0
            go_wp2_with (first
              | (go_at_call 79; refine (Left_calls hcur).mono ?_; rintro e w2 ⟨rfl, nq, rfl⟩)
              | (go_at_call 80; refine (HK.out _ (hcur.drewN nq)).mono ?_; rintro e w3 ⟨⟨ty, cr, Ab, nb_, cb, r3, a3, rfl, hr3, hs3, hab3, ha3, hc3⟩, hg3⟩; obtain rfl : r3 = r := hr3; have HS3 := Lib.hid hs3; clear hs3; go_must (have hg3' : wr.grownBy w3 (some g) := grown_trans (grown_of_below (below_drewN (Below.refl wr.heap.size wr) nq) _) hg3; have hB3 : Below w.heap.size w w3 := hbr.grown hg3' hbr.size (fun k e => by cases e; exact hg))))
            go_ret2
            rw [ht.out, ← HF.out]
            exact ⟨_, _, _, _, rfl, OwnSs.nil_ _ _ _, rfl, hB3.alloc hB3.size _⟩
end Go.Proofs.Ytjbnoamoadaknaa
end

/- The document's Parse of subpackets. -/
section
namespace Go.Proofs.Ytjbnoamoadaknaa
open Go.RowKit

theorem slenR_le (b : List UInt8) : (slenR b).2.1.length ≤ b.length := by
  cases b with
  | nil => simp [slenR]
  | cons a b =>
    rw [slenR]
    split
    · simp
    · split
      · cases b <;> simp [twoR]; omega
      · split
        · simp
        · simp; omega
theorem own_zero {w : World} {B m c : Nat} {A : Option Addr} {l : List UInt8} (h : Own w B A (0 + m) c ([] ++ l)) : Own w B A m c l := by
  rw [Nat.zero_add] at h
  exact h
theorem rem_tab : ∀ n : Fin 256, Int.tmod ((n.val : Nat) : Int) 128 = ((n.val % 128 : Nat) : Int) := by decide +kernel

theorem own_lit (w : World) (cs : Array Value) (l : List UInt8) (hcs : cs.toList = bvs l) (m : Nat) (hm : l.length = m) (hm2 : m ≤ 140737488355328) : Own (w.alloc (.cells cs 5)) w.heap.size (some ⟨w.heap.size, 0, none⟩) m m l := by
  have hsz : cs.size = m := by rw [← Array.length_toList, hcs]; simp [hm]
  refine ⟨⟨by simp [hm], .inr ⟨_, m, cs, rfl, Nat.le_refl _, heap_alloc_new w _, Nat.le_refl _, by simp only [maxLen]; omega, by omega, ?_⟩⟩, hm⟩
  rw [hcs, Nat.mul_one, List.take_of_length_le (by simp [hm])]
theorem below_lit {w w1 : World} {cs : Array Value} {t : TypeId} (hg : (w.alloc (.cells cs t)).grownBy w1 (Option.map (fun x : Addr => x.block) (some ⟨w.heap.size, 0, none⟩))) : Below w.heap.size w w1 :=
  ((Below.refl _ _).alloc (Nat.le_refl _) _).grown hg (by simp) (fun k hk => by cases hk; exact Nat.le_refl _)
theorem ownSs_lit (w : World) (G : Option Nat) (hG : ∀ g, G = some g → g < w.heap.size) : OwnSs (w.alloc (.cells #[] 70)) w.heap.size G (some ⟨w.heap.size, 0, none⟩) 0 0 [] :=
  ⟨[], ⟨by simp, .inr ⟨_, 0, #[], rfl, Nat.le_refl _, heap_alloc_new w _, Nat.le_refl _, by simp only [maxLen]; omega, by simp, by simp⟩⟩, rfl, rfl, fun g e e2 => by have := hG g e; injection e2 with e2; simp only at e2; omega⟩

end Go.Proofs.Ytjbnoamoadaknaa
end
