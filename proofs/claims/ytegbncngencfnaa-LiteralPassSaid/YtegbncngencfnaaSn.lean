/- subpkt.Parse. -/
import Derived.Test.YtegbncngencfnaaSm
namespace Go.Proofs.Ytegbncngencfnaa
open Go.RowKit

/-- The subpackets of bytes, behind acc. -/
def parseT : Nat → List SubV → List UInt8 → List SubV × Int
  | 0, acc, _ => (acc, 0)
  | f + 1, acc, b => if b = [] then (acc, 0) else if acc.length = 40 then ([], 4) else
    if (stakeR b).2.2 = 0 then parseT f (acc ++ [(stakeR b).1]) (stakeR b).2.1 else ([], (stakeR b).2.2)
def parseF (b : List UInt8) : List SubV × Int := if 4000 < b.length then ([], 4) else parseT 41 [] b

theorem alloc2_new (w : World) (o1 o2 : Obj) : ((w.alloc o1).alloc o2).heap[w.heap.size + 1]? = some o2 := by
  have := heap_alloc_new (w.alloc o1) o2
  rw [World.size_alloc] at this
  exact this
set_option maxRecDepth 100000 in
set_option maxHeartbeats 3200000 in
theorem Parse_calls {A : Option Addr} {n c : Nat} {l : List UInt8} {w : World} (h : Bs w A n c l) :
    Calls Try.prog 13 #[.slice A n c] w fun e w' => ∃ A' m' c' r, e = .returned (.tuple #[.slice A' m' c', .int .i64 r]) ∧ OwnSs w' w.heap.size none A' m' c' (parseF l).1 ∧ r = (parseF l).2 ∧ Below w.heap.size w w' := by
  obtain rfl := h.2
  have hnm : l.length ≤ 9223372036854775807 := by have := h.cap; unfold maxLen at this; omega
  by_cases h4 : 4000 < l.length
  · have ht := Lib.hid (show parseF l = ([], 4) by rw [parseF, if_pos h4])
    go_enter Try.func13, Try.ntmps13
    go_wp2
    go_ret2
    rw [ht.out]
    exact ⟨_, _, _, _, rfl, OwnSs.nil_ _ _ _, rfl, Below.refl _ _⟩
  · have ht := Lib.hid (show parseF l = parseT 41 [] l by rw [parseF, if_neg h4])
    have hd4 : decide ((4000 : Int) < (l.length : Int)) = false := decide_eq_false (by omega)
    have H4 := Lib.hid h4
    clear h4
    go_enter Try.func13, Try.ntmps13
    go_wp2_with (go_at_call 51; refine (Over_calls h (by have := H4.out; omega)).mono ?_; rintro e w1 ⟨g, rfl, hg, hc, hb1⟩)
    have hgl := hc.lt
    go_loopw [4] (fun o wr => ∃ (Ao : Option Addr) (k co : Nat) (acc : List SubV) (a : Nat), o = .slice Ao k co ∧ k ≤ 40 ∧ OwnSs wr (g + 1) (some g) Ao k co acc ∧ Cur wr g a l ∧ Below w.heap.size w wr ∧ g < wr.heap.size ∧ Hid (parseT (41 - k) acc (l.drop a) = parseT 41 [] l)) (fun o _ => match o with | .slice _ k _ => 41 - k | _ => 0)
    case atStart => exact ⟨none, 0, 0, [], 0, rfl, Nat.zero_le _, OwnSs.nil_ _ _ _, hc, hb1, hgl, Lib.hid rfl⟩
    case round =>
      obtain ⟨Ao, k, co, acc, a, rfl, hk, hown, hcur, hbr, hgr, hfi⟩ := hrel
      clear hc hb1 hgl
      obtain rfl := hown.len
      have hcl := hcur.len
      have hf := hfi.out
      rw [show 41 - acc.length = 40 - acc.length + 1 by omega, parseT] at hf
      by_cases hbl : l.drop a = []
      · rw [if_pos hbl] at hf
        have HF := Lib.hid hf
        have hla : (l.length : Int) - (a : Int) = 0 := by have := congrArg List.length hbl; simp at this; omega
        clear hf hbl
        go_wp2_with (go_at_call 52; refine (Left_calls hcur).mono ?_; rintro e w2 ⟨rfl, nq, rfl⟩)
        go_ret2
        rw [ht.out, ← HF.out]
        exact ⟨_, _, _, _, rfl, (hown.below (below_drewN (Below.refl _ _) nq)).free.lower (by omega), rfl, below_drewN hbr _⟩
      · have hla : (0 : Int) < (l.length : Int) - (a : Int) := by
          have := List.length_pos_iff.2 hbl
          rw [List.length_drop] at this
          omega
        rw [if_neg hbl] at hf
        by_cases hk40 : acc.length = 40
        · rw [if_pos hk40] at hf
          have HF := Lib.hid hf
          clear hf
          go_wp2_with (go_at_call 52; refine (Left_calls hcur).mono ?_; rintro e w2 ⟨rfl, nq, rfl⟩)
          go_ret2
          rw [ht.out, ← HF.out]
          exact ⟨_, _, _, _, rfl, OwnSs.nil_ _ _ _, rfl, below_drewN hbr _⟩
        · rw [if_neg hk40] at hf
          have hd40 : ((acc.length : Int) == 40) = false := by rw [beq_eq_false_iff_ne]; omega
          have htk := fun (W : World) (hc : Cur W g a l) => stake_calls hc
          generalize stakeR (l.drop a) = S at hf htk
          obtain ⟨⟨sty, scr, sbody⟩, rst, r⟩ := S
          simp only at hf
          have HK := Lib.hid htk
          have hk39 : acc.length ≤ 39 := by omega
          have hbl0 := Lib.hid hbl
          clear htk hk40 hbl
          by_cases hr0 : r = 0
          · subst hr0
            rw [if_pos rfl] at hf
            have HF := Lib.hid hf
            clear hf
            go_wp2_with (first
              | (go_at_call 52; refine (Left_calls hcur).mono ?_; rintro e w2 ⟨rfl, nq, rfl⟩)
              | (go_at_call 53; refine (HK.out _ (hcur.drewN nq)).mono ?_; rintro e w3 ⟨⟨ty, cr, Ab, nb_, cb, r3, a3, rfl, hr3, hs3, hab3, ha3, hc3⟩, hg3⟩; obtain rfl : r3 = 0 := hr3; obtain ⟨rfl, rfl, hbs3, hd3⟩ := hs3 rfl; have HD3 := Lib.hid hd3; clear hd3 hs3; go_must (have hg3' : wr.grownBy w3 (some g) := grown_trans (grown_of_below (below_drewN (Below.refl wr.heap.size wr) nq) _) hg3; have hown3 := hown.other hg3'; have hB3 : Below w.heap.size w w3 := hbr.grown hg3' hbr.size (fun k e => by cases e; exact hg); have hsz3 : wr.heap.size ≤ w3.heap.size := hg3'.size; have hba := (Below.refl w3.heap.size w3).alloc (Nat.le_refl _) (.cells #[.int .i64 ty, .bool cr, .slice Ab nb_ cb] 78); have hbb := hba.alloc (by simp) (.cells #[.int .i64 ty, .bool cr, .slice Ab nb_ cb] 78); have hnX : ((w3.alloc (.cells #[.int .i64 ty, .bool cr, .slice Ab nb_ cb] 78)).alloc (.cells #[.int .i64 ty, .bool cr, .slice Ab nb_ cb] 78)).heap[w3.heap.size + 1]? = some (.cells #[.int .i64 ty, .bool cr, .slice Ab nb_ cb] 78 (0, 0)) := alloc2_new w3 _ _; have hown4 := hown3.below hbb; have hc4 := hc3.below hbb; have hbs4 := hbs3.below hbb; have hB4 := below_then hB3 hB3.size hbb; have hsz4 := hbb.size))
              | (at_builtin; refine appSk (.tmp 27) (.tmp 29) rfl rfl rfl hown4 (ty, cr, sbody) rfl hnX hbs4 (fun _ ad e => ?_) (fun k e => ?_) (by omega) (by omega) ?_))
            focus
              have h1 : wr.heap.size ≤ ad.block := hab3 ad e
              refine ⟨fun e2 => ?_, fun e2 => by have e3 : ad.block = g := (by first | exact e2 | exact Option.some.inj e2); omega⟩
              cases Ao with
              | none => cases e2
              | some a0 =>
                have e' : ad.block = a0.block := by injection e2
                have := (hown.blk a0 rfl).2
                omega
            focus
              have e3 : g = k := by first | exact e | exact Option.some.inj e
              omega
            intro A5 c5 w5 hown5 hg5 hat5
            have hc5 := hc4.grown hg5 (fun k e => by
              cases Ao with
              | none => cases e
              | some a0 => cases e; exact (hown4.blk _ rfl).1)
            have hB5 : Below w.heap.size w w5 := hB4.grown hg5 hB4.size (fun k e => by
              cases Ao with
              | none => cases e
              | some a0 => cases e; exact Nat.le_trans (show w.heap.size ≤ g + 1 by omega) (hown4.blk _ rfl).1)
            have hsz5 := hg5.size
            have hf5 : parseT (41 - (acc.length + 1)) (acc ++ [(ty, cr, sbody)]) (l.drop a3) = parseT 41 [] l := by rw [HD3.out, show 41 - (acc.length + 1) = 40 - acc.length by omega]; exact HF.out
            have HF5 := Lib.hid hf5
            clear hf5
            go_wp2
            go_roundw
            case rel => exact ⟨A5, _, c5, _, a3, rfl, by omega, hown5, hc5, hB5, by omega, HF5⟩
            case measure => simp; omega
          · rw [if_neg hr0] at hf
            have HF := Lib.hid hf
            have hne : (r != 0) = true := by rw [bne_iff_ne]; exact hr0
            have H0 := Lib.hid hr0
            clear hf hr0
            go_wp2_with (first
              | (go_at_call 52; refine (Left_calls hcur).mono ?_; rintro e w2 ⟨rfl, nq, rfl⟩)
              | (go_at_call 53; refine (HK.out _ (hcur.drewN nq)).mono ?_; rintro e w3 ⟨⟨ty, cr, Ab, nb_, cb, r3, a3, rfl, hr3, hs3, hab3, ha3, hc3⟩, hg3⟩; obtain rfl : r3 = r := hr3; have HS3 := Lib.hid hs3; clear hs3; go_must (have hg3' : wr.grownBy w3 (some g) := grown_trans (grown_of_below (below_drewN (Below.refl wr.heap.size wr) nq) _) hg3; have hB3 : Below w.heap.size w w3 := hbr.grown hg3' hbr.size (fun k e => by cases e; exact hg))))
            go_ret2
            rw [ht.out, ← HF.out]
            exact ⟨_, _, _, _, rfl, OwnSs.nil_ _ _ _, rfl, hB3.alloc hB3.size _⟩
end Go.Proofs.Ytegbncngencfnaa
