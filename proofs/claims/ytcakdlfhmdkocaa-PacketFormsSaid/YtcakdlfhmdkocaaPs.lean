/- Splitting bytes into packets. -/
import Derived.Test.YtcakdlfhmdkocaaPo
import Derived.Test.YtcakdlfhmdkocaaTq
namespace Go.Proofs.Ytcakdlfhmdkocaa
open Go.RowKit

/-- The packets of bytes, behind acc. -/
def splitT : Nat → List (Int × List UInt8) → List UInt8 → List (Int × List UInt8) × Int
  | 0, acc, _ => (acc, 0)
  | f + 1, acc, b => if b = [] then (acc, 0) else if acc.length = 100 then ([], 4) else
    if (takeF b).2.2.2 = 0 then splitT f (acc ++ [((takeF b).1, (takeF b).2.1)]) (takeF b).2.2.1 else ([], (takeF b).2.2.2)
def splitF (b : List UInt8) : List (Int × List UInt8) × Int := if 60000 < b.length then ([], 4) else splitT 101 [] b
theorem OwnPs.len {w : World} {B n c : Nat} {A : Option Addr} {ps : List (Int × List UInt8)} (h : OwnPs w B A n c ps) : ps.length = n := by
  obtain ⟨_, _, _, h⟩ := h
  exact h
theorem takeF_rest (l : List UInt8) : (takeF l).2.2.1.length ≤ l.length := by
  unfold takeF
  split
  · simp
  · simp

set_option maxRecDepth 100000 in
set_option maxHeartbeats 3200000 in
theorem Split_calls {A : Option Addr} {n c : Nat} {b : List UInt8} {w : World} (h : Bs w A n c b) :
    Calls Try.prog 42 #[.slice A n c] w fun e w' => ∃ A' m' c' r, e = .returned (.tuple #[.slice A' m' c', .int .i64 r]) ∧ OwnPs w' w.heap.size A' m' c' (splitF b).1 ∧ r = (splitF b).2 ∧ Below w.heap.size w w' := by
  obtain rfl := h.2
  have hnm : b.length ≤ 9223372036854775807 := by have := h.cap; unfold maxLen at this; omega
  by_cases h6 : 60000 < b.length
  · have ht := Lib.hid (show splitF b = ([], 4) by rw [splitF, if_pos h6])
    go_enter Try.func42, Try.ntmps42
    go_wp2
    go_ret2
    rw [ht.out]
    exact ⟨_, _, _, _, rfl, OwnPs.nil_ _ _, rfl, Below.refl _ _⟩
  · have ht := Lib.hid (show splitF b = splitT 101 [] b by rw [splitF, if_neg h6])
    go_enter Try.func42, Try.ntmps42
    go_wp2_with fail
    go_loopw [0, 4] (fun x l wr => ∃ (Ab : Option Addr) (nb cb : Nat) (bl : List UInt8) (Al : Option Addr) (k cl : Nat) (acc : List (Int × List UInt8)), x = .slice Ab nb cb ∧ l = .slice Al k cl ∧ k ≤ 100 ∧ nb ≤ 60000 ∧ Bs wr Ab nb cb bl ∧ OwnPs wr w.heap.size Al k cl acc ∧ Below w.heap.size w wr ∧ Hid (bl ≠ [] → ∀ ad, Ab = some ad → some ad.block ≠ Al.map (·.block)) ∧ Hid (splitT (101 - k) acc bl = splitT 101 [] b)) (fun _ l _ => match l with | .slice _ k _ => 101 - k | _ => 0)
    case atStart => exact ⟨A, _, c, b, none, 0, 0, [], rfl, rfl, Nat.zero_le _, by omega, h, OwnPs.nil_ _ _, Below.refl _ _, Lib.hid (fun _ ad _ e => by cases e), Lib.hid rfl⟩
    case round =>
      obtain ⟨Ab, nb, cb, bl, Al, k, cl, acc, rfl, rfl, hk, hnb, hbs, hown, hbr, hne, hfi⟩ := hrel
      obtain rfl := hbs.2
      obtain rfl := hown.len
      have hf := hfi.out
      rw [show 101 - acc.length = 100 - acc.length + 1 by omega, splitT] at hf
      by_cases hbl : bl = []
      · rw [if_pos hbl] at hf
        have HF := Lib.hid hf
        have hb0 : bl.length = 0 := by rw [hbl]; rfl
        clear hf
        go_wp2
        go_ret2
        rw [ht.out, ← HF.out]
        exact ⟨_, _, _, _, rfl, hown, rfl, hbr⟩
      · have hb0 : 0 < bl.length := List.length_pos_iff.2 hbl
        rw [if_neg hbl] at hf
        by_cases hk100 : acc.length = 100
        · rw [if_pos hk100] at hf
          have HF := Lib.hid hf
          clear hf
          go_wp2
          go_ret2
          rw [ht.out, ← HF.out]
          exact ⟨_, _, _, _, rfl, OwnPs.nil_ _ _, rfl, hbr⟩
        · rw [if_neg hk100] at hf
          have htk := Take_calls hbs (by omega)
          have hrl := takeF_rest bl
          generalize takeF bl = x at hf htk hrl
          have HF := Lib.hid hf
          clear hf
          go_wp2_with fail
          refine htk.mono ?_
          rintro e w1 ⟨A1, n1, c1, A2, n2, c2, tag, r, rfl, htag, hr, ho1, ho2, hb1⟩
          have hB1 := below_then hbr hbr.size hb1
          have hown1 := hown.below hb1
          have hn2 := ho2.2
          by_cases hr0 : r = 0
          · have hf := HF.out
            rw [if_pos (hr.symm.trans hr0), ← htag] at hf
            have HF2 := Lib.hid hf
            subst hr0
            have HO := Lib.hid ho2
            have hrow : ∀ a0, Al.map (·.block) = some a0 → a0 < wr.heap.size := fun a0 e => by
              cases Al with
              | none => cases e
              | some ad => have e' : ad.block = a0 := by injection e
                           have := (hown.blk ad rfl).2; omega
            have hne1 : x.2.1 ≠ [] → ∀ ad, A1 = some ad → some ad.block ≠ Al.map (·.block) := fun _ ad e e2 => by
              have := (ho1.blk ad e).1
              have := hrow _ e2.symm
              omega
            clear hf hr htag htk
            go_wp2_with (at_builtin; go_must (refine appPk (.tmp 28) (.tmp 32) rfl rfl rfl hown1 rfl ho1.bs hne1 (by omega) hB1.size ?_); intro A3 c3 w3 hown3 hg3 hat3)
            have hb3 : Below w.heap.size w w3 := hB1.grown hg3 hB1.size (fun i e => by
              cases Al with
              | none => cases e
              | some ad => cases e; exact (hown.blk _ rfl).1)
            have hb2 := HO.out.bs.grown hg3 (fun ad e e2 => by
              have := (HO.out.blk ad e).1
              have := hrow _ e2.symm
              omega)
            have hne2 : x.2.2.1 ≠ [] → ∀ ad, A2 = some ad → some ad.block ≠ A3.map (·.block) := fun _ ad e e2 => by
              have h1 := HO.out.blk ad e
              cases A3 with
              | none => cases e2
              | some a3 =>
                have e' : ad.block = a3.block := by injection e2
                rcases hat3 a3 rfl with h3 | h3
                · have := hrow _ h3
                  omega
                · omega
            have hf3 : splitT (101 - (acc.length + 1)) (acc ++ [(tag, x.2.1)]) x.2.2.1 = splitT 101 [] b := by rw [show 101 - (acc.length + 1) = 100 - acc.length by omega]; exact HF2.out
            go_roundw
            case rel => exact ⟨A2, n2, c2, x.2.2.1, A3, _, c3, _, rfl, rfl, by omega, by omega, hb2, hown3, hb3, Lib.hid hne2, Lib.hid hf3⟩
            case measure => simp; omega
          · have hf := HF.out
            rw [if_neg (fun e => hr0 (hr.trans e)), ← hr] at hf
            have hne : (r != 0) = true := by rw [bne_iff_ne]; exact hr0
            have HF2 := Lib.hid hf
            clear hf hr htag htk
            go_wp2
            go_ret2
            rw [ht.out, ← HF2.out]
            exact ⟨_, _, _, _, rfl, OwnPs.nil_ _ _, rfl, hB1⟩
end Go.Proofs.Ytcakdlfhmdkocaa
