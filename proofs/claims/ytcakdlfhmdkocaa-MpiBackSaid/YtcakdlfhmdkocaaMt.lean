/- mpi: so many numbers. -/
import Derived.Test.YtcakdlfhmdkocaaMs
namespace Go.Proofs.Ytcakdlfhmdkocaa
open Go.RowKit

def mallT (l : List UInt8) : Nat → Nat → List Nat → List Nat × Int
  | 0, a, acc => if a < l.length then ([], 3) else (acc, 0)
  | k + 1, a, acc => if (mtakeS l a).2.1 ≠ 0 then ([], (mtakeS l a).2.1) else mallT l k (mtakeS l a).2.2 (acc ++ [(mtakeS l a).1])
def mallF (l : List UInt8) (n : Int) : List Nat × Int := if n < 0 ∨ 10 < n then ([], 1) else mallT l n.toNat 0 []

set_option maxRecDepth 100000 in
set_option maxHeartbeats 3200000 in
theorem mAll_calls {A : Option Addr} {n c : Nat} {l : List UInt8} (k : Int) {w : World} (h : Bs w A n c l) (hn : n ≤ 1000000) :
    Calls Try.prog 27 #[.slice A n c, .int .i64 k] w fun e w' => ∃ A' m' c' r, e = .returned (.tuple #[.slice A' m' c', .int .i64 r]) ∧ OwnNs w' w.heap.size none A' m' c' (mallF l k).1 ∧ r = (mallF l k).2 ∧ Below w.heap.size w w' := by
  by_cases h0 : k < 0
  · have ht := Lib.hid (show mallF l k = ([], 1) by rw [mallF, if_pos (.inl h0)])
    go_enter Try.func27, Try.ntmps27
    go_wp2
    go_ret2
    rw [ht.out]
    exact ⟨_, _, _, _, rfl, OwnNs.nil_ _ _ _, rfl, Below.refl _ _⟩
  · by_cases h10 : 10 < k
    · have ht := Lib.hid (show mallF l k = ([], 1) by rw [mallF, if_pos (.inr h10)])
      go_enter Try.func27, Try.ntmps27
      go_wp2
      go_ret2
      rw [ht.out]
      exact ⟨_, _, _, _, rfl, OwnNs.nil_ _ _ _, rfl, Below.refl _ _⟩
    · have ht := show mallF l k = mallT l k.toNat 0 [] by rw [mallF, if_neg (by omega)]
      obtain ⟨q, rfl⟩ := Int.eq_ofNat_of_zero_le (by omega : 0 ≤ k)
      rw [Int.toNat_natCast] at ht
      have HT := Lib.hid ht
      have hq : q ≤ 10 := by omega
      clear ht
      go_enter Try.func27, Try.ntmps27
      go_wp2_with (go_at_call 49; refine (Over_calls h (by omega)).mono ?_; rintro e w1 ⟨g, rfl, hg, hc, hb1⟩)
      have hgl := hc.lt
      go_loopw [7, 19] (fun o v wr => ∃ (i : Nat) (Ao : Option Addr) (mo co : Nat) (acc : List Nat) (a : Nat), i ≤ q ∧ v = .int .i64 i ∧ o = .slice Ao mo co ∧ mo ≤ i ∧ OwnNs wr (g + 1) (some g) Ao mo co acc ∧ Cur wr g a l ∧ Below w.heap.size w wr ∧ g < wr.heap.size ∧ Hid (mallT l (q - i) a acc = mallT l q 0 [])) (fun _ v _ => q - (intOf v).toNat)
      case atStart => exact ⟨0, none, 0, 0, [], 0, Nat.zero_le _, rfl, rfl, Nat.le_refl _, OwnNs.nil_ _ _ _, hc, hb1, hgl, Lib.hid rfl⟩
      case round =>
        obtain ⟨i, Ao, mo, co, acc, a, hi, rfl, rfl, hmo, hown, hcur, hbr, hgr, hfi⟩ := hrel
        clear hc hb1 hgl
        by_cases hlt : i < q
        · have hf := hfi.out
          rw [show q - i = (q - (i + 1)) + 1 by omega, mallT] at hf
          have htk := mtake_calls hcur
          generalize mtakeS l a = M at hf htk
          obtain ⟨N, r, a2⟩ := M
          simp only at hf htk
          have HK := Lib.hid htk
          clear htk
          by_cases hr0 : r = 0
          · rw [if_neg (by simp [hr0])] at hf
            have HF := Lib.hid hf
            subst hr0
            clear hf
            go_wp2_with (first
              | (go_at_call 50; refine HK.out.mono ?_; rintro e w2 ⟨A2, m2, c2, r2, rfl, hN2, hbk2, hr2, hc2, hg2⟩; obtain rfl : r2 = 0 := hr2; go_must (have hown2 := hown.other hg2; have hsz2 := hg2.size; have hB2 : Below w.heap.size w w2 := hbr.grown hg2 hbr.size (fun k e => by cases e; exact hg)))
              | (at_builtin; refine appNt (.tmp 29) (.tmp 31) rfl rfl rfl hown2 rfl hN2 (fun _ ad e e2 => ?_) (fun g2 e => ?_) (by omega) (by omega) ?_))
            focus
              have h1 := hbk2 ad e
              cases Ao with
              | none => cases e2
              | some a0 =>
                have e' : ad.block = a0.block := by injection e2
                have := (hown.blk a0 rfl).2
                omega
            focus
              injection e with e
              subst e
              exact ⟨by omega, fun ad e => by have h1 := hbk2 ad e; omega⟩
            intro A3 c3 w3 hown3 hg3
            have hc3 := hc2.grown hg3 (fun k e => by
              cases Ao with
              | none => cases e
              | some a0 => cases e; exact (hown2.blk _ rfl).1)
            have hB3 : Below w.heap.size w w3 := hB2.grown hg3 hB2.size (fun k e => by
              cases Ao with
              | none => cases e
              | some a0 => cases e; exact Nat.le_trans (show w.heap.size ≤ g + 1 by omega) (hown2.blk _ rfl).1)
            have hsz3 := hg3.size
            go_wp2
            go_roundw
            case rel => exact ⟨i + 1, A3, _, c3, _, a2, by omega, by go_num, rfl, by omega, hown3, hc3, hB3, by omega, HF⟩
            case measure => simp [intOf]; omega
          · rw [if_pos hr0] at hf
            have HF := Lib.hid hf
            have hne : (r != 0) = true := by rw [bne_iff_ne]; exact hr0
            clear hf
            go_wp2_with (go_at_call 50; refine HK.out.mono ?_; rintro e w2 ⟨A2, m2, c2, r2, rfl, hN2, hbk2, hr2, hc2, hg2⟩; obtain rfl : r2 = r := hr2; go_must (have hB2 : Below w.heap.size w w2 := hbr.grown hg2 hbr.size (fun k e => by cases e; exact hg)))
            go_ret2
            rw [HT.out, ← HF.out]
            exact ⟨_, _, _, _, rfl, OwnNs.nil_ _ _ _, rfl, hB2⟩
        · have hie : i = q := by omega
          have hf := hfi.out
          rw [hie, Nat.sub_self, mallT] at hf
          have hcl := hcur.len
          by_cases ha : a < l.length
          · rw [if_pos ha] at hf
            have HF := Lib.hid hf
            have hd : (0 : Int) < (l.length : Int) - (a : Int) := by omega
            clear hf
            go_wp2_with (go_at_call 57; refine (Left_calls hcur).mono ?_; rintro e w2 ⟨rfl, nq, rfl⟩)
            go_ret2
            rw [HT.out, ← HF.out]
            exact ⟨_, _, _, _, rfl, OwnNs.nil_ _ _ _, rfl, below_drewN hbr _⟩
          · rw [if_neg ha] at hf
            have HF := Lib.hid hf
            have hd : ¬ (0 : Int) < (l.length : Int) - (a : Int) := by omega
            clear hf
            go_wp2_with (go_at_call 57; refine (Left_calls hcur).mono ?_; rintro e w2 ⟨rfl, nq, rfl⟩)
            go_ret2
            rw [HT.out, ← HF.out]
            exact ⟨_, _, _, _, rfl, (hown.below (below_drewN (Below.refl _ _) nq)).free.lower (by omega), rfl, below_drewN hbr _⟩
end Go.Proofs.Ytcakdlfhmdkocaa
