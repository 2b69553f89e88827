/- mpi: so many numbers, the document's answer. -/
import Derived.Test.YtcakdlfhmdkocaaMt
namespace Go.Proofs.Ytcakdlfhmdkocaa
open Go.RowKit

theorem takeS_shift (l : List UInt8) (a b : Nat) (ha : a ≤ l.length) (n : Int) : takeS l (a + b) n = ((takeS (l.drop a) b n).1, (takeS (l.drop a) b n).2.1, a + (takeS (l.drop a) b n).2.2) := by
  unfold takeS
  rw [List.length_drop, List.drop_drop]
  by_cases h0 : n < 0
  · rw [if_pos h0, if_pos h0]
  · rw [if_neg h0, if_neg h0]
    by_cases h1 : (l.length : Int) - ((a + b : Nat) : Int) < n
    · rw [if_pos h1, if_pos (by omega)]
    · rw [if_neg h1, if_neg (by omega)]
      simp [Nat.add_assoc]
theorem takeS_in (l : List UInt8) (a : Nat) (ha : a ≤ l.length) (n : Int) : (takeS l a n).2.2 ≤ l.length := by
  unfold takeS
  split
  · exact ha
  · split
    · exact ha
    · simp only; omega
theorem numS_shift (l : List UInt8) (a b : Nat) (ha : a ≤ l.length) (n : Int) : numS l (a + b) n = ((numS (l.drop a) b n).1, (numS (l.drop a) b n).2.1, a + (numS (l.drop a) b n).2.2) := by
  unfold numS
  rw [takeS_shift l a b ha]
  split <;> rfl
theorem mtakeS_shift (l : List UInt8) (a : Nat) (ha : a ≤ l.length) : mtakeS l a = ((mtakeS (l.drop a) 0).1, (mtakeS (l.drop a) 0).2.1, a + (mtakeS (l.drop a) 0).2.2) := by
  unfold mtakeS
  have h1 := numS_shift l a 0 ha 2
  rw [Nat.add_zero] at h1
  rw [h1]
  simp only
  rw [takeS_shift l a _ ha]
  generalize numS (l.drop a) 0 2 = x
  generalize takeS (l.drop a) x.2.2 ((x.1 + 7) / 8) = t
  unfold mfin
  simp only
  split
  · rfl
  · split
    · rfl
    · split
      · rfl
      · split <;> rfl
theorem mtakeS_in (l : List UInt8) (a : Nat) (ha : a ≤ l.length) : (mtakeS l a).2.2 ≤ l.length := by
  unfold mtakeS
  have h1 : (numS l a 2).2.2 ≤ l.length := by
    unfold numS
    split
    · exact ha
    · exact takeS_in l a ha 2
  have h2 := takeS_in l (numS l a 2).2.2 h1 (((numS l a 2).1 + 7) / 8)
  unfold mfin
  split
  · exact h1
  · split
    · exact h1
    · split
      · exact h2
      · split <;> exact h2

theorem Bs.lt8 {w : World} {A : Option Addr} {n c : Nat} {l : List UInt8} (h : Bs w A n c l) (hl : l ≠ []) : ∀ ad, A = some ad → ad.block < w.heap.size := fun ad e => by
  have hp : 0 < l.length := List.length_pos_iff.2 hl
  obtain ⟨b, off, e2, hb, _⟩ := h.byte hp
  rw [e] at e2
  injection e2 with e2
  rw [e2]
  exact hb
theorem Bs.grown8 {w w' : World} {A : Option Addr} {n c : Nat} {l : List UInt8} (h : Bs w A n c l) {row : Option Nat} (hg : w.grownBy w' row) (hne : l ≠ [] → ∀ ad, A = some ad → some ad.block ≠ row) : Bs w' A n c l := by
  by_cases hl : l = []
  · subst hl
    exact ⟨Rd.nil_ w' A c h.1.2.1, h.2⟩
  · exact h.grown hg (hne hl)

def rallT : Nat → List UInt8 → List Nat → List Nat × Int
  | 0, b, acc => if 0 < b.length then ([], 3) else (acc, 0)
  | k + 1, b, acc => if (rTakeF b).2.2 ≠ 0 then ([], (rTakeF b).2.2) else rallT k (rTakeF b).2.1 (acc ++ [(rTakeF b).1])
theorem rallT_eq (l : List UInt8) : ∀ (k a : Nat) (acc : List Nat), a ≤ l.length → rallT k (l.drop a) acc = mallT l k a acc
  | 0, a, acc, ha => by
    rw [rallT, mallT, List.length_drop]
    by_cases h : a < l.length
    · rw [if_pos h, if_pos (by omega)]
    · rw [if_neg h, if_neg (by omega)]
  | k + 1, a, acc, ha => by
    rw [rallT, mallT, ← mTakeF_eq, mTakeF, mtakeS_shift l a ha]
    simp only
    have hin := mtakeS_in (l.drop a) 0 (Nat.zero_le _)
    rw [List.length_drop] at hin
    generalize mtakeS (l.drop a) 0 = M at hin
    obtain ⟨N, r, a2⟩ := M
    simp only at hin ⊢
    by_cases h : r = 0
    · subst h
      simp only [ne_eq, not_true, if_false]
      rw [List.drop_drop]
      exact rallT_eq l k (a + a2) _ (by omega)
    · simp only [ne_eq, h, not_false_eq_true, if_true]

theorem rTakeF_len (l : List UInt8) : (rTakeF l).2.1.length ≤ l.length := by
  unfold rTakeF
  split
  · simp
  · split
    · simp
    · split
      · simp
      · split <;> simp

set_option maxRecDepth 100000 in
set_option maxHeartbeats 3200000 in
theorem rmAll_calls {A : Option Addr} {n c : Nat} {l : List UInt8} (k : Int) {w : World} (h : Bs w A n c l) (hn : n ≤ 1000000) :
    Calls Try.prog 28 #[.slice A n c, .int .i64 k] w fun e w' => ∃ A' m' c' r, e = .returned (.tuple #[.slice A' m' c', .int .i64 r]) ∧ OwnNs w' w.heap.size none A' m' c' (mallF l k).1 ∧ r = (mallF l k).2 ∧ Below w.heap.size w w' := by
  by_cases h0 : k < 0
  · have ht := Lib.hid (show mallF l k = ([], 1) by rw [mallF, if_pos (.inl h0)])
    go_enter Try.func28, Try.ntmps28
    go_wp2
    go_ret2
    rw [ht.out]
    exact ⟨_, _, _, _, rfl, OwnNs.nil_ _ _ _, rfl, Below.refl _ _⟩
  · by_cases h10 : 10 < k
    · have ht := Lib.hid (show mallF l k = ([], 1) by rw [mallF, if_pos (.inr h10)])
      go_enter Try.func28, Try.ntmps28
      go_wp2
      go_ret2
      rw [ht.out]
      exact ⟨_, _, _, _, rfl, OwnNs.nil_ _ _ _, rfl, Below.refl _ _⟩
    · have ht := show mallF l k = mallT l k.toNat 0 [] by rw [mallF, if_neg (by omega)]
      obtain ⟨q, rfl⟩ := Int.eq_ofNat_of_zero_le (by omega : 0 ≤ k)
      rw [Int.toNat_natCast, ← rallT_eq l q 0 [] (Nat.zero_le _), List.drop_zero] at ht
      have HT := Lib.hid ht
      have hq : q ≤ 10 := by omega
      clear ht
      have hbe := (Below.refl w.heap.size w).alloc (Nat.le_refl _) (.cells #[] 24)
      have hem : OwnNs (w.alloc (.cells #[] 24)) w.heap.size none (some ⟨w.heap.size, 0, none⟩) 0 0 [] := ⟨[], World.ownsRow_made w #[] 0 (Nat.le_refl _) (by simp [maxLen]) rfl, rfl, rfl, fun g e => by cases e⟩
      go_enter Try.func28, Try.ntmps28
      go_wp2_with fail
      generalize w.alloc (.cells #[] 24) = w0 at hem hbe ⊢
      generalize some { block := w.heap.size, off := 0 : Addr } = A00 at hem ⊢
      go_loopw [0, 6, 7] (fun x o v wr => ∃ (i : Nat) (Ab : Option Addr) (nb_ cb : Nat) (bl : List UInt8) (Ao : Option Addr) (mo co : Nat) (acc : List Nat), i ≤ q ∧ v = .int .i64 i ∧ x = .slice Ab nb_ cb ∧ o = .slice Ao mo co ∧ mo ≤ i ∧ nb_ ≤ 1000000 ∧ Bs wr Ab nb_ cb bl ∧ Hid (bl ≠ [] → ∀ ad, Ab = some ad → ad.block < w.heap.size) ∧ OwnNs wr w.heap.size none Ao mo co acc ∧ Below w.heap.size w wr ∧ Hid (rallT (q - i) bl acc = rallT q l [])) (fun _ _ v _ => q - (intOf v).toNat)
      case atStart => exact ⟨0, A, n, c, l, _, 0, 0, [], Nat.zero_le _, rfl, rfl, rfl, Nat.le_refl _, hn, h.below hbe, Lib.hid (fun hl => h.lt8 hl), hem, hbe, Lib.hid rfl⟩
      case round =>
        obtain ⟨i, Ab, nb_, cb, bl, Ao, mo, co, acc, hi, rfl, rfl, rfl, hmo, hnb, hbs, hAb, hown, hbr, hfi⟩ := hrel
        clear hem hbe
        by_cases hlt : i < q
        · have hf := hfi.out
          rw [show q - i = (q - (i + 1)) + 1 by omega, rallT] at hf
          have htk := rmTake_calls hbs hnb
          have hrl := rTakeF_len bl
          generalize rTakeF bl = M at hf htk hrl
          obtain ⟨N, rst, r⟩ := M
          simp only at hf htk hrl
          have HK := Lib.hid htk
          clear htk
          by_cases hr0 : r = 0
          · rw [if_neg (by simp [hr0])] at hf
            have HF := Lib.hid hf
            subst hr0
            clear hf
            go_wp2_with (first
              | (go_at_call 26; refine HK.out.mono ?_; rintro e w2 ⟨A2, m2, c2, A4, m4, c4, r2, rfl, hN2, hbk2, hb4, hA4, hr2, hb2⟩; obtain rfl : r2 = 0 := hr2; go_must (have hown2 := hown.below hb2; have hB2 := below_then hbr hbr.size hb2))
              | (at_builtin; refine appNt (.tmp 32) (.tmp 34) rfl rfl rfl hown2 rfl hN2 (fun _ ad e e2 => ?_) (fun g2 e => by cases e) (by omega) hB2.size ?_))
            focus
              have h1 := hbk2 ad e
              cases Ao with
              | none => cases e2
              | some a0 =>
                have e' : ad.block = a0.block := by injection e2
                have := (hown.blk a0 rfl).2
                omega
            intro A3 c3 w3 hown3 hg3
            have hB3 : Below w.heap.size w w3 := hB2.grown hg3 hB2.size (fun k e => by
              cases Ao with
              | none => cases e
              | some a0 => cases e; exact (hown2.blk _ rfl).1)
            have hlt4 : rst ≠ [] → ∀ ad, A4 = some ad → ad.block < w.heap.size := fun hre ad e => by
              obtain ⟨a1, e1, e2⟩ := hA4 ad e
              have hbl : bl ≠ [] := fun e0 => by rw [e0] at hrl; exact hre (List.eq_nil_of_length_eq_zero (by simpa using hrl))
              rw [e2]
              exact hAb.out hbl a1 e1
            have hb43 : Bs w3 A4 m4 c4 rst := hb4.grown8 hg3 (fun hre ad e e2 => by
              have h1 := hlt4 hre ad e
              cases Ao with
              | none => cases e2
              | some a0 =>
                have e' : ad.block = a0.block := by injection e2
                have := (hown2.blk a0 rfl).1
                omega)
            have H4 := Lib.hid hlt4
            have hm4 := hb4.2
            have hnbl := hbs.2
            clear hlt4 hb4
            go_wp2
            go_roundw
            case rel => exact ⟨i + 1, A4, m4, c4, rst, A3, _, c3, _, by omega, by go_num, rfl, rfl, by omega, by omega, hb43, H4, hown3, hB3, HF⟩
            case measure => simp [intOf]; omega
          · rw [if_pos hr0] at hf
            have HF := Lib.hid hf
            have hne : (r != 0) = true := by rw [bne_iff_ne]; exact hr0
            clear hf
            go_wp2_with (go_at_call 26; refine HK.out.mono ?_; rintro e w2 ⟨A2, m2, c2, A4, m4, c4, r2, rfl, hN2, hbk2, hb4, hA4, hr2, hb2⟩; obtain rfl : r2 = r := hr2)
            go_ret2
            rw [HT.out, ← HF.out]
            exact ⟨_, _, _, _, rfl, OwnNs.nil_ _ _ _, rfl, below_then hbr hbr.size hb2⟩
        · have hie : i = q := by omega
          have hf := hfi.out
          rw [hie, Nat.sub_self, rallT] at hf
          have hbl2 := hbs.2
          by_cases ha : 0 < bl.length
          · rw [if_pos ha] at hf
            have HF := Lib.hid hf
            have hd : 0 < nb_ := by omega
            clear hf
            go_wp2
            go_ret2
            rw [HT.out, ← HF.out]
            exact ⟨_, _, _, _, rfl, OwnNs.nil_ _ _ _, rfl, hbr⟩
          · rw [if_neg ha] at hf
            have HF := Lib.hid hf
            obtain rfl : nb_ = 0 := by omega
            clear hf
            go_wp2
            go_ret2
            rw [HT.out, ← HF.out]
            exact ⟨_, _, _, _, rfl, hown, rfl, hbr⟩
end Go.Proofs.Ytcakdlfhmdkocaa
