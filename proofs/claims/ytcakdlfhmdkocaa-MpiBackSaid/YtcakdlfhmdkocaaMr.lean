/- mpi: the document's taking. -/
import Derived.Test.YtcakdlfhmdkocaaMq
import Derived.Deep.QuietTactic
import Derived.BigQuiet
namespace Go.Proofs.Ytcakdlfhmdkocaa
open Go.RowKit

def rTakeF (l : List UInt8) : Nat × List UInt8 × Int :=
  if l.length < 2 then (0, [], 2) else if 16384 < nb (l.take 2) then (0, [], 4) else if l.length - 2 < (nb (l.take 2) + 7) / 8 then (0, [], 2) else
  if nbits (nb ((l.drop 2).take ((nb (l.take 2) + 7) / 8))) ≠ nb (l.take 2) then (0, [], 3) else (nb ((l.drop 2).take ((nb (l.take 2) + 7) / 8)), l.drop (2 + (nb (l.take 2) + 7) / 8), 0)
theorem numS_two (l : List UInt8) (h : 2 ≤ l.length) : numS l 0 2 = ((nb (l.take 2) : Int), 0, 2) := by
  unfold numS takeS
  rw [if_neg (by omega), if_neg (by omega), if_neg (by omega)]
  simp only [List.drop_zero]
  have e : (2 : Int).toNat = 2 := rfl
  rw [e, val_nb (by rw [List.length_take]; omega)]
theorem numS_none (l : List UInt8) (h : l.length < 2) : numS l 0 2 = (0, 2, 0) := by
  unfold numS takeS
  rw [if_neg (by omega), if_neg (by omega), if_pos (by omega)]
  rfl
theorem nb_two (l : List UInt8) : nb (l.take 2) < 65536 := by
  have h1 := nb_lt (l.take 2)
  have h2 : 256 ^ (l.take 2).length ≤ 256 ^ 2 := Nat.pow_le_pow_right (by decide) (by rw [List.length_take]; omega)
  omega
theorem mTakeF_eq (l : List UInt8) : mTakeF l = rTakeF l := by
  unfold mTakeF rTakeF mtakeS
  by_cases h2 : l.length < 2
  · rw [numS_none l h2, if_pos h2]
    simp [mfin]
  · rw [numS_two l (by omega), if_neg h2]
    simp only
    have hn := nb_two l
    generalize nb (l.take 2) = n at hn
    by_cases hb : 16384 < n
    · rw [if_pos hb]
      have : mfin (n : Int) 0 2 (takeS l 2 (((n : Int) + 7) / 8)) = (0, 4, 2) := by rw [mfin, if_neg (by decide), if_pos (by omega)]
      rw [this]
      rfl
    · rw [if_neg hb]
      obtain ⟨k, hk⟩ : ∃ k, k = (n + 7) / 8 := ⟨_, rfl⟩
      have hki : ((n : Int) + 7) / 8 = (k : Int) := by omega
      rw [hki, ← hk]
      by_cases hs : l.length - 2 < k
      · rw [if_pos hs]
        have ht : takeS l 2 (k : Int) = ([], 2, 2) := by rw [takeS, if_neg (by omega), if_pos (by omega)]
        rw [ht]
        have : mfin (n : Int) 0 2 ([], 2, 2) = (0, 2, 2) := by rw [mfin, if_neg (by decide), if_neg (by omega), if_pos (by decide)]
        rw [this]
        rfl
      · rw [if_neg hs]
        have ht : takeS l 2 (k : Int) = ((l.drop 2).take k, 0, 2 + k) := by rw [takeS, if_neg (by omega), if_neg (by omega)]; simp
        rw [ht]
        generalize (l.drop 2).take k = b
        by_cases hq : nbits (nb b) = n
        · have : mfin (n : Int) 0 2 (b, 0, 2 + k) = (nb b, 0, 2 + k) := by rw [mfin, if_neg (by decide), if_neg (by omega), if_neg (by simp), if_neg (by simp only; omega)]
          rw [this, if_neg (show ¬ nbits (nb b) ≠ n from fun e => e hq)]
          simp
        · have : mfin (n : Int) 0 2 (b, 0, 2 + k) = (0, 3, 2 + k) := by rw [mfin, if_neg (by decide), if_neg (by omega), if_neg (by simp), if_pos (by simp only; omega)]
          rw [this, if_pos hq]
          simp

/-- A slice of a slice, its address under one name. -/
theorem slice_mid (A : Option Addr) (n c i j : Nat) (hij : i ≤ j) (hj : j ≤ c) (x y : Int) (hx : x = i) (hy : y = j) (W : World) :
    (Instr.sliceAt 22 (.slice A n c) (some (.int .i64 x)) (some (.int .i64 y)) none).run Try.prog W = .ok (.slice (if c = i then A else A.map (·.add i)) (j - i) (c - i)) W := by
  subst hx; subst hy
  rw [run_sliceAt_slice W 22 _ _ _ _ (by kernel_rfl), run_slice_lh W 22 A n c (by kernel_rfl) .i64 .i64 i j (by omega) (by omega) (by omega)]
  have hz : ∀ w, (sizeOf (Try.prog.elem 22)).run Try.prog w = .ok 1 w := fun w => by kernel_rfl
  rw [hz]
  simp [Result.andThen, sliced]
theorem slice_from (A : Option Addr) (n c i : Nat) (hi : i ≤ n) (x : Int) (hx : x = i) (W : World) :
    (Instr.sliceAt 22 (.slice A n c) (some (.int .i64 x)) none none).run Try.prog W = .ok (.slice (if c = i then A else A.map (·.add i)) (n - i) (c - i)) W := by
  subst hx
  rw [run_sliceAt_slice W 22 _ _ _ _ (by kernel_rfl), run_slice_l W 22 A n c (by kernel_rfl) .i64 i (by omega) (by omega)]
  have hz : ∀ w, (sizeOf (Try.prog.elem 22)).run Try.prog w = .ok 1 w := fun w => by kernel_rfl
  rw [hz]
  simp [Result.andThen, sliced]

set_option maxRecDepth 100000 in
set_option maxHeartbeats 3200000 in
theorem rmTake_calls {A : Option Addr} {n c : Nat} {l : List UInt8} {w : World} (h : Bs w A n c l) (hn : n ≤ 1000000) :
    Calls Try.prog 26 #[.slice A n c] w fun e w' => ∃ A1 m1 c1 A2 m2 c2 r, e = .returned (.tuple #[.slice A1 m1 c1, .slice A2 m2 c2, .int .i64 r]) ∧ NatR w' A1 m1 c1 (rTakeF l).1 ∧ (∀ ad, A1 = some ad → w.heap.size ≤ ad.block) ∧ Bs w' A2 m2 c2 (rTakeF l).2.1 ∧ (∀ a2, A2 = some a2 → ∃ a1, A = some a1 ∧ a2.block = a1.block) ∧ r = (rTakeF l).2.2 ∧ Below w.heap.size w w' := by
  obtain ⟨hc1, hc2⟩ := h.cap
  unfold maxLen at hc2
  have hbn := nb_two l
  obtain rfl := h.2
  by_cases h2 : l.length < 2
  · have HT := Lib.hid (show rTakeF l = (0, [], 2) by rw [rTakeF, if_pos h2])
    go_enter Try.func26, Try.ntmps26
    go_wp2
    go_ret3
    rw [HT.out]
    exact ⟨_, _, _, _, _, _, _, rfl, NatR.zero _, (fun ad e => by cases e), Bs.nil_ _, (fun a e => by cases e), rfl, Below.refl _ _⟩
  · obtain ⟨R, hT⟩ : ∃ R, R = rTakeF l := ⟨_, rfl⟩
    rw [← hT]
    unfold rTakeF at hT
    rw [if_neg h2] at hT
    have hv := Value_calls (h.upto (k := 2) (by omega))
    rw [val_nb (by rw [List.length_take]; omega)] at hv
    have h22 : 2 ≤ l.length := by omega
    generalize nb (l.take 2) = q at hT hv hbn
    obtain ⟨k, hk⟩ : ∃ k, k = (q + 7) / 8 := ⟨_, rfl⟩
    rw [← hk] at hT
    have hki : ((q : Int) + 7) / 8 = (k : Int) := by omega
    have HV := Lib.hid hv
    clear hv h2
    by_cases hb : 16384 < q
    · rw [if_pos hb] at hT
      have HT := Lib.hid hT
      have hd : decide ((16384 : Int) < (q : Int)) = true := decide_eq_true (by omega)
      clear hT hb hk hki
      go_enter Try.func26, Try.ntmps26
      go_wp2_with (go_at_call 55; refine HV.out.mono ?_; rintro e w1 ⟨rfl, rfl⟩)
      go_ret3
      rw [HT.out]
      exact ⟨_, _, _, _, _, _, _, rfl, NatR.zero _, (fun ad e => by cases e), Bs.nil_ _, (fun a e => by cases e), rfl, Below.refl _ _⟩
    · rw [if_neg hb] at hT
      have hd : decide ((16384 : Int) < (q : Int)) = false := decide_eq_false (by omega)
      have hk2 : k ≤ 2048 := by omega
      have HK := Lib.hid hk
      clear hb hk
      by_cases hs : l.length - 2 < k
      · rw [if_pos hs] at hT
        have HT := Lib.hid hT
        have hs' : (l.length : Int) - 2 < (k : Int) := by omega
        clear hT hs hk2
        go_enter Try.func26, Try.ntmps26
        go_wp2_with (go_at_call 55; refine HV.out.mono ?_; rintro e w1 ⟨rfl, rfl⟩)
        go_ret3
        rw [HT.out]
        exact ⟨_, _, _, _, _, _, _, rfl, NatR.zero _, (fun ad e => by cases e), Bs.nil_ _, (fun a e => by cases e), rfl, Below.refl _ _⟩
      · rw [if_neg hs] at hT
        have hs' : ¬ (l.length : Int) - 2 < (k : Int) := by omega
        obtain ⟨k2, hk2e⟩ : ∃ k2, k2 = 2 + k := ⟨_, rfl⟩
        rw [← hk2e] at hT
        have hb2 := (h.from_ (k := 2) (by omega)).upto (k := k) (by omega)
        have hb3 := h.from_ (k := k2) (by omega)
        have hs1 := slice_mid A l.length c 2 k2 (by omega) (by omega) 2 k2 rfl rfl
        have hs2 := slice_from A l.length c k2 (by omega) k2 rfl
        rw [show k2 - 2 = k by omega] at hs1
        generalize (if c = 2 then A else A.map (·.add 2)) = A2 at hb2 hs1
        have hA3 : ∀ a2, (if c = k2 then A else A.map (·.add k2)) = some a2 → ∃ a1, A = some a1 ∧ a2.block = a1.block := fun a2 e => by
          split at e
          · exact ⟨a2, e, rfl⟩
          · cases A with
            | none => cases e
            | some a1 =>
              injection e with e
              exact ⟨a1, rfl, by rw [← e, block_of_add]⟩
        generalize (if c = k2 then A else A.map (·.add k2)) = A3 at hb3 hs2 hA3
        have hread := rRead_calls hb2 (by omega)
        generalize nb ((l.drop 2).take k) = N at hT hread
        have HT := Lib.hid hT
        have hl2 : k2 ≤ l.length := by omega
        have hz2 : (2 : Int) + (k : Int) = (k2 : Int) := by omega
        have hz4 : IntKind.i64.wrap (k2 : Int) = (k2 : Int) := IntWalk.i64_in _ (by omega)
        have HE := Lib.hid hk2e
        have HR := Lib.hid hread
        have HQ := Lib.hid (show k ≤ 2048 by omega)
        clear hT hs hk2 hk2e hread hc2 hl2
        by_cases hq : nbits N = q
        · have HT2 := Lib.hid (show R = (N, l.drop k2, 0) by rw [HT.out, if_neg (fun e => e hq)])
          have hne : ((nbits N : Int) != (q : Int)) = false := by rw [bne_eq_false_iff_eq]; omega
          clear hq
          go_enter Try.func26, Try.ntmps26
          go_wp2_with (first
            | (go_at_call 55; refine HV.out.mono ?_; rintro e w1 ⟨rfl, rfl⟩)
            | (go_at_call 56; refine HR.out.mono ?_; rintro e w3 ⟨A4, m4, c4, xs, rfl, hr3, hlo3, ht3, hn3, hbk3, hml3, hb3'⟩; have HN3 := Lib.hid hn3; clear hn3)
            | (go_at_call 46; refine (rBits_calls hr3 hlo3 (by have := HQ.out; omega)).mono ?_; rw [HN3.out]; rintro e w4 ⟨rfl, hb4⟩))
          go_quiet (fail)
          go_wp2
          go_ret3
          rw [HT2.out]
          have hB4 := below_then hb3' hb3'.size hb4
          exact ⟨_, _, _, _, _, _, _, rfl, ⟨xs, (hr3.below hb4).drewN _, hlo3, ht3, HN3.out⟩, hbk3, (hb3.below hB4).drewN _, hA3, rfl, below_drewN hB4 _⟩
        · have HT2 := Lib.hid (show R = (0, [], 3) by rw [HT.out, if_pos hq])
          have hne : ((nbits N : Int) != (q : Int)) = true := by rw [bne_iff_ne]; omega
          clear hq
          go_enter Try.func26, Try.ntmps26
          go_wp2_with (first
            | (go_at_call 55; refine HV.out.mono ?_; rintro e w1 ⟨rfl, rfl⟩)
            | (go_at_call 56; refine HR.out.mono ?_; rintro e w3 ⟨A4, m4, c4, xs, rfl, hr3, hlo3, ht3, hn3, hbk3, hml3, hb3'⟩; have HN3 := Lib.hid hn3; clear hn3)
            | (go_at_call 46; refine (rBits_calls hr3 hlo3 (by have := HQ.out; omega)).mono ?_; rw [HN3.out]; rintro e w4 ⟨rfl, hb4⟩))
          go_ret3
          rw [HT2.out]
          have hB4 := below_then hb3' hb3'.size hb4
          exact ⟨_, _, _, _, _, _, _, rfl, NatR.zero _, (fun ad e => by cases e), Bs.nil_ _, (fun a e => by cases e), rfl, hB4⟩
end Go.Proofs.Ytcakdlfhmdkocaa
