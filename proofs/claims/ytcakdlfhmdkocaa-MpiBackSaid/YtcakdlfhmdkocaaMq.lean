/- mpi: taking a number. -/
import Derived.Test.YtcakdlfhmdkocaaMp
import Derived.Test.YtcakdlfhmdkocaaCuq
namespace Go.Proofs.Ytcakdlfhmdkocaa
open Go.RowKit

/-- A slice that reads as the number N, without noughts at the end. -/
def NatR (w : World) (A : Option Addr) (m c N : Nat) : Prop := ∃ xs, Nr w .u32 A m c xs ∧ Lo 4294967296 xs ∧ Trim xs ∧ num 4294967296 xs = N
theorem NatR.below {w w' : World} {A : Option Addr} {m c N : Nat} (h : NatR w A m c N) (hb : Below w.heap.size w w') : NatR w' A m c N := by
  obtain ⟨xs, h1, h2⟩ := h
  exact ⟨xs, h1.below hb, h2⟩
theorem NatR.zero (w : World) : NatR w none 0 0 0 := ⟨[], Nr.nil_ _ _, Lo.nil _, (fun y h => by cases h), rfl⟩
theorem NatR.grown {w w' : World} {A : Option Addr} {m c N : Nat} (h : NatR w A m c N) {row : Option Nat} (hg : w.grownBy w' row) (hne : ∀ ad, A = some ad → some ad.block ≠ row) : NatR w' A m c N := by
  obtain ⟨xs, h1, h2⟩ := h
  exact ⟨xs, h1.grown hg hne, h2⟩

/-- What taking a number comes to, by what its bits' number and its bytes are taken as: the number, the error, the place. -/
def mfin (n e : Int) (a1 : Nat) (t : List UInt8 × Int × Nat) : Nat × Int × Nat :=
  if e ≠ 0 then (0, e, a1) else if 16384 < n then (0, 4, a1) else if t.2.1 ≠ 0 then (0, t.2.1, t.2.2) else
  if (nbits (nb t.1) : Int) ≠ n then (0, 3, t.2.2) else (nb t.1, 0, t.2.2)
def mtakeS (l : List UInt8) (a : Nat) : Nat × Int × Nat :=
  mfin (numS l a 2).1 (numS l a 2).2.1 (numS l a 2).2.2 (takeS l (numS l a 2).2.2 (((numS l a 2).1 + 7) / 8))

theorem numS2_lt (l : List UInt8) (a : Nat) : 0 ≤ (numS l a 2).1 ∧ (numS l a 2).1 < 65536 := by
  unfold numS
  rw [if_neg (by omega)]
  have hl : (takeS l a 2).1.length ≤ 2 := by
    unfold takeS
    split
    · simp
    · split
      · simp
      · simp; omega
  rw [val_nb (by omega)]
  have h1 := nb_lt (takeS l a 2).1
  have h2 : 256 ^ (takeS l a 2).1.length ≤ 256 ^ 2 := Nat.pow_le_pow_right (by decide) hl
  simp only
  omega
theorem takeS_len (l : List UInt8) (a : Nat) (n : Int) (hn : 0 ≤ n) : ((takeS l a n).1.length : Int) ≤ n := by
  unfold takeS
  split
  · simp; omega
  · split
    · simp; omega
    · simp; omega

set_option maxRecDepth 100000 in
set_option maxHeartbeats 3200000 in
theorem mtake_calls {w : World} {g a : Nat} {l : List UInt8} (h : Cur w g a l) :
    Calls Try.prog 50 #[.pointer (some ⟨g, 0, none⟩)] w fun e w' => ∃ A' m c' r, e = .returned (.tuple #[.slice A' m c', .int .i64 r]) ∧ NatR w' A' m c' (mtakeS l a).1 ∧ (∀ ad, A' = some ad → w.heap.size ≤ ad.block) ∧ r = (mtakeS l a).2.1 ∧ Cur w' g (mtakeS l a).2.2 l ∧ w.grownBy w' (some g) := by
  obtain ⟨hx0, hx1⟩ := numS2_lt l a
  have hnum := Number_any h 2
  have htl := takeS_len l (numS l a 2).2.2 (((numS l a 2).1 + 7) / 8) (by omega)
  have htk := fun (w1 : World) (h1 : Cur w1 g (numS l a 2).2.2 l) => Take_any h1 (((numS l a 2).1 + 7) / 8)
  have hM : mtakeS l a = mfin (numS l a 2).1 (numS l a 2).2.1 (numS l a 2).2.2 (takeS l (numS l a 2).2.2 (((numS l a 2).1 + 7) / 8)) := rfl
  generalize mtakeS l a = M at hM ⊢
  generalize takeS l (numS l a 2).2.2 (((numS l a 2).1 + 7) / 8) = t at htl htk hM
  generalize numS l a 2 = x at hx0 hx1 hnum htl htk hM
  obtain ⟨n, e0, a1⟩ := x
  obtain ⟨b, e2, a2⟩ := t
  simp only at hx0 hx1 hnum htl htk hM
  obtain ⟨n, rfl⟩ := Int.eq_ofNat_of_zero_le hx0
  have hbl : (b.length : Int) ≤ ((n : Int) + 7) / 8 := htl
  have HN := Lib.hid hnum
  have HK := Lib.hid htk
  clear hnum htk htl
  by_cases h1 : e0 = 0
  · subst h1
    by_cases h2 : 16384 < n
    · have HM := Lib.hid (show M = (0, 4, a1) by rw [hM, mfin, if_neg (by decide), if_pos (by omega)])
      have h2' : (16384 : Int) < (n : Int) := by omega
      clear hM h2 hbl
      go_enter Try.func50, Try.ntmps50
      go_wp2_with (go_at_call 72; refine HN.out.mono ?_; rintro e w1 ⟨rfl, hc1, hg1⟩)
      go_ret2
      rw [HM.out]
      exact ⟨_, _, _, _, rfl, NatR.zero _, (fun ad e => by cases e), rfl, hc1, hg1⟩
    · have hbl2 : b.length ≤ 2048 := by
        omega
      have h2' : (n : Int) ≤ 16384 := by omega
      have h2n : ¬ (16384 : Int) < (n : Int) := by omega
      have hd2 : decide ((16384 : Int) < (n : Int)) = false := decide_eq_false h2n
      have H2 := Lib.hid h2
      have HB2 := Lib.hid hbl2
      have H3 := Lib.hid h2'
      clear h2 hbl2 hbl h2'
      by_cases h3 : e2 = 0
      · subst h3
        by_cases h4 : nbits (nb b) = n
        · have HM := Lib.hid (show M = (nb b, 0, a2) by rw [hM, mfin, if_neg (by decide), if_neg h2n, if_neg (by simp), if_neg (by simp only; omega)])
          clear hM h2n
          have hne : ((nbits (nb b) : Int) != (n : Int)) = false := by rw [bne_eq_false_iff_eq]; omega
          go_enter Try.func50, Try.ntmps50
          go_wp2_with (first
            | (go_at_call 72; refine HN.out.mono ?_; rintro e w1 ⟨rfl, hc1, hg1⟩)
            | (go_at_call 73; refine (HK.out _ hc1).mono ?_; rintro e w2 ⟨A2, m2, c2, r2, rfl, ho2, hr2, hc2, hg2⟩; obtain rfl : r2 = 0 := hr2; go_must (have hm2 := ho2.2; have G2 := grown_trans hg1 hg2))
            | (go_at_call 74; refine (Read_calls ho2.bs (by have := HB2.out; omega)).mono ?_; rintro e w3 ⟨A3, m3, xs, rfl, hr3, hlo3, ht3, hn3, hbk3, hml3, hb3⟩; have HN3 := Lib.hid hn3; clear hn3; go_must (have hc3 := hc2.below hb3; have G3 := grown_trans G2 (grown_of_below hb3 _)))
            | (go_at_call 30; refine (Bits_calls hr3 hlo3 (by have := HB2.out; omega)).mono ?_; rw [HN3.out]; rintro e w4 ⟨rfl, hb4⟩))
          go_ret2
          rw [HM.out]
          have hsz : w.heap.size ≤ w2.heap.size := G2.size
          exact ⟨_, _, _, _, rfl, ⟨xs, hr3.below hb4, hlo3, ht3, HN3.out⟩, fun ad e => Nat.le_trans hsz (hbk3 ad e), rfl, hc3.below hb4, grown_trans G3 (grown_of_below hb4 _)⟩
        · have HM := Lib.hid (show M = (0, 3, a2) by rw [hM, mfin, if_neg (by decide), if_neg h2n, if_neg (by simp), if_pos (by simp only; omega)])
          clear hM h2n
          have hne : ((nbits (nb b) : Int) != (n : Int)) = true := by rw [bne_iff_ne]; omega
          clear h4
          go_enter Try.func50, Try.ntmps50
          go_wp2_with (first
            | (go_at_call 72; refine HN.out.mono ?_; rintro e w1 ⟨rfl, hc1, hg1⟩)
            | (go_at_call 73; refine (HK.out _ hc1).mono ?_; rintro e w2 ⟨A2, m2, c2, r2, rfl, ho2, hr2, hc2, hg2⟩; obtain rfl : r2 = 0 := hr2; go_must (have hm2 := ho2.2; have G2 := grown_trans hg1 hg2))
            | (go_at_call 74; refine (Read_calls ho2.bs (by have := HB2.out; omega)).mono ?_; rintro e w3 ⟨A3, m3, xs, rfl, hr3, hlo3, ht3, hn3, hbk3, hml3, hb3⟩; have HN3 := Lib.hid hn3; clear hn3; go_must (have hc3 := hc2.below hb3; have G3 := grown_trans G2 (grown_of_below hb3 _)))
            | (go_at_call 30; refine (Bits_calls hr3 hlo3 (by have := HB2.out; omega)).mono ?_; rw [HN3.out]; rintro e w4 ⟨rfl, hb4⟩))
          go_ret2
          rw [HM.out]
          exact ⟨_, _, _, _, rfl, NatR.zero _, (fun ad e => by cases e), rfl, hc3.below hb4, grown_trans G3 (grown_of_below hb4 _)⟩
      · have hne : (e2 != 0) = true := by rw [bne_iff_ne]; exact h3
        have HM := Lib.hid (show M = (0, e2, a2) by rw [hM, mfin, if_neg (by decide), if_neg h2n, if_pos (by exact h3)])
        clear hM h2n
        go_enter Try.func50, Try.ntmps50
        go_wp2_with (first
          | (go_at_call 72; refine HN.out.mono ?_; rintro e w1 ⟨rfl, hc1, hg1⟩)
          | (go_at_call 73; refine (HK.out _ hc1).mono ?_; rintro e w2 ⟨A2, m2, c2, r2, rfl, ho2, hr2, hc2, hg2⟩; obtain rfl : r2 = e2 := hr2))
        go_ret2
        rw [HM.out]
        exact ⟨_, _, _, _, rfl, NatR.zero _, (fun ad e => by cases e), rfl, hc2, grown_trans hg1 hg2⟩
  · have hne : (e0 != 0) = true := by rw [bne_iff_ne]; exact h1
    have HM := Lib.hid (show M = (0, e0, a1) by rw [hM, mfin, if_pos h1])
    clear hM
    go_enter Try.func50, Try.ntmps50
    go_wp2_with (go_at_call 72; refine HN.out.mono ?_; rintro e w1 ⟨rfl, hc1, hg1⟩)
    go_ret2
    rw [HM.out]
    exact ⟨_, _, _, _, rfl, NatR.zero _, (fun ad e => by cases e), rfl, hc1, hg1⟩

def mTakeF (l : List UInt8) : Nat × List UInt8 × Int := if (mtakeS l 0).2.1 ≠ 0 then (0, [], (mtakeS l 0).2.1) else ((mtakeS l 0).1, l.drop (mtakeS l 0).2.2, 0)
set_option maxRecDepth 100000 in
set_option maxHeartbeats 1600000 in
theorem mTake_calls {A : Option Addr} {n c : Nat} {l : List UInt8} {w : World} (h : Bs w A n c l) (hn : n ≤ 1000000) :
    Calls Try.prog 17 #[.slice A n c] w fun e w' => ∃ A1 m1 c1 A2 m2 c2 r, e = .returned (.tuple #[.slice A1 m1 c1, .slice A2 m2 c2, .int .i64 r]) ∧ NatR w' A1 m1 c1 (mTakeF l).1 ∧ Own w' w.heap.size A2 m2 c2 (mTakeF l).2.1 ∧ r = (mTakeF l).2.2 ∧ Below w.heap.size w w' := by
  have hT : mTakeF l = if (mtakeS l 0).2.1 ≠ 0 then (0, [], (mtakeS l 0).2.1) else ((mtakeS l 0).1, l.drop (mtakeS l 0).2.2, 0) := rfl
  have htk := fun (W : World) (g : Nat) (hc : Cur W g 0 l) => mtake_calls hc
  generalize mtakeS l 0 = M at hT htk
  obtain ⟨N, r, a⟩ := M
  simp only at hT htk
  have HK := Lib.hid htk
  clear htk
  by_cases h0 : r = 0
  · subst h0
    have HT := Lib.hid (show mTakeF l = (N, l.drop a, 0) by rw [hT]; rfl)
    clear hT
    go_enter Try.func17, Try.ntmps17
    go_wp2_with (first
      | (go_at_call 49; refine (Over_calls h (by omega)).mono ?_; rintro e w1 ⟨g, rfl, hg, hc, hb1⟩)
      | (go_at_call 50; refine (HK.out _ g hc).mono ?_; rintro e w2 ⟨A2, m2, c2, r2, rfl, hN2, hbk2, hr2, hc2, hg2⟩; obtain rfl : r2 = 0 := hr2; go_must (have hB2 : Below w.heap.size w w2 := hb1.grown hg2 hb1.size (fun k e => by cases e; exact hg)))
      | (go_at_call 51; refine (Rest_calls hc2).mono ?_; rintro e w3 ⟨A3, m3, c3, rfl, ho3, hc3, hg3⟩))
    have hB3 : Below w.heap.size w w3 := hB2.grown hg3 hB2.size (fun k e => by cases e; exact hg)
    go_ret3
    rw [HT.out]
    exact ⟨_, _, _, _, _, _, _, rfl, hN2.grown hg3 (fun ad e e2 => by have h1 := hbk2 ad e; have h2 := hc.lt; injection e2 with e2; omega), ho3.lower hB2.size, rfl, hB3⟩
  · have HT := Lib.hid (show mTakeF l = (0, [], r) by rw [hT, if_pos h0])
    have hne : (r != 0) = true := by rw [bne_iff_ne]; exact h0
    clear hT
    go_enter Try.func17, Try.ntmps17
    go_wp2_with (first
      | (go_at_call 49; refine (Over_calls h (by omega)).mono ?_; rintro e w1 ⟨g, rfl, hg, hc, hb1⟩)
      | (go_at_call 50; refine (HK.out _ g hc).mono ?_; rintro e w2 ⟨A2, m2, c2, r2, rfl, hN2, hbk2, hr2, hc2, hg2⟩; obtain rfl : r2 = r := hr2; go_must (have hB2 : Below w.heap.size w w2 := hb1.grown hg2 hb1.size (fun k e => by cases e; exact hg))))
    go_ret3
    rw [HT.out]
    exact ⟨_, _, _, _, _, _, _, rfl, NatR.zero _, Own.nil_ _ _, rfl, hB2⟩
end Go.Proofs.Ytcakdlfhmdkocaa
