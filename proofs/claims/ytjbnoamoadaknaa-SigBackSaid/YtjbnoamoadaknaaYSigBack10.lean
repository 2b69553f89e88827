import Derived.Test.YtjbnoamoadaknaaYSigBack9
import Derived.Test.YtjbnoamoadaknaaYSigBack6
import Derived.Test.YtjbnoamoadaknaaYSigBack3
import Derived.Deep.QuietTactic
import Derived.BigQuiet
/- mpi: putting a number. -/
section
namespace Go.Proofs.Ytjbnoamoadaknaa
open Go.RowKit

theorem val_nb {l : List UInt8} (h : l.length ≤ 8) : val l = (nb l : Int) := by
  have := val_be h (nb_lt l)
  rwa [be_nb] at this
/-- A number behind bytes, with how many bits it has. -/
def mputS (l : List UInt8) (N : Nat) : List UInt8 × Int := if 16384 < nbits N then ([], 4) else (l ++ be 2 (nbits N) ++ bytesN N, 0)
theorem bytesN_length (N : Nat) : (bytesN N).length = nlen N := be_length _ _
theorem putS2 (l : List UInt8) {n : Nat} (h : n ≤ 16384) : putS l n 2 = (l ++ be 2 n, 0) := by
  rw [putS, if_pos ⟨by omega, by omega, by
    have : (2 : Int).toNat = 2 := rfl
    rw [this]; omega⟩]
  rfl
theorem nbits_words {xs : List Nat} {m : Nat} (hlo : Lo 4294967296 xs) (hm : xs.length = m) : nbits (num 4294967296 xs) ≤ 32 * m :=
  nbits_le_of (by have := num_lt (by decide : 0 < 4294967296) hlo; rw [hm, pow32] at this; exact this)

set_option maxRecDepth 100000 in
set_option maxHeartbeats 1600000 in
theorem mPut_calls {A D : Option Addr} {n c m d : Nat} {l : List UInt8} {xs : List Nat} {w : World} (h : Bs w A n c l) (hn : n ≤ 1000000) (h2 : Nr w .u32 D m d xs) (hlo : Lo 4294967296 xs) (hm : m ≤ 100000) :
    Calls Try.prog 36 #[.slice A n c, .slice D m d] w fun e w' => ∃ A' n' c' r, e = .returned (.tuple #[.slice A' n' c', .int .i64 r]) ∧ Own w' w.heap.size A' n' c' (mputS l (num 4294967296 xs)).1 ∧ r = (mputS l (num 4294967296 xs)).2 ∧ Below w.heap.size w w' := by
  have hB := nbits_words hlo h2.2
  have hbc := Bits_calls h2 hlo (by omega)
  have hyc := fun W (hW : Below w.heap.size w W) => Bytes_calls (h2.below hW) hlo (by omega)
  have hbl := bytesN_length (num 4294967296 xs)
  have hnl := nlen_le hlo h2.2
  have hP : nbits (num 4294967296 xs) ≤ 16384 → mputS l (num 4294967296 xs) = (l ++ be 2 (nbits (num 4294967296 xs)) ++ bytesN (num 4294967296 xs), 0) := fun e => by rw [mputS, if_neg (by omega)]
  have hQ : 16384 < nbits (num 4294967296 xs) → mputS l (num 4294967296 xs) = ([], 4) := fun e => by rw [mputS, if_pos e]
  rw [hbl.symm] at hnl
  generalize nlen (num 4294967296 xs) = k at hbl
  generalize bytesN (num 4294967296 xs) = by_ at hyc hbl hP hnl
  generalize mputS l (num 4294967296 xs) = R at hP hQ ⊢
  generalize nbits (num 4294967296 xs) = q at hB hbc hP hQ
  have HB := Lib.hid hbc
  have HY := Lib.hid hyc
  have hq16 := putS2 l (n := q)
  have HS := Lib.hid hq16
  clear hbc hyc hbl hq16
  by_cases hbig : 16384 < q
  · have HR := Lib.hid (hQ hbig)
    clear hP hQ
    go_enter Try.func36, Try.ntmps36
    go_wp2_with (go_at_call 65; refine HB.out.mono ?_; rintro e w1 ⟨rfl, hb1⟩)
    go_ret2
    rw [HR.out]
    exact ⟨_, _, _, _, rfl, Own.nil_ _ _, rfl, hb1⟩
  · have HR := Lib.hid (hP (by omega))
    clear hP hQ
    go_enter Try.func36, Try.ntmps36
    go_wp2_with (first
      | (go_at_call 65; refine HB.out.mono ?_; rintro e w1 ⟨rfl, hb1⟩; go_must (have h1 := h.below hb1))
      | (go_at_call 64; refine (Put_any h1 (by omega) q (by omega) 2).mono ?_; rw [HS.out (by omega)]; rintro e w2 ⟨A2, n2, c2, r2, rfl, ho2, hr2, hb2⟩; obtain rfl : r2 = 0 := hr2; go_must (have hB2 := below_then hb1 hb1.size hb2; have hn2 := ho2.2; have ho2 := ho2.lower (B' := w.heap.size) hb1.size))
      | (go_at_call 62; refine (HY.out _ hB2).mono ?_; rintro e w3 ⟨A3, n3, c3, rfl, ho3, hb3⟩; go_must (have hB3 := below_then hB2 hB2.size hb3; have ho2b := ho2.below hb3; have hn3 := ho3.2; have hll := h.2; rw [List.length_append, be_length] at hn2))
      | (at_builtin; refine app8 (.tmp 20) (.tmp 22) rfl rfl rfl ho2b rfl ho3.bs (by omega) hB3.size ?_; intro A4 c4 w4 hown4 hg4 hat4))
    go_ret2
    rw [HR.out]
    exact ⟨_, _, _, _, rfl, hown4, rfl, ho2b.grew hB3 hB3.size hg4⟩

set_option maxRecDepth 100000 in
set_option maxHeartbeats 1600000 in
theorem rmPut_calls {A D : Option Addr} {n c m d : Nat} {l : List UInt8} {xs : List Nat} {w : World} (h : Bs w A n c l) (hn : n ≤ 1000000) (h2 : Nr w .u32 D m d xs) (hlo : Lo 4294967296 xs) (hm : m ≤ 100000) :
    Calls Try.prog 40 #[.slice A n c, .slice D m d] w fun e w' => ∃ A' n' c' r, e = .returned (.tuple #[.slice A' n' c', .int .i64 r]) ∧ Own w' w.heap.size A' n' c' (mputS l (num 4294967296 xs)).1 ∧ r = (mputS l (num 4294967296 xs)).2 ∧ Below w.heap.size w w' := by
  have hB := nbits_words hlo h2.2
  have hbc := rBits_calls h2 hlo hm
  have hyc := fun W (hW : Below w.heap.size w W) => rBytes_calls (h2.below hW) hlo hm
  have hbl := bytesN_length (num 4294967296 xs)
  have hnl := nlen_le hlo h2.2
  have hP : nbits (num 4294967296 xs) ≤ 16384 → mputS l (num 4294967296 xs) = (l ++ be 2 (nbits (num 4294967296 xs)) ++ bytesN (num 4294967296 xs), 0) := fun e => by rw [mputS, if_neg (by omega)]
  have hQ : 16384 < nbits (num 4294967296 xs) → mputS l (num 4294967296 xs) = ([], 4) := fun e => by rw [mputS, if_pos e]
  rw [hbl.symm] at hnl
  generalize nlen (num 4294967296 xs) = k at hbl
  generalize bytesN (num 4294967296 xs) = by_ at hyc hbl hP hnl
  generalize mputS l (num 4294967296 xs) = R at hP hQ ⊢
  generalize nbits (num 4294967296 xs) = q at hB hbc hP hQ
  have HB := Lib.hid hbc
  have HY := Lib.hid hyc
  have hq16 := putS2 l (n := q)
  have HS := Lib.hid hq16
  clear hbc hyc hbl hq16
  by_cases hbig : 16384 < q
  · have HR := Lib.hid (hQ hbig)
    clear hP hQ
    go_enter Try.func40, Try.ntmps40
    go_wp2_with (go_at_call 69; refine HB.out.mono ?_; rintro e w1 ⟨rfl, hb1⟩)
    go_ret2
    rw [HR.out]
    exact ⟨_, _, _, _, rfl, Own.nil_ _ _, rfl, hb1⟩
  · have HR := Lib.hid (hP (by omega))
    clear hP hQ
    go_enter Try.func40, Try.ntmps40
    go_wp2_with (first
      | (go_at_call 69; refine HB.out.mono ?_; rintro e w1 ⟨rfl, hb1⟩; go_must (have h1 := h.below hb1))
      | (go_at_call 67; refine (rPut_any h1 (by omega) q (by omega) 2).mono ?_; rw [HS.out (by omega)]; rintro e w2 ⟨A2, n2, c2, r2, rfl, ho2, hr2, hb2⟩; obtain rfl : r2 = 0 := hr2; go_must (have hB2 := below_then hb1 hb1.size hb2; have hn2 := ho2.2; have ho2 := ho2.lower (B' := w.heap.size) hb1.size))
      | (go_at_call 70; refine (HY.out _ hB2).mono ?_; rintro e w3 ⟨A3, n3, c3, rfl, ho3, hb3⟩; go_must (have hB3 := below_then hB2 hB2.size hb3; have ho2b := ho2.below hb3; have hn3 := ho3.2; have hll := h.2; rw [List.length_append, be_length] at hn2))
      | (at_builtin; refine app8 (.tmp 20) (.tmp 22) rfl rfl rfl ho2b rfl ho3.bs (by omega) hB3.size ?_; intro A4 c4 w4 hown4 hg4 hat4))
    go_ret2
    rw [HR.out]
    exact ⟨_, _, _, _, rfl, hown4, rfl, ho2b.grew hB3 hB3.size hg4⟩
end Go.Proofs.Ytjbnoamoadaknaa
end

/- mpi: taking a number. -/
section
namespace Go.Proofs.Ytjbnoamoadaknaa
open Go.RowKit

/-- A slice that reads as the number N, without noughts at the end. -/
def NatR (w : World) (A : Option Addr) (m c N : Nat) : Prop := ∃ xs, Nr w .u32 A m c xs ∧ Lo 4294967296 xs ∧ Trim xs ∧ num 4294967296 xs = N
theorem NatR.below {w w' : World} {A : Option Addr} {m c N : Nat} (h : NatR w A m c N) (hb : Below w.heap.size w w') : NatR w' A m c N := by
  obtain ⟨xs, h1, h2⟩ := h
  exact ⟨xs, h1.below hb, h2⟩
theorem NatR.zero (w : World) : NatR w none 0 0 0 := ⟨[], Nr.nil_ _ _, Lo.nil _, (fun y h => by cases h), rfl⟩
theorem NatR.grown {w w' : World} {A : Option Addr} {m c N : Nat} (h : NatR w A m c N) {row : Option Nat} (hg : w.grownBy w' row) (hne : ∀ ad, A = some ad → some ad.block ≠ row) : NatR w' A m c N := by
  obtain ⟨xs, h1, h2⟩ := h
  exact ⟨xs, h1.grown hg hne, h2⟩

/-- What taking a number comes to, by what its bits' number and its bytes are taken as: the number, the error, the place. -/
def mfin (n e : Int) (a1 : Nat) (t : List UInt8 × Int × Nat) : Nat × Int × Nat :=
  if e ≠ 0 then (0, e, a1) else if 16384 < n then (0, 4, a1) else if t.2.1 ≠ 0 then (0, t.2.1, t.2.2) else
  if (nbits (nb t.1) : Int) ≠ n then (0, 3, t.2.2) else (nb t.1, 0, t.2.2)
def mtakeS (l : List UInt8) (a : Nat) : Nat × Int × Nat :=
  mfin (numS l a 2).1 (numS l a 2).2.1 (numS l a 2).2.2 (takeS l (numS l a 2).2.2 (((numS l a 2).1 + 7) / 8))

theorem numS2_lt (l : List UInt8) (a : Nat) : 0 ≤ (numS l a 2).1 ∧ (numS l a 2).1 < 65536 := by
  unfold numS
  rw [if_neg (by omega)]
  have hl : (takeS l a 2).1.length ≤ 2 := by
    unfold takeS
    split
    · simp
    · split
      · simp
      · simp; omega
  rw [val_nb (by omega)]
  have h1 := nb_lt (takeS l a 2).1
  have h2 : 256 ^ (takeS l a 2).1.length ≤ 256 ^ 2 := Nat.pow_le_pow_right (by decide) hl
  simp only
  omega
theorem takeS_len (l : List UInt8) (a : Nat) (n : Int) (hn : 0 ≤ n) : ((takeS l a n).1.length : Int) ≤ n := by
  unfold takeS
  split
  · simp; omega
  · split
    · simp; omega
    · simp; omega

set_option maxRecDepth 100000 in
set_option maxHeartbeats 3200000 in
theorem mtake_calls {w : World} {g a : Nat} {l : List UInt8} (h : Cur w g a l) :
    Calls Try.prog 82 #[.pointer (some ⟨g, 0, none⟩)] w fun e w' => ∃ A' m c' r, e = .returned (.tuple #[.slice A' m c', .int .i64 r]) ∧ NatR w' A' m c' (mtakeS l a).1 ∧ (∀ ad, A' = some ad → w.heap.size ≤ ad.block) ∧ r = (mtakeS l a).2.1 ∧ Cur w' g (mtakeS l a).2.2 l ∧ w.grownBy w' (some g) := by
  obtain ⟨hx0, hx1⟩ := numS2_lt l a
  have hnum := Number_any h 2
  have htl := takeS_len l (numS l a 2).2.2 (((numS l a 2).1 + 7) / 8) (by omega)
  have htk := fun (w1 : World) (h1 : Cur w1 g (numS l a 2).2.2 l) => Take_any h1 (((numS l a 2).1 + 7) / 8)
  have hM : mtakeS l a = mfin (numS l a 2).1 (numS l a 2).2.1 (numS l a 2).2.2 (takeS l (numS l a 2).2.2 (((numS l a 2).1 + 7) / 8)) := rfl
  generalize mtakeS l a = M at hM ⊢
  generalize takeS l (numS l a 2).2.2 (((numS l a 2).1 + 7) / 8) = t at htl htk hM
  generalize numS l a 2 = x at hx0 hx1 hnum htl htk hM
  obtain ⟨n, e0, a1⟩ := x
  obtain ⟨b, e2, a2⟩ := t
  simp only at hx0 hx1 hnum htl htk hM
  obtain ⟨n, rfl⟩ := Int.eq_ofNat_of_zero_le hx0
  have hbl : (b.length : Int) ≤ ((n : Int) + 7) / 8 := htl
  have HN := Lib.hid hnum
  have HK := Lib.hid htk
  clear hnum htk htl
  by_cases h1 : e0 = 0
  · subst h1
    by_cases h2 : 16384 < n
    · have HM := Lib.hid (show M = (0, 4, a1) by rw [hM, mfin, if_neg (by decide), if_pos (by omega)])
      have h2' : (16384 : Int) < (n : Int) := by omega
      clear hM h2 hbl
      go_enter Try.func82, Try.ntmps82
      go_wp2_with (go_at_call 52; refine HN.out.mono ?_; rintro e w1 ⟨rfl, hc1, hg1⟩)
      go_ret2
      rw [HM.out]
      exact ⟨_, _, _, _, rfl, NatR.zero _, (fun ad e => by cases e), rfl, hc1, hg1⟩
    · have hbl2 : b.length ≤ 2048 := by
        omega
      have h2' : (n : Int) ≤ 16384 := by omega
      have h2n : ¬ (16384 : Int) < (n : Int) := by omega
      have hd2 : decide ((16384 : Int) < (n : Int)) = false := decide_eq_false h2n
      have H2 := Lib.hid h2
      have HB2 := Lib.hid hbl2
      have H3 := Lib.hid h2'
      clear h2 hbl2 hbl h2'
      by_cases h3 : e2 = 0
      · subst h3
        by_cases h4 : nbits (nb b) = n
        · have HM := Lib.hid (show M = (nb b, 0, a2) by rw [hM, mfin, if_neg (by decide), if_neg h2n, if_neg (by simp), if_neg (by simp only; omega)])
          clear hM h2n
          have hne : ((nbits (nb b) : Int) != (n : Int)) = false := by rw [bne_eq_false_iff_eq]; omega
          go_enter Try.func82, Try.ntmps82
          go_wp2_with (first
            | (go_at_call 52; refine HN.out.mono ?_; rintro e w1 ⟨rfl, hc1, hg1⟩)
            | (go_at_call 59; refine (HK.out _ hc1).mono ?_; rintro e w2 ⟨A2, m2, c2, r2, rfl, ho2, hr2, hc2, hg2⟩; obtain rfl : r2 = 0 := hr2; go_must (have hm2 := ho2.2; have G2 := grown_trans hg1 hg2))
            | (go_at_call 37; refine (Read_calls ho2.bs (by have := HB2.out; omega)).mono ?_; rintro e w3 ⟨A3, m3, xs, rfl, hr3, hlo3, ht3, hn3, hbk3, hml3, hb3⟩; have HN3 := Lib.hid hn3; clear hn3; go_must (have hc3 := hc2.below hb3; have G3 := grown_trans G2 (grown_of_below hb3 _)))
            | (go_at_call 65; refine (Bits_calls hr3 hlo3 (by have := HB2.out; omega)).mono ?_; rw [HN3.out]; rintro e w4 ⟨rfl, hb4⟩))
          go_ret2
          rw [HM.out]
          have hsz : w.heap.size ≤ w2.heap.size := G2.size
          exact ⟨_, _, _, _, rfl, ⟨xs, hr3.below hb4, hlo3, ht3, HN3.out⟩, fun ad e => Nat.le_trans hsz (hbk3 ad e), rfl, hc3.below hb4, grown_trans G3 (grown_of_below hb4 _)⟩
        · have HM := Lib.hid (show M = (0, 3, a2) by rw [hM, mfin, if_neg (by decide), if_neg h2n, if_neg (by simp), if_pos (by simp only; omega)])
          clear hM h2n
          have hne : ((nbits (nb b) : Int) != (n : Int)) = true := by rw [bne_iff_ne]; omega
          clear h4
          go_enter Try.func82, Try.ntmps82
          go_wp2_with (first
            | (go_at_call 52; refine HN.out.mono ?_; rintro e w1 ⟨rfl, hc1, hg1⟩)
            | (go_at_call 59; refine (HK.out _ hc1).mono ?_; rintro e w2 ⟨A2, m2, c2, r2, rfl, ho2, hr2, hc2, hg2⟩; obtain rfl : r2 = 0 := hr2; go_must (have hm2 := ho2.2; have G2 := grown_trans hg1 hg2))
            | (go_at_call 37; refine (Read_calls ho2.bs (by have := HB2.out; omega)).mono ?_; rintro e w3 ⟨A3, m3, xs, rfl, hr3, hlo3, ht3, hn3, hbk3, hml3, hb3⟩; have HN3 := Lib.hid hn3; clear hn3; go_must (have hc3 := hc2.below hb3; have G3 := grown_trans G2 (grown_of_below hb3 _)))
            | (go_at_call 65; refine (Bits_calls hr3 hlo3 (by have := HB2.out; omega)).mono ?_; rw [HN3.out]; rintro e w4 ⟨rfl, hb4⟩))
          go_ret2
          rw [HM.out]
          exact ⟨_, _, _, _, rfl, NatR.zero _, (fun ad e => by cases e), rfl, hc3.below hb4, grown_trans G3 (grown_of_below hb4 _)⟩
      · have hne : (e2 != 0) = true := by rw [bne_iff_ne]; exact h3
        have HM := Lib.hid (show M = (0, e2, a2) by rw [hM, mfin, if_neg (by decide), if_neg h2n, if_pos (by exact h3)])
        clear hM h2n
        go_enter Try.func82, Try.ntmps82
        go_wp2_with (first
          | (go_at_call 52; refine HN.out.mono ?_; rintro e w1 ⟨rfl, hc1, hg1⟩)
          | (go_at_call 59; refine (HK.out _ hc1).mono ?_; rintro e w2 ⟨A2, m2, c2, r2, rfl, ho2, hr2, hc2, hg2⟩; obtain rfl : r2 = e2 := hr2))
        go_ret2
        rw [HM.out]
        exact ⟨_, _, _, _, rfl, NatR.zero _, (fun ad e => by cases e), rfl, hc2, grown_trans hg1 hg2⟩
  · have hne : (e0 != 0) = true := by rw [bne_iff_ne]; exact h1
    have HM := Lib.hid (show M = (0, e0, a1) by rw [hM, mfin, if_pos h1])
    clear hM
    go_enter Try.func82, Try.ntmps82
    go_wp2_with (go_at_call 52; refine HN.out.mono ?_; rintro e w1 ⟨rfl, hc1, hg1⟩)
    go_ret2
    rw [HM.out]
    exact ⟨_, _, _, _, rfl, NatR.zero _, (fun ad e => by cases e), rfl, hc1, hg1⟩

def mTakeF (l : List UInt8) : Nat × List UInt8 × Int := if (mtakeS l 0).2.1 ≠ 0 then (0, [], (mtakeS l 0).2.1) else ((mtakeS l 0).1, l.drop (mtakeS l 0).2.2, 0)
end Go.Proofs.Ytjbnoamoadaknaa
end

/- A slice of a slice of bytes, its address under one name. -/
section
namespace Go.Proofs.Ytjbnoamoadaknaa
open Go.RowKit

/-- A slice of a slice, its address under one name. -/
theorem slice_mid (A : Option Addr) (n c i j : Nat) (hij : i ≤ j) (hj : j ≤ c) (x y : Int) (hx : x = i) (hy : y = j) (W : World) :
    (Instr.sliceAt 22 (.slice A n c) (some (.int .i64 x)) (some (.int .i64 y)) none).run Try.prog W = .ok (.slice (if c = i then A else A.map (·.add i)) (j - i) (c - i)) W := by
  subst hx; subst hy
  rw [run_sliceAt_slice W 22 _ _ _ _ (by kernel_rfl), run_slice_lh W 22 A n c (by kernel_rfl) .i64 .i64 i j (by omega) (by omega) (by omega)]
  have hz : ∀ w, (sizeOf (Try.prog.elem 22)).run Try.prog w = .ok 1 w := fun w => by kernel_rfl
  rw [hz]
  simp [Result.andThen, sliced]
theorem slice_from (A : Option Addr) (n c i : Nat) (hi : i ≤ n) (x : Int) (hx : x = i) (W : World) :
    (Instr.sliceAt 22 (.slice A n c) (some (.int .i64 x)) none none).run Try.prog W = .ok (.slice (if c = i then A else A.map (·.add i)) (n - i) (c - i)) W := by
  subst hx
  rw [run_sliceAt_slice W 22 _ _ _ _ (by kernel_rfl), run_slice_l W 22 A n c (by kernel_rfl) .i64 i (by omega) (by omega)]
  have hz : ∀ w, (sizeOf (Try.prog.elem 22)).run Try.prog w = .ok 1 w := fun w => by kernel_rfl
  rw [hz]
  simp [Result.andThen, sliced]

/-- Where such an address lies. -/
theorem map_blk {A a2 : Option Addr} {P : Prop} [Decidable P] {k : Nat} (h : a2 = if P then A else A.map (·.add k)) : ∀ x, a2 = some x → ∃ a1, A = some a1 ∧ x.block = a1.block := fun x e => by
  rw [h] at e
  split at e
  · exact ⟨x, e, rfl⟩
  · cases A with
    | none => cases e
    | some a1 =>
      injection e with e
      exact ⟨a1, rfl, by rw [← e, block_of_add]⟩
end Go.Proofs.Ytjbnoamoadaknaa
end

/- mpi: the document's taking. -/
section
namespace Go.Proofs.Ytjbnoamoadaknaa
open Go.RowKit

def rTakeF (l : List UInt8) : Nat × List UInt8 × Int :=
  if l.length < 2 then (0, [], 2) else if 16384 < nb (l.take 2) then (0, [], 4) else if l.length - 2 < (nb (l.take 2) + 7) / 8 then (0, [], 2) else
  if nbits (nb ((l.drop 2).take ((nb (l.take 2) + 7) / 8))) ≠ nb (l.take 2) then (0, [], 3) else (nb ((l.drop 2).take ((nb (l.take 2) + 7) / 8)), l.drop (2 + (nb (l.take 2) + 7) / 8), 0)
theorem numS_two (l : List UInt8) (h : 2 ≤ l.length) : numS l 0 2 = ((nb (l.take 2) : Int), 0, 2) := by
  unfold numS takeS
  rw [if_neg (by omega), if_neg (by omega), if_neg (by omega)]
  simp only [List.drop_zero]
  have e : (2 : Int).toNat = 2 := rfl
  rw [e, val_nb (by rw [List.length_take]; omega)]
theorem numS_none (l : List UInt8) (h : l.length < 2) : numS l 0 2 = (0, 2, 0) := by
  unfold numS takeS
  rw [if_neg (by omega), if_neg (by omega), if_pos (by omega)]
  rfl
theorem nb_two (l : List UInt8) : nb (l.take 2) < 65536 := by
  have h1 := nb_lt (l.take 2)
  have h2 : 256 ^ (l.take 2).length ≤ 256 ^ 2 := Nat.pow_le_pow_right (by decide) (by rw [List.length_take]; omega)
  omega
theorem mTakeF_eq (l : List UInt8) : mTakeF l = rTakeF l := by
  unfold mTakeF rTakeF mtakeS
  by_cases h2 : l.length < 2
  · rw [numS_none l h2, if_pos h2]
    simp [mfin]
  · rw [numS_two l (by omega), if_neg h2]
    simp only
    have hn := nb_two l
    generalize nb (l.take 2) = n at hn
    by_cases hb : 16384 < n
    · rw [if_pos hb]
      have : mfin (n : Int) 0 2 (takeS l 2 (((n : Int) + 7) / 8)) = (0, 4, 2) := by rw [mfin, if_neg (by decide), if_pos (by omega)]
      rw [this]
      rfl
    · rw [if_neg hb]
      obtain ⟨k, hk⟩ : ∃ k, k = (n + 7) / 8 := ⟨_, rfl⟩
      have hki : ((n : Int) + 7) / 8 = (k : Int) := by omega
      rw [hki, ← hk]
      by_cases hs : l.length - 2 < k
      · rw [if_pos hs]
        have ht : takeS l 2 (k : Int) = ([], 2, 2) := by rw [takeS, if_neg (by omega), if_pos (by omega)]
        rw [ht]
        have : mfin (n : Int) 0 2 ([], 2, 2) = (0, 2, 2) := by rw [mfin, if_neg (by decide), if_neg (by omega), if_pos (by decide)]
        rw [this]
        rfl
      · rw [if_neg hs]
        have ht : takeS l 2 (k : Int) = ((l.drop 2).take k, 0, 2 + k) := by rw [takeS, if_neg (by omega), if_neg (by omega)]; simp
        rw [ht]
        generalize (l.drop 2).take k = b
        by_cases hq : nbits (nb b) = n
        · have : mfin (n : Int) 0 2 (b, 0, 2 + k) = (nb b, 0, 2 + k) := by rw [mfin, if_neg (by decide), if_neg (by omega), if_neg (by simp), if_neg (by simp only; omega)]
          rw [this, if_neg (show ¬ nbits (nb b) ≠ n from fun e => e hq)]
          simp
        · have : mfin (n : Int) 0 2 (b, 0, 2 + k) = (0, 3, 2 + k) := by rw [mfin, if_neg (by decide), if_neg (by omega), if_neg (by simp), if_pos (by simp only; omega)]
          rw [this, if_pos hq]
          simp

end Go.Proofs.Ytjbnoamoadaknaa
end

/- A row of numbers of the call's own. -/
section
namespace Go.Proofs.Ytjbnoamoadaknaa
open Go.RowKit

theorem NatR.grown' {w w' : World} {A : Option Addr} {m c N : Nat} (h : NatR w A m c N) {row : Option Nat} (hg : w.grownBy w' row) (hne : N ≠ 0 → ∀ ad, A = some ad → some ad.block ≠ row) : NatR w' A m c N := by
  obtain ⟨xs, h1, h2, h3, h4⟩ := h
  by_cases h0 : N = 0
  · have e := trim_zero (by decide) h3 (h4.trans h0)
    exact ⟨xs, h1.grown' hg (fun hl => absurd e hl), h2, h3, h4⟩
  · exact ⟨xs, h1.grown hg (hne h0), h2, h3, h4⟩
theorem NatR.lt {w : World} {A : Option Addr} {m c N : Nat} (h : NatR w A m c N) (h0 : N ≠ 0) : ∀ ad, A = some ad → ad.block < w.heap.size := by
  obtain ⟨xs, h1, h2, h3, h4⟩ := h
  exact h1.lt (fun e => h0 (by rw [← h4, e]; rfl))

/-- The cells of numbers that read, and lie in no block R. -/
def NtCells (w : World) (R : Option Nat) : List Nat → List Value → Prop
  | [], cs => cs = []
  | N :: Ns, cs => ∃ Ak nk ck rest, cs = .slice Ak nk ck :: rest ∧ NatR w Ak nk ck N ∧ (N ≠ 0 → ∀ ad, Ak = some ad → some ad.block ≠ R) ∧ NtCells w R Ns rest
theorem NtCells.grown {w w' : World} {R R' : Option Nat} (hg : w.grownBy w' R) (hR : R' = R ∨ R' = some w.heap.size) : ∀ {Ns : List Nat} {cs : List Value}, NtCells w R Ns cs → NtCells w' R' Ns cs
  | [], _, h => h
  | _ :: _, _, ⟨Ak, nk, ck, rest, e, hb, hn, ht⟩ => ⟨Ak, nk, ck, rest, e, hb.grown' hg hn, fun hl ad ha => by
      rcases hR with rfl | rfl
      · exact hn hl ad ha
      · have := hb.lt hl ad ha
        intro e2
        injection e2 with e2
        omega, ht.grown hg hR⟩
theorem NtCells.below {w w' : World} {R : Option Nat} (hb : Below w.heap.size w w') : ∀ {Ns : List Nat} {cs : List Value}, NtCells w R Ns cs → NtCells w' R Ns cs
  | [], _, h => h
  | _ :: _, _, ⟨Ak, nk, ck, rest, e, h, hn, ht⟩ => ⟨Ak, nk, ck, rest, e, h.below hb, hn, ht.below hb⟩
/-- What a write to another block leaves. -/
theorem NtCells.other {w w' : World} {R : Option Nat} {g : Nat} (hg : w.grownBy w' (some g)) : ∀ {Ns : List Nat} {cs : List Value}, (∀ Ak nk ck, Value.slice Ak nk ck ∈ cs → ∀ ad, Ak = some ad → ad.block ≠ g) → NtCells w R Ns cs → NtCells w' R Ns cs
  | [], _, _, h => h
  | _ :: _, _, hh, ⟨Ak, nk, ck, rest, e, h, hn, ht⟩ => by
    subst e
    refine ⟨Ak, nk, ck, rest, rfl, h.grown hg (fun ad ea e2 => ?_), hn, ht.other hg (fun A2 n2 c2 hm => hh A2 n2 c2 (by simp [hm]))⟩
    injection e2 with e2
    exact hh Ak nk ck (by simp) ad ea e2
theorem NtCells.snoc {w : World} {R : Option Nat} {Ak : Option Addr} {nk ck N : Nat} (hb : NatR w Ak nk ck N) (hn : N ≠ 0 → ∀ ad, Ak = some ad → some ad.block ≠ R) :
    ∀ {Ns : List Nat} {cs : List Value}, NtCells w R Ns cs → NtCells w R (Ns ++ [N]) (cs ++ [.slice Ak nk ck])
  | [], cs, h => by
    have h' : cs = [] := h
    subst h'
    exact ⟨Ak, nk, ck, [], rfl, hb, hn, rfl⟩
  | p :: ps, cs, ⟨A1, n1, c1, rest, e, h, hn1, ht⟩ => by
    subst e
    exact ⟨A1, n1, c1, _, rfl, h, hn1, ht.snoc hb hn⟩
theorem NtCells.len {w : World} {R : Option Nat} : ∀ {Ns : List Nat} {cs : List Value}, NtCells w R Ns cs → cs.length = Ns.length
  | [], cs, h => by
    have h' : cs = [] := h
    subst h'; rfl
  | p :: ps, cs, ⟨A1, n1, c1, rest, e, h, hn1, ht⟩ => by
    subst e
    have := ht.len
    simp only [List.length_cons] at this ⊢
    omega
theorem NtCells.at_ {w : World} {R : Option Nat} : ∀ {Ns : List Nat} {cs : List Value}, NtCells w R Ns cs → ∀ k (hk : k < Ns.length), ∃ Ak nk ck, cs[k]? = some (.slice Ak nk ck) ∧ NatR w Ak nk ck Ns[k]
  | p :: ps, cs, ⟨A1, n1, c1, rest, e, h, hn1, ht⟩, 0, _ => by
    subst e
    exact ⟨A1, n1, c1, rfl, h⟩
  | p :: ps, cs, ⟨A1, n1, c1, rest, e, h, hn1, ht⟩, k + 1, hk => by
    subst e
    obtain ⟨Ak, nk, ck, e0, e1⟩ := ht.at_ k (by simpa using hk)
    exact ⟨Ak, nk, ck, by simpa using e0, by simpa using e1⟩

theorem EN : El Try.prog 84 59 1 24 := El.mk_ Try.underlying84 (z := .slice none 0 0) (by kernel_rfl) rfl (by omega)

/-- The slice (A, n, c) is the call's own row (in a block from B on) of the numbers Ns, which lie in no block G. -/
def OwnNs (w : World) (B : Nat) (G : Option Nat) (A : Option Addr) (n c : Nat) (Ns : List Nat) : Prop :=
  ∃ cs, OwnR w B 59 1 A c n cs ∧ NtCells w (A.map (·.block)) Ns cs ∧ Ns.length = n ∧ ∀ g, G = some g → (∀ Ak nk ck, Value.slice Ak nk ck ∈ cs → ∀ ad, Ak = some ad → ad.block ≠ g) ∧ A.map (·.block) ≠ some g
theorem OwnNs.nil_ (w : World) (B : Nat) (G : Option Nat) : OwnNs w B G none 0 0 [] := ⟨[], World.ownsRow_nil _ _ _ _, rfl, rfl, fun g _ => ⟨(fun _ _ _ h => by cases h), by simp⟩⟩
theorem OwnNs.len {w : World} {B n c : Nat} {G : Option Nat} {A : Option Addr} {Ns : List Nat} (h : OwnNs w B G A n c Ns) : Ns.length = n := by
  obtain ⟨_, _, _, h, _⟩ := h
  exact h
theorem OwnNs.blk {w : World} {B n c : Nat} {G : Option Nat} {A : Option Addr} {Ns : List Nat} (h : OwnNs w B G A n c Ns) : ∀ ad, A = some ad → B ≤ ad.block ∧ ad.block < w.heap.size := by
  obtain ⟨cs, h1, _⟩ := h
  exact h1.blk
theorem OwnNs.below {w w' : World} {B n c : Nat} {G : Option Nat} {A : Option Addr} {Ns : List Nat} (h : OwnNs w B G A n c Ns) (hb : Below w.heap.size w w') : OwnNs w' B G A n c Ns := by
  obtain ⟨cs, h1, h2, h3, h4⟩ := h
  exact ⟨cs, h1.below hb, h2.below hb, h3, h4⟩
theorem OwnNs.other {w w' : World} {B n c g : Nat} {A : Option Addr} {Ns : List Nat} (h : OwnNs w B (some g) A n c Ns) (hg : w.grownBy w' (some g)) : OwnNs w' B (some g) A n c Ns := by
  obtain ⟨cs, h1, h2, h3, h4⟩ := h
  obtain ⟨h5, h6⟩ := h4 g rfl
  refine ⟨cs, h1.grown hg (fun ad e e2 => h6 ?_), h2.other hg h5, h3, h4⟩
  rw [e]
  exact e2
theorem OwnNs.free {w : World} {B n c : Nat} {G : Option Nat} {A : Option Addr} {Ns : List Nat} (h : OwnNs w B G A n c Ns) : OwnNs w B none A n c Ns := by
  obtain ⟨cs, h1, h2, h3, _⟩ := h
  exact ⟨cs, h1, h2, h3, fun g e => by cases e⟩
theorem OwnNs.lower {w : World} {B B' n c : Nat} {G : Option Nat} {A : Option Addr} {Ns : List Nat} (h : OwnNs w B G A n c Ns) (hB : B' ≤ B) : OwnNs w B' G A n c Ns := by
  obtain ⟨cs, h1, h2⟩ := h
  exact ⟨cs, h1.lower hB, h2⟩
/-- What the walk reads of a row of numbers. -/
theorem OwnNs.at_ {w : World} {B n c : Nat} {G : Option Nat} {A : Option Addr} {Ns : List Nat} (h : OwnNs w B G A n c Ns) {k : Nat} (hk : k < Ns.length) : ∃ b off Ak nk ck, A = some ⟨b, off, none⟩ ∧ b < w.heap.size ∧ w.cell? ⟨b, off + k, none⟩ = some (.slice Ak nk ck) ∧ NatR w Ak nk ck Ns[k] := by
  obtain ⟨cs, h1, h2, h3, _⟩ := h
  have hl := h2.len
  obtain ⟨Ak, nk, ck, e0, e1⟩ := h2.at_ k hk
  obtain ⟨b, off, e, hb, hc⟩ := h1.rd.at_ (k := k) (by omega)
  refine ⟨b, off, Ak, nk, ck, e, hb, ?_, e1⟩
  rw [hc, ← e0, List.getElem?_eq_getElem]

/-- append(v, a), v a row of numbers of one's own, a a number: the goal's world is that behind the variadic's box. -/
theorem appNt {w : World} {ops : Array Oper} {rest : List Oper} {o : Oper} {a : Act} {Q : Exit → Act → World → Prop} (s x : Operand) (hgd : o.guard = none)
    (ho : o.op = .call { callee := .builtin .append, args := #[s, x], argTypes := #[84, 84] })
    {B : Nat} {G : Option Nat} {A0 : Option Addr} {n0 c0 : Nat} {Ns : List Nat} (hs : a.eval s = .slice A0 n0 c0) (hown : OwnNs w B G A0 n0 c0 Ns)
    {Ak : Option Addr} {nk ck N : Nat} (hx : a.eval x = .slice (some ⟨w.heap.size, 0, none⟩) 1 1) (hr : NatR w Ak nk ck N) (hne : N ≠ 0 → ∀ ad, Ak = some ad → some ad.block ≠ A0.map (·.block)) (hG : ∀ g, G = some g → g < w.heap.size ∧ ∀ ad, Ak = some ad → ad.block ≠ g) (hb : n0 ≤ 1000000) (hbase : B ≤ w.heap.size)
    (h : ∀ A' c' w', OwnNs w' B G A' (n0 + 1) c' (Ns ++ [N]) → w.grownBy w' (A0.map (·.block)) → wpList Try.prog ops Q rest (a.put o.dst (.slice A' (n0 + 1) c')) w') :
    wpList Try.prog ops Q (o :: rest) a (w.alloc (.cells #[.slice Ak nk ck] 59)) := by
  obtain ⟨cs, h1, h2, h3, h4⟩ := hown
  have hnew := heap_alloc_new w (.cells #[.slice Ak nk ck] 59)
  have hba := (Below.refl w.heap.size w).alloc (Nat.le_refl _) (.cells #[.slice Ak nk ck] 59)
  refine wpList_app hgd s x 84 ho EN B _ n0 cs hs (h1.alloc_ _) _ 1 1 [.slice Ak nk ck] hx rfl (fun _ => ⟨_, rfl, fun j u hu => ?_⟩) (by simp [Value.oneCell']) (by omega) (by omega) (by simp; omega) ?_
  · have he : (⟨w.heap.size, 0, none⟩ : Addr).add j = ⟨w.heap.size, j, none⟩ := by
      unfold Addr.add; split
      · rename_i h0; rw [h0]
      · simp
    rw [he, cell_of_row _ _ j _ _ _ hnew, ← Array.getElem?_toList]
    exact hu
  · intro v' w' g1 g2 g3
    obtain ⟨A', c', rfl, g4⟩ := OwnR.of g1
    have hg : (w.alloc (.cells #[.slice Ak nk ck] 59)).grownBy w' (A0.map (·.block)) := by cases A0 <;> exact g2
    have hA : A'.map (·.block) = A0.map (·.block) ∨ A'.map (·.block) = some (w.alloc (.cells #[.slice Ak nk ck] 59)).heap.size := by
      cases A' <;> cases A0 <;> exact g3
    refine h A' c' w' ⟨_, g4, ((h2.below hba).snoc (hr.below hba) hne).grown hg hA, by simp [h3], fun g hgg => ?_⟩ (grown_trans (World.grownBy_alloc w _ _) hg)
    obtain ⟨h5, h6⟩ := h4 g hgg
    obtain ⟨h7, h8⟩ := hG g hgg
    refine ⟨fun A2 n2 c2 hm ad e => ?_, fun e => ?_⟩
    · rcases List.mem_append.1 hm with hm | hm
      · exact h5 A2 n2 c2 hm ad e
      · rw [List.mem_singleton] at hm
        injection hm with hm1
        subst hm1
        exact h8 ad e
    · rcases hA with hA | hA
      · exact h6 (hA.symm.trans e)
      · rw [e] at hA
        injection hA with hA
        simp at hA
        omega
end Go.Proofs.Ytjbnoamoadaknaa
end
