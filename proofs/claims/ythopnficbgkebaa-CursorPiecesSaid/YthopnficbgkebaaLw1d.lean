/- Piece by piece. -/
import Derived.Test.YthopnficbgkebaaLw1
import Derived.Test.YthopnficbgkebaaIw
namespace Go.Proofs.Ythopnficbgkebaa
open Go.RowKit

theorem takeS_len (l : List UInt8) (at_ : Nat) (n : Int) : ((takeS l at_ n).2.1 = 0 ∧ ((takeS l at_ n).1.length : Int) = n ∨ (takeS l at_ n).2.1 ≠ 0) ∧ l.take at_ ++ (takeS l at_ n).1 = l.take (takeS l at_ n).2.2 := by
  unfold takeS
  split
  · simp
  · split
    · simp
    · refine ⟨.inl ⟨rfl, by simp; omega⟩, ?_⟩
      simp only
      rw [List.take_add]

theorem takeS_short (l : List UInt8) (at_ : Nat) (n : Int) : ((takeS l at_ n).1.length : Int) ≤ l.length ∧ (0 ≤ n → ((takeS l at_ n).1.length : Int) ≤ n) := by
  unfold takeS
  split
  · simp
  · split
    · simp
    · refine ⟨?_, fun _ => ?_⟩ <;> (simp; omega)

set_option maxHeartbeats 3200000 in
theorem CursorPieces_walk {A D : Option Addr} {n m c d : Nat} {l : List UInt8} {zs : List Int} {w : World} (h : Bs w A n c l) (hz : Is w D m d zs) (hm : m ≤ 9223372036854775807) :
    Calls Try.prog 8 #[.slice A n c, .slice D m d] w fun e w' => e = .returned (.bool true) ∧ Below w.heap.size w w' := by
  by_cases hn : 300 < n
  · go_enter Try.func8, Try.ntmps8
    go_wp2_with (go_at_call 12; refine (alive1_calls _).mono ?_; rintro e w1 ⟨rfl, hb1⟩)
    go_ret
    exact ⟨rfl, hb1⟩
  · obtain rfl := hz.2
    go_enter Try.func8, Try.ntmps8
    go_wp2_with (go_at_call 24; refine (Over_calls h (by omega)).mono ?_; rintro e w1 ⟨g, rfl, hg, hcur, hb1⟩)
    have hall := empty8 w1
    have hcur2 := hcur.below ((Below.refl w1.heap.size w1).alloc (Nat.le_refl _) (.cells #[] 5))
    have hb2 := hb1.alloc hb1.size (.cells #[] 5)
    have hgl := hcur.lt
    generalize w1.alloc (.cells #[] 5) = w2 at hall hcur2 hb2 ⊢
    have hall' := hall.lower (B' := w.heap.size) hb1.size
    have hg1 : ∀ ad, some (⟨w1.heap.size, 0, none⟩ : Addr) = some ad → g < ad.block := fun ad e => by cases e; exact hgl
    clear hall hcur hb1
    generalize some (⟨w1.heap.size, 0, none⟩ : Addr) = A0 at hall' hg1 ⊢
    go_loopw [6, 7] (fun v i wr => ∃ (k at_ : Nat) (A' : Option Addr) (m' c' : Nat), k ≤ zs.length ∧ k ≤ 40 ∧ i = .int .i64 k ∧ v = .slice A' m' c' ∧ Own wr w.heap.size A' m' c' (l.take at_) ∧ Cur wr g at_ l ∧ Below w.heap.size w wr ∧ Hid (∀ ad, A' = some ad → g < ad.block)) (fun _ i _ => 40 - (intOf i).toNat)
    case atStart => exact ⟨0, 0, A0, 0, 0, Nat.zero_le _, Nat.zero_le _, rfl, rfl, by simpa using hall', hcur2, hb2, Lib.hid hg1⟩
    case round =>
      obtain ⟨k, at_, A1, m1, c1, hk, hk40, rfl, rfl, hown, hcr, hbr, hne⟩ := hrel
      have hgw : w.heap.size ≤ g := hg
      have hcl := hcr.len
      have hownl := hown.2
      have hm1 : m1 ≤ 300 := by rw [← hownl, List.length_take]; have := h.2; omega
      by_cases hlast : k < zs.length ∧ k < 40
      · obtain ⟨hk1, hk2⟩ := hlast
        obtain ⟨b, off, hD, hbk, hcell0⟩ := hz.at_ hk1
        subst hD
        generalize zs[k] = z at hcell0
        have hcell := (hbr.cell (p := ⟨b, off + k, none⟩) hbk).trans hcell0
        go_wp2_with fail
        refine (Take_any hcr z).mono ?_
        rintro e w3 ⟨A3, m3, c3, r3, rfl, ho3, hr3, hc3, hg3⟩
        obtain ⟨hcs, hap⟩ := takeS_len l at_ z
        have hbr3 := hbr.grown hg3 hbr.size (fun j hj => by cases hj; exact hgw)
        have hown' : Own w3 w.heap.size A1 m1 c1 (l.take at_) := hown.grown hg3 (fun ad e e2 => by have := hne.out ad e; injection e2 with e2; omega)
        have hcell3 : w3.cell? ⟨b, off + k, none⟩ = some (.int .i64 z) := (hbr3.cell (p := ⟨b, off + k, none⟩) hbk).trans hcell0
        have hl3 := (takeS_short l at_ z).1
        generalize takeS l at_ z = x at ho3 hr3 hc3 hcs hap hl3
        rw [← hr3] at hcs
        have hm3 := ho3.2
        have Hap := Lib.hid hap
        clear hap hr3
        rcases hcs with ⟨hr0, hlen⟩ | hr0
        · subst hr0
          obtain rfl : (m3 : Int) = z := by omega
          go_wp2_with (at_builtin; go_must (refine app8 (.tmp 49) (.tmp 50) rfl rfl rfl hown' rfl ho3.bs (by omega) (Nat.le_trans hbr.size hg3.size) ?_); intro A4 c4 w4 hown4 hg4 hat4)
          go_roundw
          case rel => exact ⟨k + 1, x.2.2, A4, _, c4, by omega, by omega, by go_num, rfl, by rw [← Hap.out]; exact hown4, hc3.grown hg4 (fun j e => by
            cases A1 with
            | none => cases e
            | some ad => cases e; exact hne.out ad rfl), hbr3.grown hg4 hbr3.size (fun j e => by
            cases A1 with
            | none => cases e
            | some ad => cases e; exact (hown.blk _ rfl).1), Lib.hid (fun ad e => by
            rcases hat4 ad e with h1 | h1
            · cases A1 with
              | none => cases h1
              | some a0 => have h' : a0.block = ad.block := by simpa using h1
                           have := hne.out a0 rfl; omega
            · have := hc3.lt; omega)⟩
          case measure => simp [intOf]; omega
        · have hne0 : (r3 == 0) = false := by rw [beq_eq_false_iff_ne]; exact hr0
          go_wp2_with (at_builtin; go_must (refine app8 (.tmp 49) (.tmp 50) rfl rfl rfl hown' rfl ho3.bs (by omega) (Nat.le_trans hbr.size hg3.size) ?_); intro A4 c4 w4 hown4 hg4 hat4)
          go_roundw
          case rel => exact ⟨k + 1, x.2.2, A4, _, c4, by omega, by omega, by go_num, rfl, by rw [← Hap.out]; exact hown4, hc3.grown hg4 (fun j e => by
            cases A1 with
            | none => cases e
            | some ad => cases e; exact hne.out ad rfl), hbr3.grown hg4 hbr3.size (fun j e => by
            cases A1 with
            | none => cases e
            | some ad => cases e; exact (hown.blk _ rfl).1), Lib.hid (fun ad e => by
            rcases hat4 ad e with h1 | h1
            · cases A1 with
              | none => cases h1
              | some a0 => have h' : a0.block = ad.block := by simpa using h1
                           have := hne.out a0 rfl; omega
            · have := hc3.lt; omega)⟩
          case measure => simp [intOf]; omega
      · have hend : (k : Int) < (zs.length : Int) → (k : Int) < 40 → False := fun h1 h2 => hlast ⟨by omega, by omega⟩
        by_cases hk1 : k < zs.length
        · have hk2 : k = 40 := by omega
          subst hk2
          clear hlast hend
          go_wp2_with fail
          refine (Rest_calls hcr).mono ?_
          rintro e w3 ⟨A3, m3, c3, rfl, ho3, hc3, hg3⟩
          have hbr3 := hbr.grown hg3 hbr.size (fun j hj => by cases hj; exact hgw)
          have hown' : Own w3 w.heap.size A1 m1 c1 (l.take at_) := hown.grown hg3 (fun ad e e2 => by have := hne.out ad e; injection e2 with e2; omega)
          have hm3 : m3 ≤ 300 := by rw [← ho3.2, List.length_drop]; have := h.2; omega
          go_wp2_with (at_builtin; go_must (refine app8 (.tmp 52) (.tmp 54) rfl rfl rfl hown' rfl ho3.bs (by omega) (Nat.le_trans hbr.size hg3.size) ?_); intro A4 c4 w4 hown4 hg4 hat4)
          rw [List.take_append_drop] at hown4
          have hbr4 : Below w.heap.size w w4 := hbr3.grown hg4 hbr3.size (fun j e => by
            cases A1 with
            | none => cases e
            | some ad => cases e; exact (hown.blk _ rfl).1)
          refine (alive1_calls w4).mono ?_
          rintro e w5 ⟨rfl, hb5⟩
          have s1 := (hown4.below hb5).bs.str
          have s2 := ((h.below hbr4).below hb5).str
          go_wp2
          go_ret
          exact ⟨rfl, below_then hbr4 hbr4.size hb5⟩
        · have hk2 : k = zs.length := by omega
          clear hlast hend
          go_wp2_with fail
          refine (Rest_calls hcr).mono ?_
          rintro e w3 ⟨A3, m3, c3, rfl, ho3, hc3, hg3⟩
          have hbr3 := hbr.grown hg3 hbr.size (fun j hj => by cases hj; exact hgw)
          have hown' : Own w3 w.heap.size A1 m1 c1 (l.take at_) := hown.grown hg3 (fun ad e e2 => by have := hne.out ad e; injection e2 with e2; omega)
          have hm3 : m3 ≤ 300 := by rw [← ho3.2, List.length_drop]; have := h.2; omega
          go_wp2_with (at_builtin; go_must (refine app8 (.tmp 52) (.tmp 54) rfl rfl rfl hown' rfl ho3.bs (by omega) (Nat.le_trans hbr.size hg3.size) ?_); intro A4 c4 w4 hown4 hg4 hat4)
          rw [List.take_append_drop] at hown4
          have hbr4 : Below w.heap.size w w4 := hbr3.grown hg4 hbr3.size (fun j e => by
            cases A1 with
            | none => cases e
            | some ad => cases e; exact (hown.blk _ rfl).1)
          refine (alive1_calls w4).mono ?_
          rintro e w5 ⟨rfl, hb5⟩
          have s1 := (hown4.below hb5).bs.str
          have s2 := ((h.below hbr4).below hb5).str
          go_wp2
          go_ret
          exact ⟨rfl, below_then hbr4 hbr4.size hb5⟩
end Go.Proofs.Ythopnficbgkebaa
