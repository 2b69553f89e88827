/- Subpackets that are alike; finding one. -/
import Derived.Test.YtegbncngencfnaaSk
import Derived.Test.YtegbncngencfnaaCur
import Derived.Deep.RegionHeld
namespace Go.Proofs.Ytegbncngencfnaa
open Go.RowKit

set_option maxRecDepth 100000 in
set_option maxHeartbeats 3200000 in
theorem Same21_calls {A D : Option Addr} {n c m d : Nat} {ss : List SubV} {w : World} (h : Ss w A n ss) (h2 : Ss w D m ss) (hn : n ≤ 9223372036854775807) :
    Calls Try.prog 15 #[.slice A n c, .slice D m d] w fun e w' => e = .returned (.bool true) ∧ Below w.heap.size w w' := by
  obtain rfl := h.1
  obtain rfl := h2.1
  go_enter Try.func15, Try.ntmps15
  go_wp2_with fail
  go_loopw [5] (fun i wr => ∃ k : Nat, k ≤ ss.length ∧ i = .int .i64 k ∧ Below w.heap.size w wr) (fun i _ => ss.length - (intOf i).toNat)
  case atStart => exact ⟨0, Nat.zero_le _, rfl, Below.refl _ _⟩
  case round =>
    obtain ⟨k, hk, rfl, hbr⟩ := hrel
    by_cases hlt : k < ss.length
    · obtain ⟨b, off, Ak, nk, ck, hA, hbl, hc0, hc1, hc2, hbs⟩ := h.2 k hlt
      obtain ⟨b2, off2, Ak2, nk2, ck2, hD, hbl2, hd0, hd1, hd2, hbs2⟩ := h2.2 k hlt
      subst hA
      subst hD
      generalize ss[k] = p at hc0 hc1 hc2 hbs hd0 hd1 hd2 hbs2
      obtain ⟨tag, cr, body⟩ := p
      simp only at hc0 hc1 hc2 hbs hd0 hd1 hd2 hbs2
      have q0 : wr.drew.cell? ⟨b, off + k * 3, none⟩ = some (.int .i64 tag) := (hbr.cell (p := ⟨b, off + k * 3, none⟩) hbl).trans hc0
      have q1 : wr.drew.cell? ⟨b, off + k * 3 + 1, none⟩ = some (.bool cr) := (hbr.cell (p := ⟨b, off + k * 3 + 1, none⟩) hbl).trans hc1
      have q2 : wr.drew.cell? ⟨b, off + k * 3 + 2, none⟩ = some (.slice Ak nk ck) := (hbr.cell (p := ⟨b, off + k * 3 + 2, none⟩) hbl).trans hc2
      have q3 : wr.drew.cell? ⟨b2, off2 + k * 3, none⟩ = some (.int .i64 tag) := (hbr.cell (p := ⟨b2, off2 + k * 3, none⟩) hbl2).trans hd0
      have q4 : wr.drew.cell? ⟨b2, off2 + k * 3 + 1, none⟩ = some (.bool cr) := (hbr.cell (p := ⟨b2, off2 + k * 3 + 1, none⟩) hbl2).trans hd1
      have q5 : wr.drew.cell? ⟨b2, off2 + k * 3 + 2, none⟩ = some (.slice Ak2 nk2 ck2) := (hbr.cell (p := ⟨b2, off2 + k * 3 + 2, none⟩) hbl2).trans hd2
      have s1 := (hbs.below hbr).drew.str
      have s2 := (hbs2.below hbr).drew.str
      have hi0 : (0 : Int) ≤ (k : Int) := by omega
      have hi1 : (k : Int) < (ss.length : Int) := by omega
      clear hc0 hc1 hc2 hd0 hd1 hd2 hbs hbs2
      go_wp2_with fail
      go_region_held (fun w' => (w'.cell? ⟨b, off + k * 3, none⟩ = some (.int .i64 tag) ∧ w'.cell? ⟨b, off + k * 3 + 1, none⟩ = some (.bool cr) ∧ w'.cell? ⟨b, off + k * 3 + 2, none⟩ = some (.slice Ak nk ck)) ∧ (w'.cell? ⟨b2, off2 + k * 3, none⟩ = some (.int .i64 tag) ∧ w'.cell? ⟨b2, off2 + k * 3 + 1, none⟩ = some (.bool cr) ∧ w'.cell? ⟨b2, off2 + k * 3 + 2, none⟩ = some (.slice Ak2 nk2 ck2)) ∧
        (convert 22 9 (.slice Ak nk ck)).run Try.prog w' = .ok (.string (strOf body)) w' ∧ (convert 22 9 (.slice Ak2 nk2 ck2)).run Try.prog w' = .ok (.string (strOf body)) w') (exact ⟨⟨q0, q1, q2⟩, ⟨q3, q4, q5⟩, s1, s2⟩) (fail)
      go_wp2
      go_roundw
      case rel => exact ⟨k + 1, by omega, by go_num, hbr.drew⟩
      case measure => simp [intOf]; omega
    · have hke : k = ss.length := by omega
      go_wp2
      go_ret
      exact ⟨rfl, hbr⟩

/-- The first subpacket of a type: its body, and whether there is one. -/
def findS (t : Int) : List SubV → List UInt8 × Bool
  | [] => ([], false)
  | s :: ss => if s.1 = t then (s.2.2, true) else findS t ss

set_option maxRecDepth 100000 in
set_option maxHeartbeats 3200000 in
theorem Find_calls (t : Int) {A : Option Addr} {n c : Nat} {ss : List SubV} {w : World} (h : Ss w A n ss) (hn : n ≤ 9223372036854775807) (hl : ∀ s ∈ ss, s.2.2.length ≤ 100000) :
    Calls Try.prog 29 #[.slice A n c, .int .i64 t] w fun e w' => ∃ A' m' c', e = .returned (.tuple #[.slice A' m' c', .bool (findS t ss).2]) ∧ Own w' w.heap.size A' m' c' (findS t ss).1 ∧ Below w.heap.size w w' := by
  obtain rfl := h.1
  go_enter Try.func29, Try.ntmps29
  go_wp2_with fail
  go_loopw [10] (fun i wr => ∃ k : Nat, k ≤ ss.length ∧ i = .int .i64 k ∧ Below w.heap.size w wr ∧ Hid (findS t (ss.drop k) = findS t ss)) (fun i _ => ss.length - (intOf i).toNat)
  case atStart => exact ⟨0, Nat.zero_le _, rfl, Below.refl _ _, Lib.hid rfl⟩
  case round =>
    obtain ⟨k, hk, rfl, hbr, hfi⟩ := hrel
    by_cases hlt : k < ss.length
    · obtain ⟨b, off, Ak, nk, ck, hA, hbl, hc0, hc1, hc2, hbs⟩ := h.2 k hlt
      subst hA
      have hdr : ss.drop k = ss[k] :: ss.drop (k + 1) := List.drop_eq_getElem_cons hlt
      have hlk := hl (ss[k]) (List.getElem_mem hlt)
      have hf := hfi.out
      rw [hdr, findS] at hf
      generalize ss[k] = s at hc0 hc1 hc2 hbs hf hlk
      obtain ⟨ty, cr, body⟩ := s
      simp only at hc0 hc1 hc2 hbs hf hlk
      have q0 := (hbr.cell (p := ⟨b, off + k * 3, none⟩) hbl).trans hc0
      have q1 := (hbr.cell (p := ⟨b, off + k * 3 + 1, none⟩) hbl).trans hc1
      have q2 := (hbr.cell (p := ⟨b, off + k * 3 + 2, none⟩) hbl).trans hc2
      have hnk : nk ≤ 140737488355328 := by have := hbs.2; omega
      have hba := (Below.refl wr.heap.size wr).alloc (Nat.le_refl _) (.cells #[.int .i64 ty, .bool cr, .slice Ak nk ck] 78)
      have hbD := below_then hbr hbr.size hba
      have hbsD := hbs.below hbD
      clear hdr hc0 hc1 hc2
      by_cases he : ty = t
      · rw [if_pos he] at hf
        have HF := Lib.hid hf
        have hd : (ty == t) = true := by simpa using he
        clear hf he
        go_wp2_with (go_at_call 72; refine (Clone_calls hbsD hnk).mono ?_; rintro e w3 ⟨A3, c3, rfl, ho3, hb3⟩)
        go_ret2
        rw [← HF.out]
        exact ⟨_, _, _, rfl, ho3.lower hbD.size, below_then hbD hbD.size hb3⟩
      · rw [if_neg he] at hf
        have HF := Lib.hid hf
        have hd : (ty == t) = false := by simpa using he
        clear hf he
        go_wp2_with fail
        go_roundw
        case rel => exact ⟨k + 1, by omega, by go_num, hbD, Lib.hid HF.out⟩
        case measure => simp [intOf]; omega
    · have hke : k = ss.length := by omega
      have hf := hfi.out
      rw [hke, List.drop_length, findS] at hf
      have HF := Lib.hid hf
      clear hf
      go_wp2
      go_ret2
      rw [← HF.out]
      exact ⟨_, _, _, rfl, Own.nil_ _ _, hbr⟩

set_option maxRecDepth 100000 in
set_option maxHeartbeats 3200000 in
theorem rFind_calls (t : Int) {A : Option Addr} {n c : Nat} {ss : List SubV} {w : World} (h : Ss w A n ss) (hn : n ≤ 9223372036854775807) :
    Calls Try.prog 30 #[.slice A n c, .int .i64 t] w fun e w' => ∃ A' m' c', e = .returned (.tuple #[.slice A' m' c', .bool (findS t ss).2]) ∧ Bs w' A' m' c' (findS t ss).1 ∧ Below w.heap.size w w' := by
  obtain rfl := h.1
  go_enter Try.func30, Try.ntmps30
  go_wp2_with fail
  go_loopw [6] (fun i wr => ∃ k : Nat, k ≤ ss.length ∧ i = .int .i64 k ∧ Below w.heap.size w wr ∧ Hid (findS t (ss.drop k) = findS t ss)) (fun i _ => ss.length - (intOf i).toNat)
  case atStart => exact ⟨0, Nat.zero_le _, rfl, Below.refl _ _, Lib.hid rfl⟩
  case round =>
    obtain ⟨k, hk, rfl, hbr, hfi⟩ := hrel
    by_cases hlt : k < ss.length
    · obtain ⟨b, off, Ak, nk, ck, hA, hbl, hc0, hc1, hc2, hbs⟩ := h.2 k hlt
      subst hA
      have hdr : ss.drop k = ss[k] :: ss.drop (k + 1) := List.drop_eq_getElem_cons hlt
      have hf := hfi.out
      rw [hdr, findS] at hf
      generalize ss[k] = s at hc0 hc1 hc2 hbs hf
      obtain ⟨ty, cr, body⟩ := s
      simp only at hc0 hc1 hc2 hbs hf
      have q0 := (hbr.cell (p := ⟨b, off + k * 3, none⟩) hbl).trans hc0
      have q2 := (hbr.cell (p := ⟨b, off + k * 3 + 2, none⟩) hbl).trans hc2
      clear hdr hc0 hc1 hc2
      by_cases he : ty = t
      · rw [if_pos he] at hf
        have HF := Lib.hid hf
        have hd : (ty == t) = true := by simpa using he
        clear hf he
        go_wp2
        go_ret2
        rw [← HF.out]
        exact ⟨_, _, _, rfl, hbs.below hbr, hbr⟩
      · rw [if_neg he] at hf
        have HF := Lib.hid hf
        have hd : (ty == t) = false := by simpa using he
        clear hf he
        go_wp2
        go_roundw
        case rel => exact ⟨k + 1, by omega, by go_num, hbr, Lib.hid HF.out⟩
        case measure => simp [intOf]; omega
    · have hke : k = ss.length := by omega
      have hf := hfi.out
      rw [hke, List.drop_length, findS] at hf
      have HF := Lib.hid hf
      clear hf
      go_wp2
      go_ret2
      rw [← HF.out]
      exact ⟨_, _, _, rfl, Bs.nil_ _, hbr⟩

/-- The first byte of the first subpacket of a type, or -1. -/
def firstS (t : Int) (ss : List SubV) : Int := match (findS t ss).1 with | [] => -1 | x :: _ => (x.toNat : Int)

set_option maxRecDepth 100000 in
set_option maxHeartbeats 3200000 in
theorem first_calls (t : Int) {A : Option Addr} {n c : Nat} {ss : List SubV} {w : World} (h : Ss w A n ss) (hn : n ≤ 9223372036854775807) (hl : ∀ s ∈ ss, s.2.2.length ≤ 100000) :
    Calls Try.prog 76 #[.slice A n c, .int .i64 t] w fun e w' => e = .returned (.int .i64 (firstS t ss)) ∧ Below w.heap.size w w' := by
  have hF := Find_calls t (c := c) h hn hl
  have hX : firstS t ss = (match (findS t ss).1 with | [] => -1 | x :: _ => (x.toNat : Int)) := rfl
  generalize findS t ss = F at hF hX
  obtain ⟨body, ok⟩ := F
  simp only at hF hX
  have HC := Lib.hid hF
  clear hF
  cases body with
  | nil =>
    have HX := Lib.hid (show firstS t ss = -1 from hX)
    clear hX
    go_enter Try.func76, Try.ntmps76
    go_wp2_with (go_at_call 29; refine HC.out.mono ?_; rintro e w2 ⟨A2, m2, c2, rfl, ho2, hb2⟩; obtain rfl : 0 = m2 := ho2.2)
    go_ret
    exact ⟨by rw [HX.out] <;> rfl, hb2⟩
  | cons x r =>
    have HX := Lib.hid (show firstS t ss = (x.toNat : Int) from hX)
    have hx := x.toNat_lt
    clear hX
    go_enter Try.func76, Try.ntmps76
    go_wp2_with (go_at_call 29; refine HC.out.mono ?_; rintro e w2 ⟨A2, m2, c2, rfl, ho2, hb2⟩; obtain rfl : r.length + 1 = m2 := ho2.2; obtain ⟨b, off, rfl, hbl, hc⟩ := ho2.bs.byte (k := 0) (by simp); simp only [List.getElem_cons_zero, Nat.add_zero] at hc)
    go_ret
    exact ⟨by rw [HX.out] <;> rfl, hb2⟩

set_option maxRecDepth 100000 in
set_option maxHeartbeats 3200000 in
theorem Uses_calls {A : Option Addr} {n c : Nat} {ss : List SubV} {w : World} (h : Ss w A n ss) (hn : n ≤ 9223372036854775807) (hl : ∀ s ∈ ss, s.2.2.length ≤ 100000) :
    Calls Try.prog 37 #[.slice A n c] w fun e w' => e = .returned (.int .i64 (firstS 27 ss)) ∧ Below w.heap.size w w' := by
  have HC := Lib.hid (first_calls 27 (c := c) h hn hl)
  go_enter Try.func37, Try.ntmps37
  go_wp2_with (go_at_call 76; refine HC.out.mono ?_; rintro e w2 ⟨rfl, hb2⟩)
  go_ret
  exact ⟨rfl, hb2⟩
/-- Whether a signature holds for ever. -/
def hardS (ss : List SubV) : Bool := !(firstS 29 ss == 1 || firstS 29 ss == 3 || firstS 29 ss == 32)
set_option maxRecDepth 100000 in
set_option maxHeartbeats 3200000 in
theorem Hard_calls {A : Option Addr} {n c : Nat} {ss : List SubV} {w : World} (h : Ss w A n ss) (hn : n ≤ 9223372036854775807) (hl : ∀ s ∈ ss, s.2.2.length ≤ 100000) :
    Calls Try.prog 39 #[.slice A n c] w fun e w' => e = .returned (.bool (hardS ss)) ∧ Below w.heap.size w w' := by
  have hC := first_calls 29 (c := c) h hn hl
  have hH : hardS ss = !(firstS 29 ss == 1 || firstS 29 ss == 3 || firstS 29 ss == 32) := rfl
  generalize firstS 29 ss = x at hC hH
  have HC := Lib.hid hC
  clear hC
  by_cases h1 : x = 1
  · subst h1
    have HH := Lib.hid (show hardS ss = false by rw [hH]; rfl)
    clear hH
    go_enter Try.func39, Try.ntmps39
    go_wp2_with (go_at_call 76; refine HC.out.mono ?_; rintro e w2 ⟨rfl, hb2⟩)
    go_ret
    exact ⟨by rw [HH.out] <;> rfl, hb2⟩
  · by_cases h3 : x = 3
    · subst h3
      have HH := Lib.hid (show hardS ss = false by rw [hH]; rfl)
      clear hH
      go_enter Try.func39, Try.ntmps39
      go_wp2_with (go_at_call 76; refine HC.out.mono ?_; rintro e w2 ⟨rfl, hb2⟩)
      go_ret
      exact ⟨by rw [HH.out] <;> rfl, hb2⟩
    · by_cases h32 : x = 32
      · subst h32
        have HH := Lib.hid (show hardS ss = false by rw [hH]; rfl)
        clear hH
        go_enter Try.func39, Try.ntmps39
        go_wp2_with (go_at_call 76; refine HC.out.mono ?_; rintro e w2 ⟨rfl, hb2⟩)
        go_ret
        exact ⟨by rw [HH.out] <;> rfl, hb2⟩
      · have HH := Lib.hid (show hardS ss = true by rw [hH]; simp [h1, h3, h32])
        have e1 : (x == 1) = false := by simpa using h1
        have e3 : (x == 3) = false := by simpa using h3
        have e32 : (x == 32) = false := by simpa using h32
        clear hH h1 h3 h32
        go_enter Try.func39, Try.ntmps39
        go_wp2_with (go_at_call 76; refine HC.out.mono ?_; rintro e w2 ⟨rfl, hb2⟩)
        go_ret
        exact ⟨by rw [HH.out] <;> rfl, hb2⟩
end Go.Proofs.Ytegbncngencfnaa
