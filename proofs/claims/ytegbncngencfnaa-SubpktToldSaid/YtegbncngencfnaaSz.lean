/- What subpackets tell: Number, Print, and the document's Uses and Hard. -/
import Derived.Test.YtegbncngencfnaaSh
import Derived.Test.YtegbncngencfnaaSw
import Derived.Test.YtegbncngencfnaaSx
import Derived.Test.YtegbncngencfnaaSl
namespace Go.Proofs.Ytegbncngencfnaa
open Go.RowKit

/-- The four bytes' number of the first subpacket of a type. -/
def numberS (t : Int) (ss : List SubV) : Int × Bool := if (findS t ss).2 = true ∧ (findS t ss).1.length = 4 then (val (findS t ss).1, true) else (0, false)
/-- The fingerprint that subpackets tell. -/
def printF (ss : List SubV) : List UInt8 × Bool := if (findS 33 ss).2 = true ∧ printS (findS 33 ss).1 = true then ((findS 33 ss).1.drop 1, true) else ([], false)

set_option maxRecDepth 100000 in
set_option maxHeartbeats 3200000 in
theorem rNumber_calls (t : Int) {A : Option Addr} {n c : Nat} {ss : List SubV} {w : World} (h : Ss w A n ss) (hn : n ≤ 9223372036854775807) :
    Calls Try.prog 32 #[.slice A n c, .int .i64 t] w fun e w' => e = .returned (.tuple #[.int .u32 (numberS t ss).1, .bool (numberS t ss).2]) ∧ Below w.heap.size w w' := by
  have hC := rFind_calls t (c := c) h hn
  have hN : numberS t ss = if (findS t ss).2 = true ∧ (findS t ss).1.length = 4 then (val (findS t ss).1, true) else (0, false) := rfl
  generalize findS t ss = F at hC hN
  obtain ⟨body, ok⟩ := F
  simp only at hC hN
  have HC := Lib.hid hC
  clear hC
  cases ok with
  | false =>
    have HN := Lib.hid (show numberS t ss = (0, false) by rw [hN]; simp)
    clear hN
    go_enter Try.func32, Try.ntmps32
    go_wp2_with (go_at_call 30; refine HC.out.mono ?_; rintro e w2 ⟨A2, m2, c2, rfl, ho2, hb2⟩)
    go_ret2
    exact ⟨by rw [HN.out] <;> rfl, hb2⟩
  | true =>
    by_cases h4 : body.length = 4
    · have hv := val4_lt body (by omega)
      have HN := Lib.hid (show numberS t ss = (val body, true) by rw [hN]; simp [h4])
      obtain ⟨u, hu⟩ := Int.eq_ofNat_of_zero_le hv.1
      rw [hu] at HN hv
      have hw : IntKind.u32.wrap (u : Int) = (u : Int) := by rw [IntKind.wrap_u32]; omega
      have HU := Lib.hid hu
      have H4 := Lib.hid h4
      clear hN hv hu h4
      go_enter Try.func32, Try.ntmps32
      go_wp2_with (first
        | (go_at_call 30; refine HC.out.mono ?_; rintro e w2 ⟨A2, m2, c2, rfl, ho2, hb2⟩; obtain rfl : m2 = 4 := ho2.2.symm.trans H4.out; have HV := Lib.hid (Value_calls ho2); rw [HU.out] at HV)
        | (go_at_call 62; refine HV.out.mono ?_; rintro e w3 ⟨rfl, rfl⟩))
      go_ret2
      exact ⟨by rw [HN.out] <;> rfl, hb2⟩
    · have HN := Lib.hid (show numberS t ss = (0, false) by rw [hN]; simp [h4])
      have H4 := Lib.hid h4
      clear hN h4
      go_enter Try.func32, Try.ntmps32
      go_wp2_with (go_at_call 30; refine HC.out.mono ?_; rintro e w2 ⟨A2, m2, c2, rfl, ho2, hb2⟩; have hd : ((m2 : Int) != 4) = true := (by rw [bne_iff_ne]; have := ho2.2; have := H4.out; omega))
      go_ret2
      exact ⟨by rw [HN.out] <;> rfl, hb2⟩

theorem findS_no {t : Int} : ∀ {ss : List SubV}, (findS t ss).2 = false → (findS t ss).1 = []
  | [], _ => rfl
  | s :: ss, h => by
    rw [findS] at h ⊢
    split at h
    · cases h
    · rename_i hs
      rw [if_neg hs]
      exact findS_no h

set_option maxRecDepth 100000 in
set_option maxHeartbeats 3200000 in
theorem rUses_calls {A : Option Addr} {n c : Nat} {ss : List SubV} {w : World} (h : Ss w A n ss) (hn : n ≤ 9223372036854775807) :
    Calls Try.prog 38 #[.slice A n c] w fun e w' => e = .returned (.int .i64 (firstS 27 ss)) ∧ Below w.heap.size w w' := by
  have hC := rFind_calls 27 (c := c) h hn
  have hno := findS_no (t := 27) (ss := ss)
  have hX : firstS 27 ss = (match (findS 27 ss).1 with | [] => -1 | x :: _ => (x.toNat : Int)) := rfl
  generalize findS 27 ss = F at hC hX hno
  obtain ⟨body, ok⟩ := F
  simp only at hC hX hno
  have HC := Lib.hid hC
  clear hC
  cases body with
  | nil =>
    have HX := Lib.hid (show firstS 27 ss = -1 from hX)
    clear hX hno
    cases ok
    all_goals
      go_enter Try.func38, Try.ntmps38
      go_wp2_with (go_at_call 30; refine HC.out.mono ?_; rintro e w2 ⟨A2, m2, c2, rfl, ho2, hb2⟩; obtain rfl : 0 = m2 := ho2.2)
      go_ret
      exact ⟨by rw [HX.out] <;> rfl, hb2⟩
  | cons x r =>
    have HX := Lib.hid (show firstS 27 ss = (x.toNat : Int) from hX)
    obtain rfl : ok = true := by cases ok with | true => rfl | false => exact absurd (hno rfl) (by simp)
    have hx := x.toNat_lt
    clear hX hno
    go_enter Try.func38, Try.ntmps38
    go_wp2_with (go_at_call 30; refine HC.out.mono ?_; rintro e w2 ⟨A2, m2, c2, rfl, ho2, hb2⟩; obtain rfl : r.length + 1 = m2 := ho2.2; obtain ⟨b, off, rfl, hbl, hc⟩ := ho2.byte (k := 0) (by simp); simp only [List.getElem_cons_zero, Nat.add_zero] at hc)
    go_ret
    exact ⟨by rw [HX.out] <;> rfl, hb2⟩

set_option maxRecDepth 100000 in
set_option maxHeartbeats 3200000 in
theorem rHard_calls {A : Option Addr} {n c : Nat} {ss : List SubV} {w : World} (h : Ss w A n ss) (hn : n ≤ 9223372036854775807) :
    Calls Try.prog 40 #[.slice A n c] w fun e w' => e = .returned (.bool (hardS ss)) ∧ Below w.heap.size w w' := by
  have hC := rFind_calls 29 (c := c) h hn
  have hno := findS_no (t := 29) (ss := ss)
  have hX : firstS 29 ss = (match (findS 29 ss).1 with | [] => -1 | x :: _ => (x.toNat : Int)) := rfl
  have hH : hardS ss = !(firstS 29 ss == 1 || firstS 29 ss == 3 || firstS 29 ss == 32) := rfl
  generalize firstS 29 ss = y at hX hH
  generalize findS 29 ss = F at hC hX hno
  obtain ⟨body, ok⟩ := F
  simp only at hC hX hno
  have HC := Lib.hid hC
  clear hC
  cases body with
  | nil =>
    have HH := Lib.hid (show hardS ss = true by rw [hH, hX]; rfl)
    clear hX hno hH
    cases ok
    all_goals
      go_enter Try.func40, Try.ntmps40
      go_wp2_with (go_at_call 30; refine HC.out.mono ?_; rintro e w2 ⟨A2, m2, c2, rfl, ho2, hb2⟩; obtain rfl : 0 = m2 := ho2.2)
      go_ret
      exact ⟨by rw [HH.out] <;> rfl, hb2⟩
  | cons x r =>
    obtain rfl : ok = true := by cases ok with | true => rfl | false => exact absurd (hno rfl) (by simp)
    obtain ⟨v, hv⟩ : ∃ v, x.toNat = v := ⟨_, rfl⟩
    simp only [hv] at hX
    subst hX
    have HV := Lib.hid hv
    clear hno hv
    by_cases h1 : v = 1
    · subst h1
      have HH := Lib.hid (show hardS ss = false by rw [hH]; rfl)
      clear hH
      go_enter Try.func40, Try.ntmps40
      go_wp2_with (go_at_call 30; refine HC.out.mono ?_; rintro e w2 ⟨A2, m2, c2, rfl, ho2, hb2⟩; obtain rfl : r.length + 1 = m2 := ho2.2; obtain ⟨b, off, rfl, hbl, hc⟩ := ho2.byte (k := 0) (by simp); simp only [List.getElem_cons_zero, Nat.add_zero, HV.out] at hc)
      go_ret
      exact ⟨by rw [HH.out] <;> rfl, hb2⟩
    · have n1 : ((v : Int) != 1) = true := by rw [bne_iff_ne]; omega
      by_cases h3 : v = 3
      · subst h3
        have HH := Lib.hid (show hardS ss = false by rw [hH]; rfl)
        clear hH
        go_enter Try.func40, Try.ntmps40
        go_wp2_with (go_at_call 30; refine HC.out.mono ?_; rintro e w2 ⟨A2, m2, c2, rfl, ho2, hb2⟩; obtain rfl : r.length + 1 = m2 := ho2.2; obtain ⟨b, off, rfl, hbl, hc⟩ := ho2.byte (k := 0) (by simp); simp only [List.getElem_cons_zero, Nat.add_zero, HV.out] at hc)
        go_ret
        exact ⟨by rw [HH.out] <;> rfl, hb2⟩
      · have n3 : ((v : Int) != 3) = true := by rw [bne_iff_ne]; omega
        by_cases h32 : v = 32
        · subst h32
          have HH := Lib.hid (show hardS ss = false by rw [hH]; rfl)
          clear hH
          go_enter Try.func40, Try.ntmps40
          go_wp2_with (go_at_call 30; refine HC.out.mono ?_; rintro e w2 ⟨A2, m2, c2, rfl, ho2, hb2⟩; obtain rfl : r.length + 1 = m2 := ho2.2; obtain ⟨b, off, rfl, hbl, hc⟩ := ho2.byte (k := 0) (by simp); simp only [List.getElem_cons_zero, Nat.add_zero, HV.out] at hc)
          go_ret
          exact ⟨by rw [HH.out] <;> rfl, hb2⟩
        · have n32 : ((v : Int) != 32) = true := by rw [bne_iff_ne]; omega
          have HH := Lib.hid (show hardS ss = true by rw [hH]; simp; omega)
          clear hH h1 h3 h32
          go_enter Try.func40, Try.ntmps40
          go_wp2_with (go_at_call 30; refine HC.out.mono ?_; rintro e w2 ⟨A2, m2, c2, rfl, ho2, hb2⟩; obtain rfl : r.length + 1 = m2 := ho2.2; obtain ⟨b, off, rfl, hbl, hc⟩ := ho2.byte (k := 0) (by simp); simp only [List.getElem_cons_zero, Nat.add_zero, HV.out] at hc)
          go_ret
          exact ⟨by rw [HH.out] <;> rfl, hb2⟩

set_option maxRecDepth 100000 in
set_option maxHeartbeats 3200000 in
theorem Number21_calls (t : Int) {A : Option Addr} {n c : Nat} {ss : List SubV} {w : World} (h : Ss w A n ss) (hn : n ≤ 9223372036854775807) (hl : ∀ s ∈ ss, s.2.2.length ≤ 100000) :
    Calls Try.prog 31 #[.slice A n c, .int .i64 t] w fun e w' => e = .returned (.tuple #[.int .u32 (numberS t ss).1, .bool (numberS t ss).2]) ∧ Below w.heap.size w w' := by
  have hC := Find_calls t (c := c) h hn hl
  have hN : numberS t ss = if (findS t ss).2 = true ∧ (findS t ss).1.length = 4 then (val (findS t ss).1, true) else (0, false) := rfl
  generalize findS t ss = F at hC hN
  obtain ⟨body, ok⟩ := F
  simp only at hC hN
  have HC := Lib.hid hC
  clear hC
  cases ok with
  | false =>
    have HN := Lib.hid (show numberS t ss = (0, false) by rw [hN]; simp)
    clear hN
    go_enter Try.func31, Try.ntmps31
    go_wp2_with (go_at_call 29; refine HC.out.mono ?_; rintro e w2 ⟨A2, m2, c2, rfl, ho2, hb2⟩)
    go_ret2
    exact ⟨by rw [HN.out] <;> rfl, hb2⟩
  | true =>
    by_cases h4 : body.length = 4
    · have hv := val4_lt body (by omega)
      have HN := Lib.hid (show numberS t ss = (val body, true) by rw [hN]; simp [h4])
      have hq : numS body 0 4 = (val body, 0, 4) := by
        have := numS_four (l := body) (a := 0) (by omega)
        rw [List.drop_zero, List.take_of_length_le (by omega)] at this
        exact this
      obtain ⟨u, hu⟩ := Int.eq_ofNat_of_zero_le hv.1
      rw [hu] at HN hv hq
      have hw : IntKind.u32.wrap (u : Int) = (u : Int) := by rw [IntKind.wrap_u32]; omega
      have H4 := Lib.hid h4
      have HQ := Lib.hid hq
      clear hN hv hu h4 hq
      go_enter Try.func31, Try.ntmps31
      go_wp2_with (first
        | (go_at_call 29; refine HC.out.mono ?_; rintro e w2 ⟨A2, m2, c2, rfl, ho2, hb2⟩; obtain rfl : m2 = 4 := ho2.2.symm.trans H4.out)
        | (go_at_call 51; refine (Over_calls ho2.bs (by omega)).mono ?_; rintro e w3 ⟨g, rfl, hg, hcu, hb3⟩; have hB3 := below_then hb2 hb2.size hb3; have HM := Lib.hid (Number_any hcu 4); rw [HQ.out] at HM; have hgw : w.heap.size ≤ g := Nat.le_trans hb2.size hg)
        | (go_at_call 73; refine HM.out.mono ?_; rintro e w4 ⟨rfl, hc4, hg4⟩))
      go_ret2
      exact ⟨by rw [HN.out] <;> rfl, hB3.grown hg4 hB3.size (fun k e => by cases e; exact hgw)⟩
    · have HN := Lib.hid (show numberS t ss = (0, false) by rw [hN]; simp [h4])
      have H4 := Lib.hid h4
      clear hN h4
      go_enter Try.func31, Try.ntmps31
      go_wp2_with (go_at_call 29; refine HC.out.mono ?_; rintro e w2 ⟨A2, m2, c2, rfl, ho2, hb2⟩; have hd : ((m2 : Int) != 4) = true := (by rw [bne_iff_ne]; have := ho2.2; have := H4.out; omega))
      go_ret2
      exact ⟨by rw [HN.out] <;> rfl, hb2⟩

set_option maxRecDepth 100000 in
set_option maxHeartbeats 3200000 in
theorem Print_calls {A : Option Addr} {n c : Nat} {ss : List SubV} {w : World} (h : Ss w A n ss) (hn : n ≤ 9223372036854775807) (hl : ∀ s ∈ ss, s.2.2.length ≤ 100000) :
    Calls Try.prog 33 #[.slice A n c] w fun e w' => ∃ A' m' c', e = .returned (.tuple #[.slice A' m' c', .bool (printF ss).2]) ∧ Bs w' A' m' c' (printF ss).1 ∧ Below w.heap.size w w' := by
  have hC := Find_calls 33 (c := c) h hn hl
  have hN : printF ss = if (findS 33 ss).2 = true ∧ printS (findS 33 ss).1 = true then ((findS 33 ss).1.drop 1, true) else ([], false) := rfl
  generalize findS 33 ss = F at hC hN
  obtain ⟨body, ok⟩ := F
  simp only at hC hN
  have HC := Lib.hid hC
  clear hC
  obtain ⟨q, hq⟩ : ∃ q, printS body = q := ⟨_, rfl⟩
  have HP := Lib.hid hq
  have hpn : printS body = true → body ≠ [] := fun e e2 => by subst e2; cases e
  rw [hq] at hN hpn
  cases ok with
  | false =>
    have HN := Lib.hid (show printF ss = ([], false) by rw [hN]; simp)
    clear hN hq hpn
    cases q
    all_goals
      go_enter Try.func33, Try.ntmps33
      go_wp2_with (first
        | (go_at_call 29; refine HC.out.mono ?_; rintro e w2 ⟨A2, m2, c2, rfl, ho2, hb2⟩)
        | (go_at_call 74; refine (isPrint_calls ho2.bs).mono ?_; rw [HP.out]; rintro e w3 ⟨rfl, rfl⟩))
      go_ret2
      rw [HN.out]
      exact ⟨_, _, _, rfl, Bs.nil_ _, hb2⟩
  | true =>
    cases q with
    | false =>
      have HN := Lib.hid (show printF ss = ([], false) by rw [hN]; simp)
      clear hN hq hpn
      go_enter Try.func33, Try.ntmps33
      go_wp2_with (first
        | (go_at_call 29; refine HC.out.mono ?_; rintro e w2 ⟨A2, m2, c2, rfl, ho2, hb2⟩)
        | (go_at_call 74; refine (isPrint_calls ho2.bs).mono ?_; rw [HP.out]; rintro e w3 ⟨rfl, rfl⟩))
      go_ret2
      rw [HN.out]
      exact ⟨_, _, _, rfl, Bs.nil_ _, hb2⟩
    | true =>
      have HN := Lib.hid (show printF ss = (body.drop 1, true) by rw [hN]; simp)
      have HL := Lib.hid (List.length_pos_iff.2 (hpn rfl))
      clear hN hq hpn
      go_enter Try.func33, Try.ntmps33
      go_wp2_with (first
        | (go_at_call 29; refine HC.out.mono ?_; rintro e w2 ⟨A2, m2, c2, rfl, ho2, hb2⟩; have h1m : 1 ≤ m2 := (by have := (ho2.bs).2; have := HL.out; omega); have hfr := (ho2.bs).from_ (k := 1) h1m; have hsl := fun W => slice_from A2 m2 c2 1 h1m 1 rfl W; generalize (if c2 = 1 then A2 else A2.map (·.add 1)) = A3 at hfr hsl)
        | (go_at_call 74; refine (isPrint_calls ho2.bs).mono ?_; rw [HP.out]; rintro e w3 ⟨rfl, rfl⟩))
      go_ret2
      rw [HN.out]
      exact ⟨_, _, _, rfl, hfr, hb2⟩

set_option maxRecDepth 100000 in
set_option maxHeartbeats 3200000 in
theorem rPrint_calls {A : Option Addr} {n c : Nat} {ss : List SubV} {w : World} (h : Ss w A n ss) (hn : n ≤ 9223372036854775807) :
    Calls Try.prog 34 #[.slice A n c] w fun e w' => ∃ A' m' c', e = .returned (.tuple #[.slice A' m' c', .bool (printF ss).2]) ∧ Bs w' A' m' c' (printF ss).1 ∧ Below w.heap.size w w' := by
  have hC := rFind_calls 33 (c := c) h hn
  have hN : printF ss = if (findS 33 ss).2 = true ∧ printS (findS 33 ss).1 = true then ((findS 33 ss).1.drop 1, true) else ([], false) := rfl
  generalize findS 33 ss = F at hC hN
  obtain ⟨body, ok⟩ := F
  simp only at hC hN
  have HC := Lib.hid hC
  clear hC
  have hm : maySv 33 body = (true, printS body) := by simp [maySv]
  have HM := Lib.hid hm
  have hpn : printS body = true → body ≠ [] := fun e e2 => by subst e2; cases e
  generalize printS body = q at hN HM hpn hm
  cases ok with
  | false =>
    have HN := Lib.hid (show printF ss = ([], false) by rw [hN]; simp)
    clear hN hm hpn
    cases q
    all_goals
      go_enter Try.func34, Try.ntmps34
      go_wp2_with (first
        | (go_at_call 30; refine HC.out.mono ?_; rintro e w2 ⟨A2, m2, c2, rfl, ho2, hb2⟩)
        | (go_at_call 75; refine (rmay_calls 33 false ho2).mono ?_; rw [HM.out]; rintro e w3 ⟨rfl, hb3⟩))
      go_ret2
      rw [HN.out]
      exact ⟨_, _, _, rfl, Bs.nil_ _, below_then hb2 hb2.size hb3⟩
  | true =>
    cases q with
    | false =>
      have HN := Lib.hid (show printF ss = ([], false) by rw [hN]; simp)
      clear hN hm hpn
      go_enter Try.func34, Try.ntmps34
      go_wp2_with (first
        | (go_at_call 30; refine HC.out.mono ?_; rintro e w2 ⟨A2, m2, c2, rfl, ho2, hb2⟩)
        | (go_at_call 75; refine (rmay_calls 33 false ho2).mono ?_; rw [HM.out]; rintro e w3 ⟨rfl, hb3⟩))
      go_ret2
      rw [HN.out]
      exact ⟨_, _, _, rfl, Bs.nil_ _, below_then hb2 hb2.size hb3⟩
    | true =>
      have HN := Lib.hid (show printF ss = (body.drop 1, true) by rw [hN]; simp)
      have HL := Lib.hid (List.length_pos_iff.2 (hpn rfl))
      clear hN hm hpn
      go_enter Try.func34, Try.ntmps34
      go_wp2_with (first
        | (go_at_call 30; refine HC.out.mono ?_; rintro e w2 ⟨A2, m2, c2, rfl, ho2, hb2⟩; have h1m : 1 ≤ m2 := (by have := (ho2).2; have := HL.out; omega); have hfr := (ho2).from_ (k := 1) h1m; have hsl := fun W => slice_from A2 m2 c2 1 h1m 1 rfl W; generalize (if c2 = 1 then A2 else A2.map (·.add 1)) = A3 at hfr hsl)
        | (go_at_call 75; refine (rmay_calls 33 false ho2).mono ?_; rw [HM.out]; rintro e w3 ⟨rfl, hb3⟩))
      go_ret2
      rw [HN.out]
      exact ⟨_, _, _, rfl, hfr.below hb3, below_then hb2 hb2.size hb3⟩
end Go.Proofs.Ytegbncngencfnaa
