import Derived.Test.YtjbnoamoadaknaaYSigTold20
import Derived.Test.YtjbnoamoadaknaaYSigTold25
import Derived.Test.YtjbnoamoadaknaaYSigTold10
import Derived.Test.YtjbnoamoadaknaaYSigTold11
import Derived.Test.YtjbnoamoadaknaaYSigTold5
import Derived.Test.YtjbnoamoadaknaaYSigTold18
/- What subpackets tell: Number, Print, and the document's Uses and Hard. -/
section
namespace Go.Proofs.Ytjbnoamoadaknaa
open Go.RowKit

/-- The four bytes' number of the first subpacket of a type. -/
def numberS (t : Int) (ss : List SubV) : Int × Bool := if (findS t ss).2 = true ∧ (findS t ss).1.length = 4 then (val (findS t ss).1, true) else (0, false)
/-- The fingerprint that subpackets tell. -/
def printF (ss : List SubV) : List UInt8 × Bool := if (findS 33 ss).2 = true ∧ printS (findS 33 ss).1 = true then ((findS 33 ss).1.drop 1, true) else ([], false)

set_option maxRecDepth 100000 in
set_option maxHeartbeats 3200000 in
theorem rNumber_calls (t : Int) {A : Option Addr} {n c : Nat} {ss : List SubV} {w : World} (h : Ss w A n ss) (hn : n ≤ 9223372036854775807) :
    Calls Try.prog 45 #[.slice A n c, .int .i64 t] w fun e w' => e = .returned (.tuple #[.int .u32 (numberS t ss).1, .bool (numberS t ss).2]) ∧ Below w.heap.size w w' := by
  have hC := rFind_calls t (c := c) h hn
  have hN : numberS t ss = if (findS t ss).2 = true ∧ (findS t ss).1.length = 4 then (val (findS t ss).1, true) else (0, false) := rfl
  generalize findS t ss = F at hC hN
  obtain ⟨body, ok⟩ := F
  simp only at hC hN
  have HC := Lib.hid hC
  clear hC
  cases ok with
  | false =>
    have HN := Lib.hid (show numberS t ss = (0, false) by rw [hN]; simp)
    clear hN
    go_enter Try.func45, Try.ntmps45
    go_wp2_with (go_at_call 50; refine HC.out.mono ?_; rintro e w2 ⟨A2, m2, c2, rfl, ho2, hb2⟩)
    go_ret2
    exact ⟨by rw [HN.out] <;> rfl, hb2⟩
  | true =>
    by_cases h4 : body.length = 4
    · have hv := val4_lt body (by omega)
      have HN := Lib.hid (show numberS t ss = (val body, true) by rw [hN]; simp [h4])
      obtain ⟨u, hu⟩ := Int.eq_ofNat_of_zero_le hv.1
      rw [hu] at HN hv
      have hw : IntKind.u32.wrap (u : Int) = (u : Int) := by rw [IntKind.wrap_u32]; omega
      have HU := Lib.hid hu
      have H4 := Lib.hid h4
      clear hN hv hu h4
      go_enter Try.func45, Try.ntmps45
      go_wp2_with (first
        | (go_at_call 50; refine HC.out.mono ?_; rintro e w2 ⟨A2, m2, c2, rfl, ho2, hb2⟩; obtain rfl : m2 = 4 := ho2.2.symm.trans H4.out; have HV := Lib.hid (Value_calls ho2); rw [HU.out] at HV)
        | (go_at_call 75; refine HV.out.mono ?_; rintro e w3 ⟨rfl, rfl⟩))
      go_ret2
      exact ⟨by rw [HN.out] <;> rfl, hb2⟩
    · have HN := Lib.hid (show numberS t ss = (0, false) by rw [hN]; simp [h4])
      have H4 := Lib.hid h4
      clear hN h4
      go_enter Try.func45, Try.ntmps45
      go_wp2_with (go_at_call 50; refine HC.out.mono ?_; rintro e w2 ⟨A2, m2, c2, rfl, ho2, hb2⟩; have hd : ((m2 : Int) != 4) = true := (by rw [bne_iff_ne]; have := ho2.2; have := H4.out; omega))
      go_ret2
      exact ⟨by rw [HN.out] <;> rfl, hb2⟩

theorem findS_no {t : Int} : ∀ {ss : List SubV}, (findS t ss).2 = false → (findS t ss).1 = []
  | [], _ => rfl
  | s :: ss, h => by
    rw [findS] at h ⊢
    split at h
    · cases h
    · rename_i hs
      rw [if_neg hs]
      exact findS_no h

set_option maxRecDepth 100000 in
set_option maxHeartbeats 3200000 in
theorem Number21_calls (t : Int) {A : Option Addr} {n c : Nat} {ss : List SubV} {w : World} (h : Ss w A n ss) (hn : n ≤ 9223372036854775807) (hl : ∀ s ∈ ss, s.2.2.length ≤ 100000) :
    Calls Try.prog 44 #[.slice A n c, .int .i64 t] w fun e w' => e = .returned (.tuple #[.int .u32 (numberS t ss).1, .bool (numberS t ss).2]) ∧ Below w.heap.size w w' := by
  have hC := Find_calls t (c := c) h hn hl
  have hN : numberS t ss = if (findS t ss).2 = true ∧ (findS t ss).1.length = 4 then (val (findS t ss).1, true) else (0, false) := rfl
  generalize findS t ss = F at hC hN
  obtain ⟨body, ok⟩ := F
  simp only at hC hN
  have HC := Lib.hid hC
  clear hC
  cases ok with
  | false =>
    have HN := Lib.hid (show numberS t ss = (0, false) by rw [hN]; simp)
    clear hN
    go_enter Try.func44, Try.ntmps44
    go_wp2_with (go_at_call 74; refine HC.out.mono ?_; rintro e w2 ⟨A2, m2, c2, rfl, ho2, hb2⟩)
    go_ret2
    exact ⟨by rw [HN.out] <;> rfl, hb2⟩
  | true =>
    by_cases h4 : body.length = 4
    · have hv := val4_lt body (by omega)
      have HN := Lib.hid (show numberS t ss = (val body, true) by rw [hN]; simp [h4])
      have hq : numS body 0 4 = (val body, 0, 4) := by
        have := numS_four (l := body) (a := 0) (by omega)
        rw [List.drop_zero, List.take_of_length_le (by omega)] at this
        exact this
      obtain ⟨u, hu⟩ := Int.eq_ofNat_of_zero_le hv.1
      rw [hu] at HN hv hq
      have hw : IntKind.u32.wrap (u : Int) = (u : Int) := by rw [IntKind.wrap_u32]; omega
      have H4 := Lib.hid h4
      have HQ := Lib.hid hq
      clear hN hv hu h4 hq
      go_enter Try.func44, Try.ntmps44
      go_wp2_with (first
        | (go_at_call 74; refine HC.out.mono ?_; rintro e w2 ⟨A2, m2, c2, rfl, ho2, hb2⟩; obtain rfl : m2 = 4 := ho2.2.symm.trans H4.out)
        | (go_at_call 23; refine (Over_calls ho2.bs (by omega)).mono ?_; rintro e w3 ⟨g, rfl, hg, hcu, hb3⟩; have hB3 := below_then hb2 hb2.size hb3; have HM := Lib.hid (Number_any hcu 4); rw [HQ.out] at HM; have hgw : w.heap.size ≤ g := Nat.le_trans hb2.size hg)
        | (go_at_call 52; refine HM.out.mono ?_; rintro e w4 ⟨rfl, hc4, hg4⟩))
      go_ret2
      exact ⟨by rw [HN.out] <;> rfl, hB3.grown hg4 hB3.size (fun k e => by cases e; exact hgw)⟩
    · have HN := Lib.hid (show numberS t ss = (0, false) by rw [hN]; simp [h4])
      have H4 := Lib.hid h4
      clear hN h4
      go_enter Try.func44, Try.ntmps44
      go_wp2_with (go_at_call 74; refine HC.out.mono ?_; rintro e w2 ⟨A2, m2, c2, rfl, ho2, hb2⟩; have hd : ((m2 : Int) != 4) = true := (by rw [bne_iff_ne]; have := ho2.2; have := H4.out; omega))
      go_ret2
      exact ⟨by rw [HN.out] <;> rfl, hb2⟩

end Go.Proofs.Ytjbnoamoadaknaa
end

/- When a signature was made and when it ends, both sides. -/
section
namespace Go.Proofs.Ytjbnoamoadaknaa
open Go.RowKit

def madeG (s : SigV) : Int × Bool := (IntKind.u64.wrap (numberS 2 s.hs).1, (numberS 2 s.hs).2)
def endsG (s : SigV) : Int × Bool := if (madeG s).2 = false ∨ (numberS 3 s.hs).2 = false ∨ (numberS 3 s.hs).1 = 0 then (0, false) else (IntKind.u64.wrap ((madeG s).1 + IntKind.u64.wrap (numberS 3 s.hs).1), true)

set_option maxRecDepth 100000 in
set_option maxHeartbeats 1600000 in
theorem Made_calls {s : SigV} {a : SigA} {w : World} (h : SigR w s a) (m4 : a.n4 ≤ 9223372036854775807) (b4 : ∀ x ∈ s.hs, x.2.2.length ≤ 100000) :
    Calls Try.prog 17 #[.agg (sigC s a)] w fun e w' => e = .returned (.tuple #[.int .u64 (madeG s).1, .bool (madeG s).2]) ∧ Below w.heap.size w w' := by
  have HN := Lib.hid (fun W (hW : Below w.heap.size w W) => Number21_calls 2 (c := a.c4) (h.h4.below hW) m4 b4)
  have hM : madeG s = (IntKind.u64.wrap (numberS 2 s.hs).1, (numberS 2 s.hs).2) := rfl
  generalize numberS 2 s.hs = x at HN hM
  obtain ⟨y, ok⟩ := x
  simp only at HN hM
  rw [hM]
  go_enter Try.func17, Try.ntmps17
  go_upto_region 1 with fail
  go_name_world w1 hw1
  have H1 : Box w w1 27 (sigC s a) := Box.mk_ hw1
  have k4 : w1.cell? ⟨w.heap.size, 4, none⟩ = some (.slice a.A4 a.n4 a.c4) := H1.cell 4
  clear hw1
  go_wp2_with (go_at_call 44; refine (HN.out _ H1.B).mono ?_; rintro e w2 ⟨rfl, hb2⟩)
  go_ret2
  exact ⟨rfl, below_then H1.B H1.B.size hb2⟩

set_option maxRecDepth 100000 in
set_option maxHeartbeats 1600000 in
theorem rMade_calls {s : SigV} {a : SigA} {w : World} (h : SigR w s a) (m4 : a.n4 ≤ 9223372036854775807) :
    Calls Try.prog 18 #[.agg (sigC s a)] w fun e w' => e = .returned (.tuple #[.int .u64 (madeG s).1, .bool (madeG s).2]) ∧ Below w.heap.size w w' := by
  have HN := Lib.hid (fun W (hW : Below w.heap.size w W) => rNumber_calls 2 (c := a.c4) (h.h4.below hW) m4)
  have hM : madeG s = (IntKind.u64.wrap (numberS 2 s.hs).1, (numberS 2 s.hs).2) := rfl
  generalize numberS 2 s.hs = x at HN hM
  obtain ⟨y, ok⟩ := x
  simp only at HN hM
  rw [hM]
  go_enter Try.func18, Try.ntmps18
  go_upto_region 1 with fail
  go_name_world w1 hw1
  have H1 : Box w w1 27 (sigC s a) := Box.mk_ hw1
  have k4 : w1.cell? ⟨w.heap.size, 4, none⟩ = some (.slice a.A4 a.n4 a.c4) := H1.cell 4
  clear hw1
  go_wp2_with (go_at_call 45; refine (HN.out _ H1.B).mono ?_; rintro e w2 ⟨rfl, hb2⟩)
  go_ret2
  exact ⟨rfl, below_then H1.B H1.B.size hb2⟩

set_option maxRecDepth 100000 in
set_option maxHeartbeats 1600000 in
theorem Ends_calls {s : SigV} {a : SigA} {w : World} (h : SigR w s a) (m4 : a.n4 ≤ 9223372036854775807) (b4 : ∀ x ∈ s.hs, x.2.2.length ≤ 100000) :
    Calls Try.prog 19 #[.agg (sigC s a)] w fun e w' => e = .returned (.tuple #[.int .u64 (endsG s).1, .bool (endsG s).2]) ∧ Below w.heap.size w w' := by
  have HN := Lib.hid (fun W (hW : Below w.heap.size w W) => Number21_calls 3 (c := a.c4) (h.h4.below hW) m4 b4)
  have HM := Lib.hid (fun W (hW : Below w.heap.size w W) => Made_calls (h.below hW) m4 b4)
  have hM : endsG s = if (madeG s).2 = false ∨ (numberS 3 s.hs).2 = false ∨ (numberS 3 s.hs).1 = 0 then (0, false) else (IntKind.u64.wrap ((madeG s).1 + IntKind.u64.wrap (numberS 3 s.hs).1), true) := rfl
  generalize numberS 3 s.hs = x at HN hM
  generalize madeG s = z at HM hM
  obtain ⟨y, ok⟩ := x
  obtain ⟨v, is⟩ := z
  simp only at HN hM HM
  have HE := Lib.hid hM
  clear hM
  go_enter Try.func19, Try.ntmps19
  go_upto_region 1 with fail
  go_name_world w1 hw1
  have H1 : Box w w1 27 (sigC s a) := Box.mk_ hw1
  have k0 : w1.cell? ⟨w.heap.size, 0, none⟩ = some (.int .i64 s.ve) := H1.cell 0
  have k1 : w1.cell? ⟨w.heap.size, 1, none⟩ = some (.int .i64 s.ty) := H1.cell 1
  have k2 : w1.cell? ⟨w.heap.size, 2, none⟩ = some (.int .i64 s.pu) := H1.cell 2
  have k3 : w1.cell? ⟨w.heap.size, 3, none⟩ = some (.int .i64 s.ha) := H1.cell 3
  have k4 : w1.cell? ⟨w.heap.size, 4, none⟩ = some (.slice a.A4 a.n4 a.c4) := H1.cell 4
  have k5 : w1.cell? ⟨w.heap.size, 5, none⟩ = some (.slice a.A5 a.n5 a.c5) := H1.cell 5
  have k6 : w1.cell? ⟨w.heap.size, 6, none⟩ = some (.int .u8 (s.l0.toNat : Int)) := H1.cell 6
  have k7 : w1.cell? ⟨w.heap.size, 7, none⟩ = some (.int .u8 (s.l1.toNat : Int)) := H1.cell 7
  have k8 : w1.cell? ⟨w.heap.size, 8, none⟩ = some (.slice a.A8 a.n8 a.c8) := H1.cell 8
  have k9 : w1.cell? ⟨w.heap.size, 9, none⟩ = some (.slice a.A9 a.n9 a.c9) := H1.cell 9
  clear hw1
  go_wp2_with fail
  refine (HM.out _ H1.B).mono ?_
  rintro e w2 ⟨rfl, hb2⟩
  have H2 := H1.below hb2
  have k4 : w2.cell? ⟨w.heap.size, 4, none⟩ = some (.slice a.A4 a.n4 a.c4) := H2.cell 4
  clear H1 hb2 k0 k1 k2 k3 k5 k6 k7 k8 k9
  go_wp2_with fail
  refine (HN.out _ H2.B).mono ?_
  rintro e w3 ⟨rfl, hb3⟩
  have HB := Lib.hid (below_then H2.B H2.B.size hb3)
  clear H2 hb3 k4
  cases is with
  | false => go_wp2; go_ret2; exact ⟨by rw [HE.out] <;> simp, HB.out⟩
  | true =>
    cases ok with
    | false => go_wp2; go_ret2; exact ⟨by rw [HE.out] <;> simp, HB.out⟩
    | true =>
      by_cases hy : y = 0
      · subst hy; go_wp2; go_ret2; exact ⟨by rw [HE.out] <;> simp, HB.out⟩
      · have HY := Lib.hid (show endsG s = (IntKind.u64.wrap (v + IntKind.u64.wrap y), true) by rw [HE.out]; simp [hy])
        go_wp2; go_ret2; exact ⟨by rw [HY.out] <;> rfl, HB.out⟩

set_option maxRecDepth 100000 in
set_option maxHeartbeats 1600000 in
theorem rEnds_calls {s : SigV} {a : SigA} {w : World} (h : SigR w s a) (m4 : a.n4 ≤ 9223372036854775807) :
    Calls Try.prog 20 #[.agg (sigC s a)] w fun e w' => e = .returned (.tuple #[.int .u64 (endsG s).1, .bool (endsG s).2]) ∧ Below w.heap.size w w' := by
  have HN := Lib.hid (fun W (hW : Below w.heap.size w W) => rNumber_calls 3 (c := a.c4) (h.h4.below hW) m4)
  have HM := Lib.hid (fun W (hW : Below w.heap.size w W) => rMade_calls (h.below hW) m4)
  have hM : endsG s = if (madeG s).2 = false ∨ (numberS 3 s.hs).2 = false ∨ (numberS 3 s.hs).1 = 0 then (0, false) else (IntKind.u64.wrap ((madeG s).1 + IntKind.u64.wrap (numberS 3 s.hs).1), true) := rfl
  generalize numberS 3 s.hs = x at HN hM
  generalize madeG s = z at HM hM
  obtain ⟨y, ok⟩ := x
  obtain ⟨v, is⟩ := z
  simp only at HN hM HM
  have HE := Lib.hid hM
  clear hM
  go_enter Try.func20, Try.ntmps20
  go_upto_region 1 with fail
  go_name_world w1 hw1
  have H1 : Box w w1 27 (sigC s a) := Box.mk_ hw1
  have k0 : w1.cell? ⟨w.heap.size, 0, none⟩ = some (.int .i64 s.ve) := H1.cell 0
  have k1 : w1.cell? ⟨w.heap.size, 1, none⟩ = some (.int .i64 s.ty) := H1.cell 1
  have k2 : w1.cell? ⟨w.heap.size, 2, none⟩ = some (.int .i64 s.pu) := H1.cell 2
  have k3 : w1.cell? ⟨w.heap.size, 3, none⟩ = some (.int .i64 s.ha) := H1.cell 3
  have k4 : w1.cell? ⟨w.heap.size, 4, none⟩ = some (.slice a.A4 a.n4 a.c4) := H1.cell 4
  have k5 : w1.cell? ⟨w.heap.size, 5, none⟩ = some (.slice a.A5 a.n5 a.c5) := H1.cell 5
  have k6 : w1.cell? ⟨w.heap.size, 6, none⟩ = some (.int .u8 (s.l0.toNat : Int)) := H1.cell 6
  have k7 : w1.cell? ⟨w.heap.size, 7, none⟩ = some (.int .u8 (s.l1.toNat : Int)) := H1.cell 7
  have k8 : w1.cell? ⟨w.heap.size, 8, none⟩ = some (.slice a.A8 a.n8 a.c8) := H1.cell 8
  have k9 : w1.cell? ⟨w.heap.size, 9, none⟩ = some (.slice a.A9 a.n9 a.c9) := H1.cell 9
  clear hw1
  go_wp2_with fail
  refine (HM.out _ H1.B).mono ?_
  rintro e w2 ⟨rfl, hb2⟩
  have H2 := H1.below hb2
  have k4 : w2.cell? ⟨w.heap.size, 4, none⟩ = some (.slice a.A4 a.n4 a.c4) := H2.cell 4
  clear H1 hb2 k0 k1 k2 k3 k5 k6 k7 k8 k9
  go_wp2_with fail
  refine (HN.out _ H2.B).mono ?_
  rintro e w3 ⟨rfl, hb3⟩
  have HB := Lib.hid (below_then H2.B H2.B.size hb3)
  clear H2 hb3 k4
  cases is with
  | false => go_wp2; go_ret2; exact ⟨by rw [HE.out] <;> simp, HB.out⟩
  | true =>
    cases ok with
    | false => go_wp2; go_ret2; exact ⟨by rw [HE.out] <;> simp, HB.out⟩
    | true =>
      by_cases hy : y = 0
      · subst hy; go_wp2; go_ret2; exact ⟨by rw [HE.out] <;> simp, HB.out⟩
      · have HY := Lib.hid (show endsG s = (IntKind.u64.wrap (v + IntKind.u64.wrap y), true) by rw [HE.out]; simp [hy])
        go_wp2; go_ret2; exact ⟨by rw [HY.out] <;> rfl, HB.out⟩

end Go.Proofs.Ytjbnoamoadaknaa
end

/- Whether subpackets are in form: subpkt.Check and the document's. -/
section
namespace Go.Proofs.Ytjbnoamoadaknaa
open Go.RowKit

def checkT : List SubV → Int
  | [] => 0
  | s :: ss => if (maySv s.1 s.2.2).2 = false then 3 else if (maySv s.1 s.2.2).1 = false ∧ s.2.1 = true then 11 else checkT ss

set_option maxRecDepth 100000 in
set_option maxHeartbeats 3200000 in
theorem Check_calls {A : Option Addr} {n c : Nat} {ss : List SubV} {w : World} (h : Ss w A n ss) (hn : n ≤ 9223372036854775807) :
    Calls Try.prog 46 #[.slice A n c] w fun e w' => e = .returned (.int .i64 (checkT ss)) ∧ Below w.heap.size w w' := by
  obtain rfl := h.1
  go_enter Try.func46, Try.ntmps46
  go_wp2_with fail
  go_loopw [9] (fun i wr => ∃ k : Nat, k ≤ ss.length ∧ i = .int .i64 k ∧ Below w.heap.size w wr ∧ Hid (checkT (ss.drop k) = checkT ss)) (fun i _ => ss.length - (intOf i).toNat)
  case atStart => exact ⟨0, Nat.zero_le _, rfl, Below.refl _ _, Lib.hid rfl⟩
  case round =>
    obtain ⟨k, hk, rfl, hbr, hfi⟩ := hrel
    by_cases hlt : k < ss.length
    · obtain ⟨b, off, Ak, nk, ck, hA, hbl, hc0, hc1, hc2, hbs⟩ := h.2 k hlt
      subst hA
      have hdr : ss.drop k = ss[k] :: ss.drop (k + 1) := List.drop_eq_getElem_cons hlt
      have hf := hfi.out
      rw [hdr, checkT] at hf
      generalize ss[k] = s at hc0 hc1 hc2 hbs hf
      obtain ⟨ty, cr, body⟩ := s
      simp only at hc0 hc1 hc2 hbs hf
      have q0 := (hbr.cell (p := ⟨b, off + k * 3, none⟩) hbl).trans hc0
      have q1 := (hbr.cell (p := ⟨b, off + k * 3 + 1, none⟩) hbl).trans hc1
      have q2 := (hbr.cell (p := ⟨b, off + k * 3 + 2, none⟩) hbl).trans hc2
      have hnew := heap_alloc_new wr (.cells #[.int .i64 ty, .bool cr, .slice Ak nk ck] 70)
      have hba := (Below.refl wr.heap.size wr).alloc (Nat.le_refl _) (.cells #[.int .i64 ty, .bool cr, .slice Ak nk ck] 70)
      have hbD := below_then hbr hbr.size hba
      have hmay := maySub_calls ty cr (hbs.below hbD)
      generalize maySv ty body = M at hf hmay
      obtain ⟨kn, ok⟩ := M
      simp only at hf hmay
      have HC := Lib.hid hmay
      have HF := Lib.hid hf
      clear hdr hc0 hc1 hc2 hf hmay
      generalize hw1 : wr.alloc (.cells #[.int .i64 ty, .bool cr, .slice Ak nk ck] 70) = w1 at hnew hbD HC
      have d0 := blk_cell hnew 0
      have d1 := blk_cell hnew 1
      have d2 := blk_cell hnew 2
      have HN := Lib.hid hnew
      clear hnew
      cases ok with
      | false =>
        have HF1 := Lib.hid (show (3 : Int) = checkT ss by rw [← HF.out]; rfl)
        go_wp2_with (go_at_call 76; refine HC.out.mono ?_; rintro e w2 ⟨rfl, hb2⟩)
        go_ret
        exact ⟨by rw [← HF1.out] <;> rfl, below_then hbD hbD.size hb2⟩
      | true =>
        cases kn with
        | true =>
          have HF1 := Lib.hid (show checkT (ss.drop (k + 1)) = checkT ss by rw [← HF.out]; rfl)
          go_wp2_with (go_at_call 76; refine HC.out.mono ?_; rintro e w2 ⟨rfl, hb2⟩)
          go_roundw
          case rel => exact ⟨k + 1, by omega, by go_num, below_then hbD hbD.size hb2, HF1⟩
          case measure => simp [intOf]; omega
        | false =>
          cases cr with
          | true =>
            have HF1 := Lib.hid (show (11 : Int) = checkT ss by rw [← HF.out]; rfl)
            go_wp2_with (go_at_call 76; refine HC.out.mono ?_; rintro e w2 ⟨rfl, hb2⟩; have e1 := (blk_cell ((hb2.block wr.heap.size (blk_lt HN.out)).trans HN.out) 1))
            go_ret
            exact ⟨by rw [← HF1.out] <;> rfl, below_then hbD hbD.size hb2⟩
          | false =>
            have HF1 := Lib.hid (show checkT (ss.drop (k + 1)) = checkT ss by rw [← HF.out]; rfl)
            go_wp2_with (go_at_call 76; refine HC.out.mono ?_; rintro e w2 ⟨rfl, hb2⟩; have e1 := (blk_cell ((hb2.block wr.heap.size (blk_lt HN.out)).trans HN.out) 1))
            go_roundw
            case rel => exact ⟨k + 1, by omega, by go_num, below_then hbD hbD.size hb2, HF1⟩
            case measure => simp [intOf]; omega
    · have hke : k = ss.length := by omega
      have hf := hfi.out
      rw [hke, List.drop_length, checkT] at hf
      have HF := Lib.hid hf
      clear hf
      go_wp2
      go_ret
      exact ⟨by rw [← HF.out] <;> rfl, hbr⟩

set_option maxRecDepth 100000 in
set_option maxHeartbeats 3200000 in
theorem rCheck_calls {A : Option Addr} {n c : Nat} {ss : List SubV} {w : World} (h : Ss w A n ss) (hn : n ≤ 9223372036854775807) :
    Calls Try.prog 49 #[.slice A n c] w fun e w' => e = .returned (.int .i64 (checkT ss)) ∧ Below w.heap.size w w' := by
  obtain rfl := h.1
  go_enter Try.func49, Try.ntmps49
  go_wp2_with fail
  go_loopw [3] (fun i wr => ∃ k : Nat, k ≤ ss.length ∧ i = .int .i64 k ∧ Below w.heap.size w wr ∧ Hid (checkT (ss.drop k) = checkT ss)) (fun i _ => ss.length - (intOf i).toNat)
  case atStart => exact ⟨0, Nat.zero_le _, rfl, Below.refl _ _, Lib.hid rfl⟩
  case round =>
    obtain ⟨k, hk, rfl, hbr, hfi⟩ := hrel
    by_cases hlt : k < ss.length
    · obtain ⟨b, off, Ak, nk, ck, hA, hbl, hc0, hc1, hc2, hbs⟩ := h.2 k hlt
      subst hA
      have hdr : ss.drop k = ss[k] :: ss.drop (k + 1) := List.drop_eq_getElem_cons hlt
      have hf := hfi.out
      rw [hdr, checkT] at hf
      generalize ss[k] = s at hc0 hc1 hc2 hbs hf
      obtain ⟨ty, cr, body⟩ := s
      simp only at hc0 hc1 hc2 hbs hf
      have q0 := (hbr.cell (p := ⟨b, off + k * 3, none⟩) hbl).trans hc0
      have q1 := (hbr.cell (p := ⟨b, off + k * 3 + 1, none⟩) hbl).trans hc1
      have q2 := (hbr.cell (p := ⟨b, off + k * 3 + 2, none⟩) hbl).trans hc2
      have hmay := rmaySub_calls ty cr (hbs.below hbr)
      generalize maySv ty body = M at hf hmay
      obtain ⟨kn, ok⟩ := M
      simp only at hf hmay
      have HC := Lib.hid hmay
      have HF := Lib.hid hf
      have HC1 := Lib.hid hc1
      clear hdr hc0 hc1 hc2 hf hmay
      cases ok with
      | false =>
        have HF1 := Lib.hid (show (3 : Int) = checkT ss by rw [← HF.out]; rfl)
        go_wp2_with (go_at_call 78; refine HC.out.mono ?_; rintro e w2 ⟨rfl, hb2⟩)
        go_ret
        exact ⟨by rw [← HF1.out] <;> rfl, below_then hbr hbr.size hb2⟩
      | true =>
        cases kn with
        | true =>
          have HF1 := Lib.hid (show checkT (ss.drop (k + 1)) = checkT ss by rw [← HF.out]; rfl)
          go_wp2_with (go_at_call 78; refine HC.out.mono ?_; rintro e w2 ⟨rfl, hb2⟩)
          go_roundw
          case rel => exact ⟨k + 1, by omega, by go_num, below_then hbr hbr.size hb2, HF1⟩
          case measure => simp [intOf]; omega
        | false =>
          cases cr with
          | true =>
            have HF1 := Lib.hid (show (11 : Int) = checkT ss by rw [← HF.out]; rfl)
            go_wp2_with (go_at_call 78; refine HC.out.mono ?_; rintro e w2 ⟨rfl, hb2⟩; have e1 := ((below_then hbr hbr.size hb2).cell (p := ⟨b, off + k * 3 + 1, none⟩) hbl).trans HC1.out)
            go_ret
            exact ⟨by rw [← HF1.out] <;> rfl, below_then hbr hbr.size hb2⟩
          | false =>
            have HF1 := Lib.hid (show checkT (ss.drop (k + 1)) = checkT ss by rw [← HF.out]; rfl)
            go_wp2_with (go_at_call 78; refine HC.out.mono ?_; rintro e w2 ⟨rfl, hb2⟩; have e1 := ((below_then hbr hbr.size hb2).cell (p := ⟨b, off + k * 3 + 1, none⟩) hbl).trans HC1.out)
            go_roundw
            case rel => exact ⟨k + 1, by omega, by go_num, below_then hbr hbr.size hb2, HF1⟩
            case measure => simp [intOf]; omega
    · have hke : k = ss.length := by omega
      have hf := hfi.out
      rw [hke, List.drop_length, checkT] at hf
      have HF := Lib.hid hf
      clear hf
      go_wp2
      go_ret
      exact ⟨by rw [← HF.out] <;> rfl, hbr⟩
end Go.Proofs.Ytjbnoamoadaknaa
end
