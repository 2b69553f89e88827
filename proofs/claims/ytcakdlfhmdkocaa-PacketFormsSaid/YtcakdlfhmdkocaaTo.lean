/- The taker of packets: the walks of a new packet's body, and an old one's. -/
import Derived.Test.YtcakdlfhmdkocaaTn
namespace Go.Proofs.Ytcakdlfhmdkocaa
open Go.RowKit

set_option maxRecDepth 100000 in
set_option maxHeartbeats 3200000 in
theorem fresh_calls {w : World} {B t g : Nat} {l : List UInt8} {s : St} (h : Tk w B t g l s) (tag : Int) (hbl : s.body.length ≤ 60000) :
    Calls Try.prog 62 #[.pointer (some ⟨t, 0, none⟩), .int .i64 tag] w fun e w' => e = .returned (.tuple #[]) ∧ Tk w' B t g l (freshT l tag (l.length + 1) true s) ∧ Below B w w' := by
  obtain ⟨fin, hfin⟩ : ∃ x, x = freshT l tag (l.length + 1) true s := ⟨_, rfl⟩
  rw [← hfin]
  have HF := Lib.hid hfin
  clear hfin
  obtain ⟨hB, hgt, htl⟩ := h.ord
  go_enter Try.func62, Try.ntmps62
  go_wp2_with fail
  go_loopg [4] (l.length) (fun f v wr => ∃ (first : Bool) (s1 : St), v = .bool first ∧ Tk wr B t g l s1 ∧ s1.body.length ≤ 60000 ∧ Hid (freshT l tag (f + 1) first s1 = fin) ∧ Hid (l.length - s1.at_ ≤ f) ∧ Below B w wr)
  case atStart => exact ⟨true, s, rfl, h, hbl, Lib.hid HF.out.symm, Lib.hid (Nat.sub_le _ _), Below.refl _ _⟩
  case round =>
    obtain ⟨first, s1, rfl, hT, hb1, hf1, hm1, hbw⟩ := hrel
    clear h
    have hpo := Lib.hid (partT_on l tag first s1 hb1)
    have hst := fun h => freshT_stop (f := gk) (l := l) (tag := tag) (first := first) (s := s1) h
    have hon := fun h => freshT_on (f := gk) (l := l) (tag := tag) (first := first) (s := s1) h
    have Hst := Lib.hid hst
    have Hon := Lib.hid hon
    clear hst hon
    have hlo := long_calls hT
    have hLb := (longT_at l s1).2.1
    have hP : partT l tag first s1 = moreT l (markT (badPart tag first (longT l s1)) (longT l s1).2.2) (longT l s1).1 := rfl
    have hS : stopT l tag first s1 = ((partT l tag first s1).e != 0 || !(longT l s1).2.1) := rfl
    generalize partT l tag first s1 = pt at hP hS hpo Hst Hon
    obtain ⟨⟨n, isP, s2⟩, hL⟩ : ∃ x, x = longT l s1 := ⟨_, rfl⟩
    rw [← hL] at hlo hLb hP hS
    simp only at hlo hLb hP hS
    have HL := Lib.hid hL
    have Hlo := Lib.hid hlo
    have HP := Lib.hid hP
    have HS := Lib.hid hS
    rw [← hLb] at hb1
    clear hL hlo hP hS hLb
    cases isP with
    | false =>
      have hmk : markT (badPart tag first (n, false, s2)) s2 = s2 := by simp [badPart, markT]
      have hP2 := HP.out
      rw [hmk] at hP2
      have HP2 := Lib.hid hP2
      clear hmk hP2
      go_wp2_with fail
      refine Hlo.out.mono ?_
      rintro e w1 ⟨rfl, hT1, hbw1⟩
      have hmo := more_calls hT1 n hb1
      rw [← HP2.out] at hmo
      have Hmo := Lib.hid hmo
      clear hmo
      go_wp2_with fail
      refine Hmo.out.mono ?_
      rintro e w2 ⟨rfl, hT2, hbw2⟩
      obtain ⟨A2, n2, c2, kk0, kk1, kk2, ff1, ff2, _, ho2, hb2⟩ := hT2.open_
      go_wp2
      all_goals
        refine bodyPost_ret (results_none rfl _ _ _) rfl ?_
        have hfi := Hst.out (by rw [HS.out]; simp)
        rw [hf1.out] at hfi
        rw [hfi]
        exact ⟨rfl, hT2, (hbw.trans hbw1).trans hbw2⟩
    | true =>
      have hstore : ∀ w1 : World, Tk w1 B t g l s2 → Tk (w1.setCell ⟨t, 2, none⟩ (.int .i64 8)) B t g l (markT true s2) := fun w1 h1 => h1.err 8
      have Hstore := Lib.hid hstore
      clear hstore
      go_wp2_with fail
      refine Hlo.out.mono ?_
      rintro e w1 ⟨rfl, hT1, hbw1⟩
      obtain ⟨A1, n1, c1, k0, k1, k2, f1, f2, _, ho1, hb2⟩ := hT1.open_
      cases hm : mayPart tag with
      | false =>
          have hbad : badPart tag first (n, true, s2) = true := by simp [badPart, hm]
          have hP2 := HP.out
          rw [hbad] at hP2
          have hpe : (pt.e != 0) = true := by rw [hP2]; simp [moreT, markT]
          have HP2 := Lib.hid hP2
          clear hP2 hbad
          go_wp2_with (go_at_call 23; refine (MayPart_calls tag _).mono ?_; rintro e w' ⟨rfl, rfl⟩)
          have hB1 : Below B w1 (w1.setCell ⟨t, 2, none⟩ (.int .i64 8)) := (Below.refl _ _).setCell (by show B ≤ t; omega) _
          have hT2 := Hstore.out w1 hT1
          generalize w1.setCell ⟨t, 2, none⟩ (.int .i64 8) = w2 at hT2 hB1 ⊢
          have hmo := more_calls hT2 n hb1
          rw [← HP2.out] at hmo
          refine hmo.mono ?_
          rintro e w3 ⟨rfl, hT3, hbw3⟩
          obtain ⟨A3, n3, c3, kk0, kk1, kk2, ff1, ff2, _, ho3, hb3⟩ := hT3.open_
          go_wp2
          refine bodyPost_ret (results_none rfl _ _ _) rfl ?_
          have hfi := Hst.out (by rw [HS.out, hpe]; rfl)
          rw [hf1.out] at hfi
          rw [hfi]
          exact ⟨rfl, hT3, ((hbw.trans hbw1).trans hB1).trans hbw3⟩
      | true =>
        cases first with
        | false =>
          have hbad : badPart tag false (n, true, s2) = false := by simp [badPart, hm]
          have hP2 := HP.out
          rw [hbad] at hP2
          have HP2 : Hid (pt = moreT l s2 n) := Lib.hid hP2
          clear hP2 hbad
          go_wp2_with (go_at_call 23; refine (MayPart_calls tag _).mono ?_; rintro e w' ⟨rfl, rfl⟩)
          have hmo := more_calls hT1 n hb1
          rw [← HP2.out] at hmo
          refine hmo.mono ?_
          rintro e w3 ⟨rfl, hT3, hbw3⟩
          obtain ⟨A3, n3, c3, kk0, kk1, kk2, ff1, ff2, _, ho3, hb3⟩ := hT3.open_
          by_cases he : pt.e = 0
          · have hpe : (pt.e != 0) = false := by rw [he]; rfl
            have hno := HS.out
            rw [hpe] at hno
            have hgo := hpo.out.2 hno
            have hfi := Hon.out hno
            rw [hf1.out] at hfi
            have hm := hm1.out
            have hg1 : gk = gk - 1 + 1 := by omega
            rw [hg1] at hfi
            have Hfi := Lib.hid hfi.symm
            have Hle : Hid (l.length - pt.at_ ≤ gk - 1) := Lib.hid (by omega)
            have hlt : gk - 1 < gk := by omega
            have hpb := hpo.out.1
            rw [he] at kk2
            clear hno hgo hfi hm hg1 he hpe
            go_wp2
            go_roundg (gk - 1)
            case measure => exact hlt
            case rel => exact ⟨false, pt, rfl, hT3, hpb, Hfi, Hle, (hbw.trans hbw1).trans hbw3⟩
          · have hpe : (pt.e != 0) = true := by rw [bne_iff_ne]; exact he
            clear he
            go_wp2
            refine bodyPost_ret (results_none rfl _ _ _) rfl ?_
            have hfi := Hst.out (by rw [HS.out, hpe]; rfl)
            rw [hf1.out] at hfi
            rw [hfi]
            exact ⟨rfl, hT3, (hbw.trans hbw1).trans hbw3⟩
        | true =>
          by_cases hn : n < 512
          · have hbad : badPart tag true (n, true, s2) = true := by simp [badPart, hm, hn]
            have hP2 := HP.out
            rw [hbad] at hP2
            have hpe : (pt.e != 0) = true := by rw [hP2]; simp [moreT, markT]
            have HP2 := Lib.hid hP2
            clear hP2 hbad
            go_wp2_with (go_at_call 23; refine (MayPart_calls tag _).mono ?_; rintro e w' ⟨rfl, rfl⟩)
            have hB1 : Below B w1 (w1.setCell ⟨t, 2, none⟩ (.int .i64 8)) := (Below.refl _ _).setCell (by show B ≤ t; omega) _
            have hT2 := Hstore.out w1 hT1
            generalize w1.setCell ⟨t, 2, none⟩ (.int .i64 8) = w2 at hT2 hB1 ⊢
            have hmo := more_calls hT2 n hb1
            rw [← HP2.out] at hmo
            refine hmo.mono ?_
            rintro e w3 ⟨rfl, hT3, hbw3⟩
            obtain ⟨A3, n3, c3, kk0, kk1, kk2, ff1, ff2, _, ho3, hb3⟩ := hT3.open_
            go_wp2
            refine bodyPost_ret (results_none rfl _ _ _) rfl ?_
            have hfi := Hst.out (by rw [HS.out, hpe]; rfl)
            rw [hf1.out] at hfi
            rw [hfi]
            exact ⟨rfl, hT3, ((hbw.trans hbw1).trans hB1).trans hbw3⟩
          · have hbad : badPart tag true (n, true, s2) = false := by simp [badPart, hm, hn]
            have hP2 := HP.out
            rw [hbad] at hP2
            have HP2 : Hid (pt = moreT l s2 n) := Lib.hid hP2
            clear hP2 hbad
            go_wp2_with (go_at_call 23; refine (MayPart_calls tag _).mono ?_; rintro e w' ⟨rfl, rfl⟩)
            have hmo := more_calls hT1 n hb1
            rw [← HP2.out] at hmo
            refine hmo.mono ?_
            rintro e w3 ⟨rfl, hT3, hbw3⟩
            obtain ⟨A3, n3, c3, kk0, kk1, kk2, ff1, ff2, _, ho3, hb3⟩ := hT3.open_
            by_cases he : pt.e = 0
            · have hpe : (pt.e != 0) = false := by rw [he]; rfl
              have hno := HS.out
              rw [hpe] at hno
              have hgo := hpo.out.2 hno
              have hfi := Hon.out hno
              rw [hf1.out] at hfi
              have hm := hm1.out
              have hg1 : gk = gk - 1 + 1 := by omega
              rw [hg1] at hfi
              have Hfi := Lib.hid hfi.symm
              have Hle : Hid (l.length - pt.at_ ≤ gk - 1) := Lib.hid (by omega)
              have hlt : gk - 1 < gk := by omega
              have hpb := hpo.out.1
              rw [he] at kk2
              clear hno hgo hfi hm hg1 he hpe
              go_wp2
              go_roundg (gk - 1)
              case measure => exact hlt
              case rel => exact ⟨false, pt, rfl, hT3, hpb, Hfi, Hle, (hbw.trans hbw1).trans hbw3⟩
            · have hpe : (pt.e != 0) = true := by rw [bne_iff_ne]; exact he
              clear he
              go_wp2
              refine bodyPost_ret (results_none rfl _ _ _) rfl ?_
              have hfi := Hst.out (by rw [HS.out, hpe]; rfl)
              rw [hf1.out] at hfi
              rw [hfi]
              exact ⟨rfl, hT3, (hbw.trans hbw1).trans hbw3⟩
end Go.Proofs.Ytcakdlfhmdkocaa
