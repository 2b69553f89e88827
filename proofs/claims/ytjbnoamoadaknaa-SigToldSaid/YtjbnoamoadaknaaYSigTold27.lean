import Derived.Test.YtjbnoamoadaknaaYSigTold26
import Derived.Test.YtjbnoamoadaknaaYSigTold24
/- Whether a signature's areas may be, both sides: sig.Check (with slices.ContainsFunc) and the document's. -/
section
namespace Go.Proofs.Ytjbnoamoadaknaa
open Go.RowKit

def checkG (s : SigV) : Int := if checkT s.hs ≠ 0 then checkT s.hs else if checkT s.us ≠ 0 then checkT s.us else if (findS 2 s.hs).2 then 0 else 3

set_option maxRecDepth 100000 in
set_option maxHeartbeats 1600000 in
theorem isMade_calls (ty : Int) (cr : Bool) (v : Value) (w : World) :
    Calls Try.prog 48 #[.agg #[.int .i64 ty, .bool cr, v]] w fun e w' => e = .returned (.bool (ty == 2)) ∧ Below w.heap.size w w' := by
  by_cases he : ty = 2
  · subst he
    go_enter Try.func48, Try.ntmps48
    go_wp2
    go_ret
    exact ⟨by rfl, (Below.refl w.heap.size w).alloc (Nat.le_refl _) _⟩
  · have hd : (ty == 2) = false := by simpa using he
    rw [hd]
    have HD := Lib.hid he
    go_enter Try.func48, Try.ntmps48
    go_wp2
    go_ret
    exact ⟨by first | rfl | simp [HD.out], (Below.refl w.heap.size w).alloc (Nat.le_refl _) _⟩

set_option maxRecDepth 100000 in
set_option maxHeartbeats 3200000 in
theorem IndexMade_calls {A : Option Addr} {n c : Nat} {ss : List SubV} {w : World} (h : Ss w A n ss) (hn : n ≤ 9223372036854775807) :
    Calls Try.prog 77 #[.slice A n c, .func (.func 48) #[] #[]] w fun e w' => ∃ x : Int, e = .returned (.int .i64 x) ∧ decide (0 ≤ x) = (findS 2 ss).2 ∧ Below w.heap.size w w' := by
  obtain rfl := h.1
  go_enter Try.func77, Try.ntmps77
  go_wp2_with fail
  go_loopw [8] (fun i wr => ∃ k : Nat, k ≤ ss.length ∧ i = .int .i64 k ∧ Below w.heap.size w wr ∧ Hid (findS 2 (ss.drop k) = findS 2 ss)) (fun i _ => ss.length - (intOf i).toNat)
  case atStart => exact ⟨0, Nat.zero_le _, rfl, Below.refl _ _, Lib.hid rfl⟩
  case round =>
    obtain ⟨k, hk, rfl, hbr, hfi⟩ := hrel
    by_cases hlt : k < ss.length
    · obtain ⟨b, off, Ak, nk, ck, hA, hbl, hc0, hc1, hc2, hbs⟩ := h.2 k hlt
      subst hA
      have hdr : ss.drop k = ss[k] :: ss.drop (k + 1) := List.drop_eq_getElem_cons hlt
      have hf := hfi.out
      rw [hdr, findS] at hf
      generalize ss[k] = s at hc0 hc1 hc2 hbs hf
      obtain ⟨ty, cr, body⟩ := s
      simp only at hc0 hc1 hc2 hbs hf
      have q0 := (hbr.cell (p := ⟨b, off + k * 3, none⟩) hbl).trans hc0
      have q1 := (hbr.cell (p := ⟨b, off + k * 3 + 1, none⟩) hbl).trans hc1
      have q2 := (hbr.cell (p := ⟨b, off + k * 3 + 2, none⟩) hbl).trans hc2
      have HC := Lib.hid (isMade_calls ty cr (.slice Ak nk ck) wr)
      clear hdr hc0 hc1 hc2 hbs
      by_cases he : ty = 2
      · rw [if_pos he] at hf
        have HF := Lib.hid hf
        have hd : (ty == 2) = true := by simpa using he
        rw [hd] at HC
        clear hf he hd
        go_wp2_with (go_at_call 48; refine HC.out.mono ?_; rintro e w2 ⟨rfl, hb2⟩)
        go_ret
        exact ⟨_, rfl, by rw [← HF.out] <;> simp, below_then hbr hbr.size hb2⟩
      · rw [if_neg he] at hf
        have HF := Lib.hid hf
        have hd : (ty == 2) = false := by simpa using he
        rw [hd] at HC
        clear hf he hd
        go_wp2_with (go_at_call 48; refine HC.out.mono ?_; rintro e w2 ⟨rfl, hb2⟩)
        go_roundw
        case rel => exact ⟨k + 1, by omega, by go_num, below_then hbr hbr.size hb2, Lib.hid HF.out⟩
        case measure => simp [intOf]; omega
    · have hke : k = ss.length := by omega
      have hf := hfi.out
      rw [hke, List.drop_length, findS] at hf
      have HF := Lib.hid hf
      clear hf
      go_wp2
      go_ret
      exact ⟨_, rfl, by rw [← HF.out] <;> simp, hbr⟩

set_option maxRecDepth 100000 in
set_option maxHeartbeats 1600000 in
theorem ContainsMade_calls {A : Option Addr} {n c : Nat} {ss : List SubV} {w : World} (h : Ss w A n ss) (hn : n ≤ 9223372036854775807) :
    Calls Try.prog 47 #[.slice A n c, .func (.func 48) #[] #[]] w fun e w' => e = .returned (.bool (findS 2 ss).2) ∧ Below w.heap.size w w' := by
  have HC := Lib.hid (IndexMade_calls (c := c) h hn)
  generalize (findS 2 ss).2 = t at HC
  go_enter Try.func47, Try.ntmps47
  go_wp2_with fail
  refine HC.out.mono ?_
  rintro e w2 ⟨x, rfl, hx, hb2⟩
  have HX := Lib.hid hx
  clear hx
  go_wp2
  go_ret
  exact ⟨by rw [← HX.out] <;> rfl, hb2⟩

set_option maxRecDepth 100000 in
set_option maxHeartbeats 1600000 in
theorem CheckG_calls {s : SigV} {a : SigA} {w : World} (h : SigR w s a) (m4 : a.n4 ≤ 9223372036854775807) (m5 : a.n5 ≤ 9223372036854775807) :
    Calls Try.prog 21 #[.agg (sigC s a)] w fun e w' => e = .returned (.int .i64 (checkG s)) ∧ Below w.heap.size w w' := by
  have H4 := Lib.hid (fun W (hW : Below w.heap.size w W) => Check_calls (c := a.c4) (h.h4.below hW) m4)
  have H5 := Lib.hid (fun W (hW : Below w.heap.size w W) => Check_calls (c := a.c5) (h.h5.below hW) m5)
  have HM := Lib.hid (fun W (hW : Below w.heap.size w W) => ContainsMade_calls (c := a.c4) (h.h4.below hW) m4)
  have hE : checkG s = if checkT s.hs ≠ 0 then checkT s.hs else if checkT s.us ≠ 0 then checkT s.us else if (findS 2 s.hs).2 then 0 else 3 := rfl
  generalize findS 2 s.hs = f at HM hE
  obtain ⟨fb, is⟩ := f
  simp only at HM hE
  generalize checkT s.hs = x at H4 hE
  generalize checkT s.us = y at H5 hE
  have HE := Lib.hid hE
  clear hE
  go_enter Try.func21, Try.ntmps21
  go_upto_region 1 with fail
  go_name_world w1 hw1
  have H1 : Box w w1 27 (sigC s a) := Box.mk_ hw1
  have k4 : w1.cell? ⟨w.heap.size, 4, none⟩ = some (.slice a.A4 a.n4 a.c4) := H1.cell 4
  clear hw1
  go_wp2_with fail
  refine (H4.out _ H1.B).mono ?_
  rintro e w2 ⟨rfl, hb2⟩
  have H2 := H1.below hb2
  have k5 : w2.cell? ⟨w.heap.size, 5, none⟩ = some (.slice a.A5 a.n5 a.c5) := H2.cell 5
  clear H1 hb2 k4
  by_cases hx : x = 0
  · subst hx
    go_wp2_with fail
    refine (H5.out _ H2.B).mono ?_
    rintro e w3 ⟨rfl, hb3⟩
    have H3 := H2.below hb3
    have k4 : w3.cell? ⟨w.heap.size, 4, none⟩ = some (.slice a.A4 a.n4 a.c4) := H3.cell 4
    clear H2 hb3 k5
    by_cases hy : y = 0
    · subst hy
      go_wp2_with fail
      refine (HM.out _ H3.B).mono ?_
      rintro e w4 ⟨rfl, hb4⟩
      have HB := Lib.hid (below_then H3.B H3.B.size hb4)
      clear H3 hb4 k4
      cases is with
      | false => go_wp2; go_ret; exact ⟨by rw [HE.out] <;> simp, HB.out⟩
      | true => go_wp2; go_ret; exact ⟨by rw [HE.out] <;> simp, HB.out⟩
    · have HB := Lib.hid H3.B
      have HY := Lib.hid (show checkG s = y by rw [HE.out]; simp [hy])
      clear H3 k4
      go_wp2; go_ret; exact ⟨by rw [HY.out] <;> rfl, HB.out⟩
  · have HB := Lib.hid H2.B
    have HY := Lib.hid (show checkG s = x by rw [HE.out]; simp [hx])
    clear H2 k5
    go_wp2; go_ret; exact ⟨by rw [HY.out] <;> rfl, HB.out⟩

set_option maxRecDepth 100000 in
set_option maxHeartbeats 1600000 in
theorem rCheckG_calls {s : SigV} {a : SigA} {w : World} (h : SigR w s a) (m4 : a.n4 ≤ 9223372036854775807) (m5 : a.n5 ≤ 9223372036854775807) :
    Calls Try.prog 22 #[.agg (sigC s a)] w fun e w' => e = .returned (.int .i64 (checkG s)) ∧ Below w.heap.size w w' := by
  have H4 := Lib.hid (fun W (hW : Below w.heap.size w W) => rCheck_calls (c := a.c4) (h.h4.below hW) m4)
  have H5 := Lib.hid (fun W (hW : Below w.heap.size w W) => rCheck_calls (c := a.c5) (h.h5.below hW) m5)
  have HM := Lib.hid (fun W (hW : Below w.heap.size w W) => rFind_calls 2 (c := a.c4) (h.h4.below hW) m4)
  have hE : checkG s = if checkT s.hs ≠ 0 then checkT s.hs else if checkT s.us ≠ 0 then checkT s.us else if (findS 2 s.hs).2 then 0 else 3 := rfl
  generalize findS 2 s.hs = f at HM hE
  obtain ⟨fb, is⟩ := f
  simp only at HM hE
  generalize checkT s.hs = x at H4 hE
  generalize checkT s.us = y at H5 hE
  have HE := Lib.hid hE
  clear hE
  go_enter Try.func22, Try.ntmps22
  go_upto_region 1 with fail
  go_name_world w1 hw1
  have H1 : Box w w1 27 (sigC s a) := Box.mk_ hw1
  have k4 : w1.cell? ⟨w.heap.size, 4, none⟩ = some (.slice a.A4 a.n4 a.c4) := H1.cell 4
  clear hw1
  go_wp2_with fail
  refine (H4.out _ H1.B).mono ?_
  rintro e w2 ⟨rfl, hb2⟩
  have H2 := H1.below hb2
  have k5 : w2.cell? ⟨w.heap.size, 5, none⟩ = some (.slice a.A5 a.n5 a.c5) := H2.cell 5
  clear H1 hb2 k4
  by_cases hx : x = 0
  · subst hx
    go_wp2_with fail
    refine (H5.out _ H2.B).mono ?_
    rintro e w3 ⟨rfl, hb3⟩
    have H3 := H2.below hb3
    have k4 : w3.cell? ⟨w.heap.size, 4, none⟩ = some (.slice a.A4 a.n4 a.c4) := H3.cell 4
    clear H2 hb3 k5
    by_cases hy : y = 0
    · subst hy
      go_wp2_with fail
      refine (HM.out _ H3.B).mono ?_
      rintro e w4 ⟨A', m', c', rfl, -, hb4⟩
      have HB := Lib.hid (below_then H3.B H3.B.size hb4)
      clear H3 hb4 k4
      cases is with
      | false => go_wp2; go_ret; exact ⟨by rw [HE.out] <;> simp, HB.out⟩
      | true => go_wp2; go_ret; exact ⟨by rw [HE.out] <;> simp, HB.out⟩
    · have HB := Lib.hid H3.B
      have HY := Lib.hid (show checkG s = y by rw [HE.out]; simp [hy])
      clear H3 k4
      go_wp2; go_ret; exact ⟨by rw [HY.out] <;> rfl, HB.out⟩
  · have HB := Lib.hid H2.B
    have HY := Lib.hid (show checkG s = x by rw [HE.out]; simp [hx])
    clear H2 k5
    go_wp2; go_ret; exact ⟨by rw [HY.out] <;> rfl, HB.out⟩

end Go.Proofs.Ytjbnoamoadaknaa
end

/- The statements of layer 22: SigTold. -/
section
namespace Go.Proofs.Ytjbnoamoadaknaa
open Go.RowKit

set_option maxRecDepth 100000 in
set_option maxHeartbeats 3200000 in
theorem SigTold_walk {s : SigV} {a : SigA} {w : World} (h : SigR w s a) (hb : SigB s a 140737488355328) :
    Calls Try.prog 6 #[.agg (sigC s a)] w fun e w' => e = .returned (.bool true) ∧ Below w.heap.size w w' := by
  have HAl := Lib.hid (fun W => alive22_calls W)
  have HSm := Lib.hid (fun W (hW : Below w.heap.size w W) => Small_calls (h.below hW) hb)
  have HMa := Lib.hid (fun W (hW : Below w.heap.size w W) (hL : SigL s) => Made_calls (h.below hW) hb.n4 hL.b4)
  have HRm := Lib.hid (fun W (hW : Below w.heap.size w W) => rMade_calls (h.below hW) hb.n4)
  have HEn := Lib.hid (fun W (hW : Below w.heap.size w W) (hL : SigL s) => Ends_calls (h.below hW) hb.n4 hL.b4)
  have HRe := Lib.hid (fun W (hW : Below w.heap.size w W) => rEnds_calls (h.below hW) hb.n4)
  have HCh := Lib.hid (fun W (hW : Below w.heap.size w W) => CheckG_calls (h.below hW) hb.n4 hb.n5)
  have HRc := Lib.hid (fun W (hW : Below w.heap.size w W) => rCheckG_calls (h.below hW) hb.n4 hb.n5)
  generalize madeG s = X at HMa HRm
  generalize endsG s = Y at HEn HRe
  generalize checkG s = z at HCh HRc
  obtain ⟨mv, mo⟩ := X
  obtain ⟨ev, eo⟩ := Y
  simp only at HMa HRm HEn HRe
  clear h hb
  go_enter Try.func6, Try.ntmps6
  go_upto_region 1 with fail
  go_name_world w1 hw1
  have H1 : Box w w1 27 (sigC s a) := Box.mk_ hw1
  clear hw1
  have B1 := Lib.hid H1
  clear H1
  have k0 : w1.cell? ⟨w.heap.size, 0, none⟩ = some (.int .i64 s.ve) := B1.out.cell 0
  have k1 : w1.cell? ⟨w.heap.size, 1, none⟩ = some (.int .i64 s.ty) := B1.out.cell 1
  have k2 : w1.cell? ⟨w.heap.size, 2, none⟩ = some (.int .i64 s.pu) := B1.out.cell 2
  have k3 : w1.cell? ⟨w.heap.size, 3, none⟩ = some (.int .i64 s.ha) := B1.out.cell 3
  have k4 : w1.cell? ⟨w.heap.size, 4, none⟩ = some (.slice a.A4 a.n4 a.c4) := B1.out.cell 4
  have k5 : w1.cell? ⟨w.heap.size, 5, none⟩ = some (.slice a.A5 a.n5 a.c5) := B1.out.cell 5
  have k6 : w1.cell? ⟨w.heap.size, 6, none⟩ = some (.int .u8 (s.l0.toNat : Int)) := B1.out.cell 6
  have k7 : w1.cell? ⟨w.heap.size, 7, none⟩ = some (.int .u8 (s.l1.toNat : Int)) := B1.out.cell 7
  have k8 : w1.cell? ⟨w.heap.size, 8, none⟩ = some (.slice a.A8 a.n8 a.c8) := B1.out.cell 8
  have k9 : w1.cell? ⟨w.heap.size, 9, none⟩ = some (.slice a.A9 a.n9 a.c9) := B1.out.cell 9
  go_wp2_with fail
  refine (HSm.out w1 B1.out.B).mono ?_
  rintro e w2 ⟨⟨r, rfl, hr⟩, hb2⟩
  have B2 := Lib.hid (B1.out.below hb2)
  have HL := Lib.hid (fun h => sigL_of_small (hr h))
  clear hr hb2 k0 k1 k2 k3 k4 k5 k6 k7 k8 k9 B1
  have k0 : w2.cell? ⟨w.heap.size, 0, none⟩ = some (.int .i64 s.ve) := B2.out.cell 0
  have k1 : w2.cell? ⟨w.heap.size, 1, none⟩ = some (.int .i64 s.ty) := B2.out.cell 1
  have k2 : w2.cell? ⟨w.heap.size, 2, none⟩ = some (.int .i64 s.pu) := B2.out.cell 2
  have k3 : w2.cell? ⟨w.heap.size, 3, none⟩ = some (.int .i64 s.ha) := B2.out.cell 3
  have k4 : w2.cell? ⟨w.heap.size, 4, none⟩ = some (.slice a.A4 a.n4 a.c4) := B2.out.cell 4
  have k5 : w2.cell? ⟨w.heap.size, 5, none⟩ = some (.slice a.A5 a.n5 a.c5) := B2.out.cell 5
  have k6 : w2.cell? ⟨w.heap.size, 6, none⟩ = some (.int .u8 (s.l0.toNat : Int)) := B2.out.cell 6
  have k7 : w2.cell? ⟨w.heap.size, 7, none⟩ = some (.int .u8 (s.l1.toNat : Int)) := B2.out.cell 7
  have k8 : w2.cell? ⟨w.heap.size, 8, none⟩ = some (.slice a.A8 a.n8 a.c8) := B2.out.cell 8
  have k9 : w2.cell? ⟨w.heap.size, 9, none⟩ = some (.slice a.A9 a.n9 a.c9) := B2.out.cell 9
  by_cases hr : r = true
  rotate_left
  · obtain rfl : r = false := by simpa using hr
    clear hr
    go_wp2_with (go_at_call 7; refine (HAl.out _).mono ?_; rintro e w20 ⟨rfl, hb20⟩)
    go_ret
    exact ⟨rfl, below_then B2.out.B B2.out.B.size hb20⟩
  subst hr
  have HL2 := Lib.hid (HL.out rfl)
  clear HL
  go_wp2_with fail
  refine (HMa.out w2 B2.out.B HL2.out).mono ?_
  rintro e w3 ⟨rfl, hb3⟩
  have B3 := Lib.hid (B2.out.below hb3)
  clear hb3 k0 k1 k2 k3 k4 k5 k6 k7 k8 k9 B2
  have k0 : w3.cell? ⟨w.heap.size, 0, none⟩ = some (.int .i64 s.ve) := B3.out.cell 0
  have k1 : w3.cell? ⟨w.heap.size, 1, none⟩ = some (.int .i64 s.ty) := B3.out.cell 1
  have k2 : w3.cell? ⟨w.heap.size, 2, none⟩ = some (.int .i64 s.pu) := B3.out.cell 2
  have k3 : w3.cell? ⟨w.heap.size, 3, none⟩ = some (.int .i64 s.ha) := B3.out.cell 3
  have k4 : w3.cell? ⟨w.heap.size, 4, none⟩ = some (.slice a.A4 a.n4 a.c4) := B3.out.cell 4
  have k5 : w3.cell? ⟨w.heap.size, 5, none⟩ = some (.slice a.A5 a.n5 a.c5) := B3.out.cell 5
  have k6 : w3.cell? ⟨w.heap.size, 6, none⟩ = some (.int .u8 (s.l0.toNat : Int)) := B3.out.cell 6
  have k7 : w3.cell? ⟨w.heap.size, 7, none⟩ = some (.int .u8 (s.l1.toNat : Int)) := B3.out.cell 7
  have k8 : w3.cell? ⟨w.heap.size, 8, none⟩ = some (.slice a.A8 a.n8 a.c8) := B3.out.cell 8
  have k9 : w3.cell? ⟨w.heap.size, 9, none⟩ = some (.slice a.A9 a.n9 a.c9) := B3.out.cell 9
  go_wp2_with fail
  refine (HRm.out w3 B3.out.B).mono ?_
  rintro e w4 ⟨rfl, hb4⟩
  have B4 := Lib.hid (B3.out.below hb4)
  clear hb4 k0 k1 k2 k3 k4 k5 k6 k7 k8 k9 B3
  have k0 : w4.cell? ⟨w.heap.size, 0, none⟩ = some (.int .i64 s.ve) := B4.out.cell 0
  have k1 : w4.cell? ⟨w.heap.size, 1, none⟩ = some (.int .i64 s.ty) := B4.out.cell 1
  have k2 : w4.cell? ⟨w.heap.size, 2, none⟩ = some (.int .i64 s.pu) := B4.out.cell 2
  have k3 : w4.cell? ⟨w.heap.size, 3, none⟩ = some (.int .i64 s.ha) := B4.out.cell 3
  have k4 : w4.cell? ⟨w.heap.size, 4, none⟩ = some (.slice a.A4 a.n4 a.c4) := B4.out.cell 4
  have k5 : w4.cell? ⟨w.heap.size, 5, none⟩ = some (.slice a.A5 a.n5 a.c5) := B4.out.cell 5
  have k6 : w4.cell? ⟨w.heap.size, 6, none⟩ = some (.int .u8 (s.l0.toNat : Int)) := B4.out.cell 6
  have k7 : w4.cell? ⟨w.heap.size, 7, none⟩ = some (.int .u8 (s.l1.toNat : Int)) := B4.out.cell 7
  have k8 : w4.cell? ⟨w.heap.size, 8, none⟩ = some (.slice a.A8 a.n8 a.c8) := B4.out.cell 8
  have k9 : w4.cell? ⟨w.heap.size, 9, none⟩ = some (.slice a.A9 a.n9 a.c9) := B4.out.cell 9
  go_wp2_with fail
  refine (HEn.out w4 B4.out.B HL2.out).mono ?_
  rintro e w5 ⟨rfl, hb5⟩
  have B5 := Lib.hid (B4.out.below hb5)
  clear hb5 k0 k1 k2 k3 k4 k5 k6 k7 k8 k9 B4
  have k0 : w5.cell? ⟨w.heap.size, 0, none⟩ = some (.int .i64 s.ve) := B5.out.cell 0
  have k1 : w5.cell? ⟨w.heap.size, 1, none⟩ = some (.int .i64 s.ty) := B5.out.cell 1
  have k2 : w5.cell? ⟨w.heap.size, 2, none⟩ = some (.int .i64 s.pu) := B5.out.cell 2
  have k3 : w5.cell? ⟨w.heap.size, 3, none⟩ = some (.int .i64 s.ha) := B5.out.cell 3
  have k4 : w5.cell? ⟨w.heap.size, 4, none⟩ = some (.slice a.A4 a.n4 a.c4) := B5.out.cell 4
  have k5 : w5.cell? ⟨w.heap.size, 5, none⟩ = some (.slice a.A5 a.n5 a.c5) := B5.out.cell 5
  have k6 : w5.cell? ⟨w.heap.size, 6, none⟩ = some (.int .u8 (s.l0.toNat : Int)) := B5.out.cell 6
  have k7 : w5.cell? ⟨w.heap.size, 7, none⟩ = some (.int .u8 (s.l1.toNat : Int)) := B5.out.cell 7
  have k8 : w5.cell? ⟨w.heap.size, 8, none⟩ = some (.slice a.A8 a.n8 a.c8) := B5.out.cell 8
  have k9 : w5.cell? ⟨w.heap.size, 9, none⟩ = some (.slice a.A9 a.n9 a.c9) := B5.out.cell 9
  go_wp2_with fail
  refine (HRe.out w5 B5.out.B).mono ?_
  rintro e w6 ⟨rfl, hb6⟩
  have B6 := Lib.hid (B5.out.below hb6)
  clear hb6 k0 k1 k2 k3 k4 k5 k6 k7 k8 k9 B5
  go_wp2_with fail
  have hE0 := (Below.refl w6.heap.size w6).drew
  have G0 := Lib.hid (show (fun w' => (w'.cell? ⟨w.heap.size, 0, none⟩ = some (.int .i64 s.ve) ∧ w'.cell? ⟨w.heap.size, 1, none⟩ = some (.int .i64 s.ty) ∧ w'.cell? ⟨w.heap.size, 2, none⟩ = some (.int .i64 s.pu) ∧ w'.cell? ⟨w.heap.size, 3, none⟩ = some (.int .i64 s.ha) ∧ w'.cell? ⟨w.heap.size, 4, none⟩ = some (.slice a.A4 a.n4 a.c4) ∧ w'.cell? ⟨w.heap.size, 5, none⟩ = some (.slice a.A5 a.n5 a.c5) ∧ w'.cell? ⟨w.heap.size, 6, none⟩ = some (.int .u8 (s.l0.toNat : Int)) ∧ w'.cell? ⟨w.heap.size, 7, none⟩ = some (.int .u8 (s.l1.toNat : Int)) ∧ w'.cell? ⟨w.heap.size, 8, none⟩ = some (.slice a.A8 a.n8 a.c8) ∧ w'.cell? ⟨w.heap.size, 9, none⟩ = some (.slice a.A9 a.n9 a.c9))) w6.drew from ⟨(B6.out.below hE0).cell 0, (B6.out.below hE0).cell 1, (B6.out.below hE0).cell 2, (B6.out.below hE0).cell 3, (B6.out.below hE0).cell 4, (B6.out.below hE0).cell 5, (B6.out.below hE0).cell 6, (B6.out.below hE0).cell 7, (B6.out.below hE0).cell 8, (B6.out.below hE0).cell 9⟩)
  go_region_held (fun w' => (w'.cell? ⟨w.heap.size, 0, none⟩ = some (.int .i64 s.ve) ∧ w'.cell? ⟨w.heap.size, 1, none⟩ = some (.int .i64 s.ty) ∧ w'.cell? ⟨w.heap.size, 2, none⟩ = some (.int .i64 s.pu) ∧ w'.cell? ⟨w.heap.size, 3, none⟩ = some (.int .i64 s.ha) ∧ w'.cell? ⟨w.heap.size, 4, none⟩ = some (.slice a.A4 a.n4 a.c4) ∧ w'.cell? ⟨w.heap.size, 5, none⟩ = some (.slice a.A5 a.n5 a.c5) ∧ w'.cell? ⟨w.heap.size, 6, none⟩ = some (.int .u8 (s.l0.toNat : Int)) ∧ w'.cell? ⟨w.heap.size, 7, none⟩ = some (.int .u8 (s.l1.toNat : Int)) ∧ w'.cell? ⟨w.heap.size, 8, none⟩ = some (.slice a.A8 a.n8 a.c8) ∧ w'.cell? ⟨w.heap.size, 9, none⟩ = some (.slice a.A9 a.n9 a.c9))) (first | with_reducible exact G0.out | with_reducible exact T1.out | with_reducible exact T2.out | with_reducible exact T3.out) (first
    | (go_at_call 22; refine (HRc.out e2 (below_then B6.out.B B6.out.B.size E2)).mono ?_; rintro e e3 ⟨rfl, hb3⟩; have E3 := below_then E2 E2.size hb3; have T3 := Lib.hid (show (fun w' => (w'.cell? ⟨w.heap.size, 0, none⟩ = some (.int .i64 s.ve) ∧ w'.cell? ⟨w.heap.size, 1, none⟩ = some (.int .i64 s.ty) ∧ w'.cell? ⟨w.heap.size, 2, none⟩ = some (.int .i64 s.pu) ∧ w'.cell? ⟨w.heap.size, 3, none⟩ = some (.int .i64 s.ha) ∧ w'.cell? ⟨w.heap.size, 4, none⟩ = some (.slice a.A4 a.n4 a.c4) ∧ w'.cell? ⟨w.heap.size, 5, none⟩ = some (.slice a.A5 a.n5 a.c5) ∧ w'.cell? ⟨w.heap.size, 6, none⟩ = some (.int .u8 (s.l0.toNat : Int)) ∧ w'.cell? ⟨w.heap.size, 7, none⟩ = some (.int .u8 (s.l1.toNat : Int)) ∧ w'.cell? ⟨w.heap.size, 8, none⟩ = some (.slice a.A8 a.n8 a.c8) ∧ w'.cell? ⟨w.heap.size, 9, none⟩ = some (.slice a.A9 a.n9 a.c9))) e3 from ⟨(B6.out.below E3).cell 0, (B6.out.below E3).cell 1, (B6.out.below E3).cell 2, (B6.out.below E3).cell 3, (B6.out.below E3).cell 4, (B6.out.below E3).cell 5, (B6.out.below E3).cell 6, (B6.out.below E3).cell 7, (B6.out.below E3).cell 8, (B6.out.below E3).cell 9⟩))
    | (go_at_call 21; refine (HCh.out e1 (below_then B6.out.B B6.out.B.size E1)).mono ?_; rintro e e2 ⟨rfl, hb2⟩; have E2 := below_then E1 E1.size hb2; have T2 := Lib.hid (show (fun w' => (w'.cell? ⟨w.heap.size, 0, none⟩ = some (.int .i64 s.ve) ∧ w'.cell? ⟨w.heap.size, 1, none⟩ = some (.int .i64 s.ty) ∧ w'.cell? ⟨w.heap.size, 2, none⟩ = some (.int .i64 s.pu) ∧ w'.cell? ⟨w.heap.size, 3, none⟩ = some (.int .i64 s.ha) ∧ w'.cell? ⟨w.heap.size, 4, none⟩ = some (.slice a.A4 a.n4 a.c4) ∧ w'.cell? ⟨w.heap.size, 5, none⟩ = some (.slice a.A5 a.n5 a.c5) ∧ w'.cell? ⟨w.heap.size, 6, none⟩ = some (.int .u8 (s.l0.toNat : Int)) ∧ w'.cell? ⟨w.heap.size, 7, none⟩ = some (.int .u8 (s.l1.toNat : Int)) ∧ w'.cell? ⟨w.heap.size, 8, none⟩ = some (.slice a.A8 a.n8 a.c8) ∧ w'.cell? ⟨w.heap.size, 9, none⟩ = some (.slice a.A9 a.n9 a.c9))) e2 from ⟨(B6.out.below E2).cell 0, (B6.out.below E2).cell 1, (B6.out.below E2).cell 2, (B6.out.below E2).cell 3, (B6.out.below E2).cell 4, (B6.out.below E2).cell 5, (B6.out.below E2).cell 6, (B6.out.below E2).cell 7, (B6.out.below E2).cell 8, (B6.out.below E2).cell 9⟩))
    | (go_at_call 7; refine (HAl.out _).mono ?_; rintro e e1 ⟨rfl, hb1⟩; have E1 := below_then hE0 hE0.size hb1; have T1 := Lib.hid (show (fun w' => (w'.cell? ⟨w.heap.size, 0, none⟩ = some (.int .i64 s.ve) ∧ w'.cell? ⟨w.heap.size, 1, none⟩ = some (.int .i64 s.ty) ∧ w'.cell? ⟨w.heap.size, 2, none⟩ = some (.int .i64 s.pu) ∧ w'.cell? ⟨w.heap.size, 3, none⟩ = some (.int .i64 s.ha) ∧ w'.cell? ⟨w.heap.size, 4, none⟩ = some (.slice a.A4 a.n4 a.c4) ∧ w'.cell? ⟨w.heap.size, 5, none⟩ = some (.slice a.A5 a.n5 a.c5) ∧ w'.cell? ⟨w.heap.size, 6, none⟩ = some (.int .u8 (s.l0.toNat : Int)) ∧ w'.cell? ⟨w.heap.size, 7, none⟩ = some (.int .u8 (s.l1.toNat : Int)) ∧ w'.cell? ⟨w.heap.size, 8, none⟩ = some (.slice a.A8 a.n8 a.c8) ∧ w'.cell? ⟨w.heap.size, 9, none⟩ = some (.slice a.A9 a.n9 a.c9))) e1 from ⟨(B6.out.below E1).cell 0, (B6.out.below E1).cell 1, (B6.out.below E1).cell 2, (B6.out.below E1).cell 3, (B6.out.below E1).cell 4, (B6.out.below E1).cell 5, (B6.out.below E1).cell 6, (B6.out.below E1).cell 7, (B6.out.below E1).cell 8, (B6.out.below E1).cell 9⟩)))
  all_goals
    go_wp2
    go_ret
    exact ⟨rfl, below_then B6.out.B B6.out.B.size E3⟩
end Go.Proofs.Ytjbnoamoadaknaa
end
