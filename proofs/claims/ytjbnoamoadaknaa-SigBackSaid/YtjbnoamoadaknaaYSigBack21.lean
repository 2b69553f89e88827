import Derived.Test.YtjbnoamoadaknaaYSigBack17
import Derived.Test.YtjbnoamoadaknaaYSigBack19
import Derived.Test.YtjbnoamoadaknaaYSigBack20
/- sig.Parse. -/
section
namespace Go.Proofs.Ytjbnoamoadaknaa
open Go.RowKit

def SParsePost (x : SigV × Int) (w : World) (e : Ending) (w' : World) : Prop := ∃ a r, e = .returned (.tuple #[.agg (sigC x.1 a), .int .i64 r]) ∧ SigR w' x.1 a ∧ r = x.2 ∧ Below w.heap.size w w'
theorem bytesR_two (l : List UInt8) (s : Rs) : (bytesR l s 2).1.length = 0 ∨ (bytesR l s 2).1.length = 2 := by
  unfold bytesR takeS
  split
  · split
    · omega
    · split
      · simp
      · right; simp; omega
  · simp
theorem Rdr.new_ {w1 : World} {B g : Nat} {l : List UInt8} (hc : Cur w1 g 0 l) (hB : B ≤ g) : Rdr (w1.alloc (.cells #[.pointer (some ⟨g, 0, none⟩), .int .i64 0] 46)) B w1.heap.size g l ⟨0, 0⟩ :=
  ⟨heap_alloc_new w1 _, hc.below ((Below.refl _ w1).alloc (Nat.le_refl _) _), hB, hc.lt⟩
theorem PSt.new_ {w w1 W : World} {g : Nat} {l : List UInt8} (hR : w1.heap[w.heap.size]? = some (.cells #[.int .i64 0, .int .i64 0, .int .i64 0, .int .i64 0, .slice none 0 0, .slice none 0 0, .int .u8 0, .int .u8 0, .slice none 0 0, .slice none 0 0] 27 (0, 0))) (hB : Below w.heap.size w w1) (hc : Cur w1 g 0 l) (hg : w.heap.size < g)
    (h : (w1.alloc (.cells #[.pointer (some ⟨g, 0, none⟩), .int .i64 0] 46)).alloc (.cells #[.int .i64 0, .int .i64 0, .int .i64 0, .int .i64 0, .slice none 0 0, .slice none 0 0, .int .u8 0, .int .u8 0, .slice none 0 0, .slice none 0 0] 27) = W) : PSt w W w1.heap.size g (w1.heap.size + 1) l ⟨0, 0⟩ noSig noSigA := by
  subst h
  have hr := Rdr.new_ (B := w.heap.size + 1) hc hg
  have hb1 := (Below.refl w1.heap.size w1).alloc (Nat.le_refl _) (.cells #[.pointer (some ⟨g, 0, none⟩), .int .i64 0] 46)
  have hb2 := (Below.refl (w1.alloc (.cells #[.pointer (some ⟨g, 0, none⟩), .int .i64 0] 46)).heap.size _).alloc (Nat.le_refl _) (.cells #[.int .i64 0, .int .i64 0, .int .i64 0, .int .i64 0, .slice none 0 0, .slice none 0 0, .int .u8 0, .int .u8 0, .slice none 0 0, .slice none 0 0] 27)
  have hnew := heap_alloc_new (w1.alloc (.cells #[.pointer (some ⟨g, 0, none⟩), .int .i64 0] 46)) (.cells #[.int .i64 0, .int .i64 0, .int .i64 0, .int .i64 0, .slice none 0 0, .slice none 0 0, .int .u8 0, .int .u8 0, .slice none 0 0, .slice none 0 0] 27)
  have hB2 := below_then (below_then hB hB.size hb1) (below_then hB hB.size hb1).size hb2
  refine ⟨hr.below hb2, ?_, Nat.lt_succ_self _, ?_, hB2, OwnSq.nil_ _ _ _ _, OwnSq.nil_ _ _ _ _, Own.nil_ _ _, Own.nil_ _ _⟩
  · have e : (w1.alloc (.cells #[.pointer (some ⟨g, 0, none⟩), .int .i64 0] 46)).heap.size = w1.heap.size + 1 := by simp
    rw [e] at hnew
    exact hnew
  · have hlt := blk_lt hR
    exact ((hb2.block _ (by simp; omega)).trans (hb1.block _ hlt)).trans hR

theorem drew_cell {w : World} {p : Addr} {v : Option Value} (h : w.cell? p = v) : w.drew.cell? p = v := h

set_option maxRecDepth 100000 in
set_option maxHeartbeats 6400000 in
theorem SParse_calls {A : Option Addr} {n c : Nat} {l : List UInt8} {w : World} (h : Bs w A n c l) (hn : n ≤ 1000000) :
    Calls Try.prog 8 #[.slice A n c] w (SParsePost (walkS l) w) := by
  have hW : walkS l = walkS2 l (numR l ⟨0, 0⟩ 1).1 (numR l (failR (numR l ⟨0, 0⟩ 1).2 (!verS (numR l ⟨0, 0⟩ 1).1) 3) 1).1 (numR l (numR l (failR (numR l ⟨0, 0⟩ 1).2 (!verS (numR l ⟨0, 0⟩ 1).1) 3) 1).2 1).1
    (numR l (failR (numR l (numR l (failR (numR l ⟨0, 0⟩ 1).2 (!verS (numR l ⟨0, 0⟩ 1).1) 3) 1).2 1).2 (!pubS (numR l (numR l (failR (numR l ⟨0, 0⟩ 1).2 (!verS (numR l ⟨0, 0⟩ 1).1) 3) 1).2 1).1) 9) 1).1
    (failR (numR l (failR (numR l (numR l (failR (numR l ⟨0, 0⟩ 1).2 (!verS (numR l ⟨0, 0⟩ 1).1) 3) 1).2 1).2 (!pubS (numR l (numR l (failR (numR l ⟨0, 0⟩ 1).2 (!verS (numR l ⟨0, 0⟩ 1).1) 3) 1).2 1).1) 9) 1).2
      (!mayS (numR l (failR (numR l (numR l (failR (numR l ⟨0, 0⟩ 1).2 (!verS (numR l ⟨0, 0⟩ 1).1) 3) 1).2 1).2 (!pubS (numR l (numR l (failR (numR l ⟨0, 0⟩ 1).2 (!verS (numR l ⟨0, 0⟩ 1).1) 3) 1).2 1).1) 9) 1).1 (numR l ⟨0, 0⟩ 1).1) 9) := rfl
  have hll : l.length ≤ 1000000 := by rw [h.2]; exact hn
  have d1 := fun W B t g (hr : Rdr W B t g l ⟨0, 0⟩) => rdNumber_calls hr 1 (by omega)
  generalize numR l ⟨0, 0⟩ 1 = x1 at hW d1
  obtain ⟨v, s1⟩ := x1
  simp only at hW d1
  have dV := fun W => isVersion_calls v W
  generalize verS v = vb at hW dV
  have d2 := fun W B t g (hr : Rdr W B t g l s1) => rdFail_calls hr (!vb) 3
  generalize failR s1 (!vb) 3 = s2 at hW d2
  have d3 := fun W B t g (hr : Rdr W B t g l s2) => rdNumber_calls hr 1 (by omega)
  generalize numR l s2 1 = x3 at hW d3
  obtain ⟨ty, s3⟩ := x3
  simp only at hW d3
  have d4 := fun W B t g (hr : Rdr W B t g l s3) => rdNumber_calls hr 1 (by omega)
  generalize numR l s3 1 = x4 at hW d4
  obtain ⟨pu, s4⟩ := x4
  simp only at hW d4
  have dP := fun W => isPub_calls pu W
  generalize pubS pu = pb at hW dP
  have d5 := fun W B t g (hr : Rdr W B t g l s4) => rdFail_calls hr (!pb) 9
  generalize failR s4 (!pb) 9 = s5 at hW d5
  have d6 := fun W B t g (hr : Rdr W B t g l s5) => rdNumber_calls hr 1 (by omega)
  generalize numR l s5 1 = x6 at hW d6
  obtain ⟨ha, s6⟩ := x6
  simp only at hW d6
  have dM := fun W => isHash_calls ha v W
  generalize mayS ha v = mb at hW dM
  have d7 := fun W B t g (hr : Rdr W B t g l s6) => rdFail_calls hr (!mb) 9
  generalize failR s6 (!mb) 9 = s7 at hW d7
  rw [walkS2] at hW
  have d8 := fun W B t g (hr : Rdr W B t g l s7) => area_calls hr v
  unfold AreaPost at d8
  generalize areaR l s7 v = x8 at hW d8
  obtain ⟨hs, s8⟩ := x8
  simp only at hW d8
  have d9 := fun W B t g (hr : Rdr W B t g l s8) => area_calls hr v
  unfold AreaPost at d9
  generalize areaR l s8 v = x9 at hW d9
  obtain ⟨us, s9⟩ := x9
  simp only at hW d9
  have d10 := fun W B t g (hr : Rdr W B t g l s9) => rdBytes_calls hr 2
  have hlb := bytesR_two l s9
  generalize bytesR l s9 2 = x10 at hW d10 hlb
  obtain ⟨lb, s10⟩ := x10
  simp only at hW d10 hlb
  have hsalt : saltR l s10 ha v = saltR l s10 ha v := rfl
  generalize hx11 : saltR l s10 ha v = x11 at hW
  clear hsalt
  obtain ⟨salt, s11⟩ := x11
  simp only at hW
  have d12 := fun W B t g (hr : Rdr W B t g l s11) => value_calls hr hll pu
  unfold ValuePost at d12
  generalize valueR l s11 pu = x12 at hW d12
  obtain ⟨value, s12⟩ := x12
  simp only at hW d12
  have HW := Lib.hid hW
  have HLB := Lib.hid hlb
  have H11 := Lib.hid hx11
  have C1 := Lib.hid d1
  have C2 := Lib.hid d2
  have C3 := Lib.hid d3
  have C4 := Lib.hid d4
  have C5 := Lib.hid d5
  have C6 := Lib.hid d6
  have C7 := Lib.hid d7
  have C8 := Lib.hid d8
  have C9 := Lib.hid d9
  have C10 := Lib.hid d10
  have C12 := Lib.hid d12
  have CV := Lib.hid dV
  have CP := Lib.hid dP
  have CM := Lib.hid dM
  clear hW hlb hx11 d1 d2 d3 d4 d5 d6 d7 d8 d9 d10 d12 dV dP dM
  have hR0 := heap_alloc_new w (.cells #[.int .i64 0, .int .i64 0, .int .i64 0, .int .i64 0, .slice none 0 0, .slice none 0 0, .int .u8 0, .int .u8 0, .slice none 0 0, .slice none 0 0] 27)
  have hB0 := (Below.refl w.heap.size w).alloc (Nat.le_refl _) (.cells #[.int .i64 0, .int .i64 0, .int .i64 0, .int .i64 0, .slice none 0 0, .slice none 0 0, .int .u8 0, .int .u8 0, .slice none 0 0, .slice none 0 0] 27)
  have hOv := Over_calls (h.below hB0) (by omega)
  have HOv := Lib.hid hOv
  have HR0 := Lib.hid hR0
  have HB0 := Lib.hid hB0
  have HZ := Lib.hid (show (w.alloc (.cells #[.int .i64 0, .int .i64 0, .int .i64 0, .int .i64 0, .slice none 0 0, .slice none 0 0, .int .u8 0, .int .u8 0, .slice none 0 0, .slice none 0 0] 27)).heap.size = w.heap.size + 1 by simp)
  clear hOv hR0 hB0 h
  go_enter Try.func8, Try.ntmps8
  go_upto_region 3 with (go_at_call 23; refine HOv.out.mono ?_; rintro e w1 ⟨g, rfl, hg, hc, hb1⟩)
  go_name_world w3 hw3
  rw [HZ.out] at hg
  have P3 := Lib.hid (PSt.new_ ((hb1.block _ (by rw [HZ.out]; omega)).trans HR0.out) (below_then HB0.out HB0.out.size hb1) hc hg hw3)
  clear hw3 hg hc hb1
  generalize w1.heap.size = t at P3 ⊢
  go_upto_region 4 with (go_at_call 24; refine (C1.out _ _ _ _ P3.out.rd).mono ?_; rintro e w4 ⟨rfl, hr, ht⟩; have P4 := Lib.hid (P3.out.step hr (Tws.of_two ht)); have kf := P4.out.free 0; have kc : w4.cell? ⟨t + 1, 0, none⟩ = some (.int .i64 0) := P4.out.cell 0; clear hr ht P3)
  go_name_world w5 hw5
  have P5 := Lib.hid (P4.out.num (i := 0) (x := v) (s2 := ⟨v, 0, 0, 0, [], [], 0, 0, [], []⟩) rfl rfl rfl rfl rfl hw5)
  clear hw5 kf kc P4
  have c0 : w5.cell? ⟨t + 1, 0, none⟩ = some (.int .i64 v) := P5.out.cell 0
  go_upto_region 5 with (first
    | (go_at_call 26; refine (CV.out _).mono ?_; rintro e wq ⟨rfl, rfl⟩)
    | (go_at_call 25; refine (C2.out _ _ _ _ P5.out.rd).mono ?_; rintro e w6 ⟨rfl, hr, ht⟩; have P6 := Lib.hid (P5.out.step hr (Tws.of_two ht)); clear hr ht P5 c0))
  go_upto_region 6 with (go_at_call 24; refine (C3.out _ _ _ _ P6.out.rd).mono ?_; rintro e w7 ⟨rfl, hr, ht⟩; have P7 := Lib.hid (P6.out.step hr (Tws.of_two ht)); have kf := P7.out.free 1; have kc : w7.cell? ⟨t + 1, 1, none⟩ = some (.int .i64 0) := P7.out.cell 1; clear hr ht P6)
  go_name_world w8 hw8
  have P8 := Lib.hid (P7.out.num (i := 1) (x := ty) (s2 := ⟨v, ty, 0, 0, [], [], 0, 0, [], []⟩) rfl rfl rfl rfl rfl hw8)
  clear hw8 kf kc P7
  go_upto_region 7 with (go_at_call 24; refine (C4.out _ _ _ _ P8.out.rd).mono ?_; rintro e w9 ⟨rfl, hr, ht⟩; have P9 := Lib.hid (P8.out.step hr (Tws.of_two ht)); have kf := P9.out.free 2; have kc : w9.cell? ⟨t + 1, 2, none⟩ = some (.int .i64 0) := P9.out.cell 2; clear hr ht P8)
  go_name_world w10 hw10
  have P10 := Lib.hid (P9.out.num (i := 2) (x := pu) (s2 := ⟨v, ty, pu, 0, [], [], 0, 0, [], []⟩) rfl rfl rfl rfl rfl hw10)
  clear hw10 kf kc P9
  have c2 : w10.cell? ⟨t + 1, 2, none⟩ = some (.int .i64 pu) := P10.out.cell 2
  go_upto_region 8 with (first
    | (go_at_call 27; refine (CP.out _).mono ?_; rintro e wq ⟨rfl, rfl⟩)
    | (go_at_call 25; refine (C5.out _ _ _ _ P10.out.rd).mono ?_; rintro e w11 ⟨rfl, hr, ht⟩; have P11 := Lib.hid (P10.out.step hr (Tws.of_two ht)); clear hr ht P10 c2))
  go_upto_region 9 with (go_at_call 24; refine (C6.out _ _ _ _ P11.out.rd).mono ?_; rintro e w12 ⟨rfl, hr, ht⟩; have P12 := Lib.hid (P11.out.step hr (Tws.of_two ht)); have kf := P12.out.free 3; have kc : w12.cell? ⟨t + 1, 3, none⟩ = some (.int .i64 0) := P12.out.cell 3; clear hr ht P11)
  go_name_world w13 hw13
  have P13 := Lib.hid (P12.out.num (i := 3) (x := ha) (s2 := ⟨v, ty, pu, ha, [], [], 0, 0, [], []⟩) rfl rfl rfl rfl rfl hw13)
  clear hw13 kf kc P12
  have c3 : w13.cell? ⟨t + 1, 3, none⟩ = some (.int .i64 ha) := P13.out.cell 3
  have c0 : w13.cell? ⟨t + 1, 0, none⟩ = some (.int .i64 v) := P13.out.cell 0
  go_upto_region 10 with (first
    | (go_at_call 28; refine (CM.out _).mono ?_; rintro e wq ⟨rfl, rfl⟩)
    | (go_at_call 25; refine (C7.out _ _ _ _ P13.out.rd).mono ?_; rintro e w14 ⟨rfl, hr, ht⟩; have P14 := Lib.hid (P13.out.step hr (Tws.of_two ht)); clear hr ht P13 c3 c0))
  have c0 : w14.cell? ⟨t + 1, 0, none⟩ = some (.int .i64 v) := P14.out.cell 0
  have hL := P14.out.ltL
  go_upto_region 11 with (go_at_call 29; refine (C8.out _ _ _ _ P14.out.rd).mono ?_; rintro e w15 ⟨A4, n4, c4, rfl, ho, hr, ht⟩; have P15 := Lib.hid (P14.out.step hr ht); have O := Lib.hid (ho.low (D' := t + 1 + 1) (B' := t + 1 + 1) hL hL); have kf := P15.out.free 4; have kc : w15.cell? ⟨t + 1, 4, none⟩ = some (.slice none 0 0) := P15.out.cell 4; clear hr ht ho c0 hL P14)
  go_name_world w16 hw16
  have P16 := Lib.hid (P15.out.set4 O.out hw16)
  clear hw16 kf kc P15 O
  have c0 : w16.cell? ⟨t + 1, 0, none⟩ = some (.int .i64 v) := P16.out.cell 0
  have hL := P16.out.ltL
  go_upto_region 12 with (go_at_call 29; refine (C9.out _ _ _ _ P16.out.rd).mono ?_; rintro e w17 ⟨A5, n5, c5, rfl, ho, hr, ht⟩; have P17 := Lib.hid (P16.out.step hr ht); have O := Lib.hid (ho.low (D' := t + 1 + 1) (B' := t + 1 + 1) hL hL); have kf := P17.out.free 5; have kc : w17.cell? ⟨t + 1, 5, none⟩ = some (.slice none 0 0) := P17.out.cell 5; clear hr ht ho c0 hL P16)
  go_name_world w18 hw18
  have P18 := Lib.hid (P17.out.set5 O.out hw18)
  clear hw18 kf kc P17 O
  have Q := Lib.hid (show PSt w w18 t g (t + 1) l s9 ⟨v, ty, pu, ha, hs, us, 0, 0, [], []⟩ ⟨A4, n4, c4, A5, n5, c5, none, 0, 0, none, 0, 0⟩ from P18.out)
  have Qd := Lib.hid (Q.out.step Q.out.rd.drew (Tws.of_below (Below.refl _ _).drew))
  have hls := fun W => left_slice W (t + 1) 6
  clear P18 Q
  go_region_held_law (fun _ => True) (trivial) ((first
    | (refine step_left (.tmp 54) (.tmp 56) (by rfl) (by rfl) (v := ⟨v, ty, pu, ha, hs, us, 0, 0, [], []⟩) (ad := ⟨A4, n4, c4, A5, n5, c5, none, 0, 0, none, 0, 0⟩) rfl rfl (by rfl) (by rfl) O10.out.bs hm10 P19.out.blk ?_; intro w20 hb20 hg20; have P20 := Lib.hid (P19.out.other hg20 hb20 (subs_L hg20 P19.out.h4) (subs_L hg20 P19.out.h5) (own_L hg20 P19.out.h8) (own_L hg20 P19.out.h9)); clear hb20 hg20)
    | (go_at_call 30; refine (C10.out _ _ _ _ Qd.out.rd).mono ?_; rintro e w19 ⟨A10, m10, c10, rfl, ho, hr, ht⟩; have P19 := Lib.hid (Qd.out.step hr (Tws.of_two ht)); have O10 := Lib.hid ho; have hm10 : m10 = 0 ∨ m10 = 2 := ho.2 ▸ HLB.out; clear ho hr ht)))
  clear hls
  simp only [List.getElem_toArray, List.getElem_cons_succ, List.getElem_cons_zero]
  have P := Lib.hid (show PSt w w20 t g (t + 1) l s10 ⟨v, ty, pu, ha, hs, us, lb.getD 0 0, lb.getD 1 0, [], []⟩ ⟨A4, n4, c4, A5, n5, c5, none, 0, 0, none, 0, 0⟩ from P20.out)
  clear P20 P19 Qd O10 hm10
  generalize lb.getD 0 0 = l0 at P HW
  generalize lb.getD 1 0 = l1 at P HW
  have c0 : w20.cell? ⟨t + 1, 0, none⟩ = some (.int .i64 v) := P.out.cell 0
  go_upto_if 60 with fail
  clear c0
  go_cut [6] from 7 (fun _ wx => ∃ A m c, PSt w wx t g (t + 1) l s11 ⟨v, ty, pu, ha, hs, us, l0, l1, salt, []⟩ ⟨A4, n4, c4, A5, n5, c5, A, m, c, none, 0, 0⟩)
  case first =>
    by_cases h6 : v = 6
    rotate_left
    · have d6 : (v == 6) = false := beq_eq_false_iff_ne.2 h6
      have hx := H11.out
      rw [saltR, if_neg h6] at hx
      have E := Lib.hid (Prod.mk.inj hx)
      rw [d6]
      clear hx h6 d6
      go_wp2_with fail
      go_meet
      exact ⟨none, 0, 0, by rw [← E.out.1, ← E.out.2]; exact P.out⟩
    have d6 : (v == 6) = true := beq_iff_eq.2 h6
    have hx := H11.out
    rw [saltR, if_pos h6] at hx
    have e1 := fun W B t g (hr : Rdr W B t g l s10) => rdNumber_calls hr 1 (by omega)
    generalize numR l s10 1 = y1 at hx e1
    obtain ⟨k, sA⟩ := y1
    simp only at hx e1
    have eS := fun W => SaltSize_calls ha W
    generalize saltS ha = sz at hx eS
    have e2 := fun W B t g (hr : Rdr W B t g l sA) => rdFail_calls hr (k != sz) 3
    generalize failR sA (k != sz) 3 = sB at hx e2
    have e3 := fun W B t g (hr : Rdr W B t g l sB) => rdBytes_calls hr k
    rw [hx] at e3
    have E1 := Lib.hid e1
    have ES := Lib.hid eS
    have E3 := Lib.hid e3
    rw [d6]
    clear hx e1 eS e3 h6 d6
    generalize hqb : (k != sz) = qb at e2
    have E2 := Lib.hid e2
    clear e2
    go_upto_region 15 with (go_at_call 24; refine (E1.out _ _ _ _ P.out.rd).mono ?_; rintro e w21 ⟨rfl, hr, ht⟩; have P21 := Lib.hid (P.out.step hr (Tws.of_two ht)); clear hr ht P)
    have c3 : w21.cell? ⟨t + 1, 3, none⟩ = some (.int .i64 ha) := P21.out.cell 3
    go_upto_region 16 with (first
      | (go_at_call 15; refine (ES.out _).mono ?_; rintro e wq ⟨rfl, rfl⟩)
      | (go_at_call 25; refine (E2.out _ _ _ _ P21.out.rd).mono ?_; rintro e w22 ⟨rfl, hr, ht⟩; have P22 := Lib.hid (P21.out.step hr (Tws.of_two ht)); clear hr ht P21 c3))
    clear hqb
    have hL := P22.out.ltL
    go_wp2_with (go_at_call 30; refine (E3.out _ _ _ _ P22.out.rd).mono ?_; rintro e w23 ⟨A8, m8, c8, rfl, ho, hr, ht⟩; have P23 := Lib.hid (P22.out.step hr (Tws.of_two ht)); have O8 := Lib.hid (ho.lower (B' := t + 1 + 1) hL); have kf := P23.out.free 8; have kc : w23.cell? ⟨t + 1, 8, none⟩ = some (.slice none 0 0) := P23.out.cell 8; clear hr ht ho hL P22)
    go_meet
    exact ⟨A8, m8, c8, P23.out.set8 O8.out rfl⟩
  clear P
  obtain ⟨A8, n8, c8, P⟩ := hcut
  have PP := Lib.hid P
  have c2 : wc.cell? ⟨t + 1, 2, none⟩ = some (.int .i64 pu) := P.cell 2
  have hL := P.ltL
  clear P
  go_upto_region 18 with (go_at_call 31; refine (C12.out _ _ _ _ PP.out.rd).mono ?_; rintro e w23 ⟨A9, m9, c9, rfl, ho, hr, ht⟩; have P23 := Lib.hid (PP.out.step hr ht); have O9 := Lib.hid (ho.lower (B' := t + 1 + 1) hL); have kf := P23.out.free 9; have kc : w23.cell? ⟨t + 1, 9, none⟩ = some (.slice none 0 0) := P23.out.cell 9; clear hr ht ho hL c2 PP)
  go_name_world w24 hw24
  have P := Lib.hid (show PSt w w24 t g (t + 1) l s12 ⟨v, ty, pu, ha, hs, us, l0, l1, salt, value⟩ ⟨A4, n4, c4, A5, n5, c5, A8, n8, c8, A9, m9, c9⟩ from P23.out.set9 O9.out hw24)
  clear hw24 kf kc P23 O9
  obtain ⟨q0, q1, -, -⟩ := P.out.rd.open_
  have HO := Lib.hid P.out.ord
  have hne1 : ¬ t = w.heap.size := by have := HO.out; omega
  have hne2 : ¬ w.heap.size = t := by have := HO.out; omega
  go_upto_if 83 with fail
  by_cases he : s12.e = 0
  · have d1 : (s12.e != 0) = false := by rw [bne_eq_false_iff_eq]; exact he
    have HX := Lib.hid (show walkS l = (⟨v, ty, pu, ha, hs, us, l0, l1, salt, value⟩, 0) by rw [HW.out, if_pos he])
    rw [d1]
    clear he d1 q0 q1
    have p0 : w24.cell? ⟨t + 1, 0, none⟩ = some (.int .i64 v) := P.out.cell 0
    have p1 : w24.cell? ⟨t + 1, 1, none⟩ = some (.int .i64 ty) := P.out.cell 1
    have p2 : w24.cell? ⟨t + 1, 2, none⟩ = some (.int .i64 pu) := P.out.cell 2
    have p3 : w24.cell? ⟨t + 1, 3, none⟩ = some (.int .i64 ha) := P.out.cell 3
    have p4 : w24.cell? ⟨t + 1, 4, none⟩ = some (.slice A4 n4 c4) := P.out.cell 4
    have p5 : w24.cell? ⟨t + 1, 5, none⟩ = some (.slice A5 n5 c5) := P.out.cell 5
    have p6 : w24.cell? ⟨t + 1, 6, none⟩ = some (.int .u8 (l0.toNat : Int)) := P.out.cell 6
    have p7 : w24.cell? ⟨t + 1, 7, none⟩ = some (.int .u8 (l1.toNat : Int)) := P.out.cell 7
    have p8 : w24.cell? ⟨t + 1, 8, none⟩ = some (.slice A8 n8 c8) := P.out.cell 8
    have p9 : w24.cell? ⟨t + 1, 9, none⟩ = some (.slice A9 m9 c9) := P.out.cell 9
    have Rf0 : w24.frozen? ⟨w.heap.size, 0, none⟩ = false := blk_frozen (w := w24) P.out.R 0
    have R0 : w24.cell? ⟨w.heap.size, 0, none⟩ = some (.int .i64 0) := blk_cell (w := w24) P.out.R 0
    have Rf1 : w24.frozen? ⟨w.heap.size, 1, none⟩ = false := blk_frozen (w := w24) P.out.R 1
    have R1 : w24.cell? ⟨w.heap.size, 1, none⟩ = some (.int .i64 0) := blk_cell (w := w24) P.out.R 1
    have Rf2 : w24.frozen? ⟨w.heap.size, 2, none⟩ = false := blk_frozen (w := w24) P.out.R 2
    have R2 : w24.cell? ⟨w.heap.size, 2, none⟩ = some (.int .i64 0) := blk_cell (w := w24) P.out.R 2
    have Rf3 : w24.frozen? ⟨w.heap.size, 3, none⟩ = false := blk_frozen (w := w24) P.out.R 3
    have R3 : w24.cell? ⟨w.heap.size, 3, none⟩ = some (.int .i64 0) := blk_cell (w := w24) P.out.R 3
    have Rf4 : w24.frozen? ⟨w.heap.size, 4, none⟩ = false := blk_frozen (w := w24) P.out.R 4
    have R4 : w24.cell? ⟨w.heap.size, 4, none⟩ = some (.slice none 0 0) := blk_cell (w := w24) P.out.R 4
    have Rf5 : w24.frozen? ⟨w.heap.size, 5, none⟩ = false := blk_frozen (w := w24) P.out.R 5
    have R5 : w24.cell? ⟨w.heap.size, 5, none⟩ = some (.slice none 0 0) := blk_cell (w := w24) P.out.R 5
    have Rf6 : w24.frozen? ⟨w.heap.size, 6, none⟩ = false := blk_frozen (w := w24) P.out.R 6
    have R6 : w24.cell? ⟨w.heap.size, 6, none⟩ = some (.int .u8 0) := blk_cell (w := w24) P.out.R 6
    have Rf7 : w24.frozen? ⟨w.heap.size, 7, none⟩ = false := blk_frozen (w := w24) P.out.R 7
    have R7 : w24.cell? ⟨w.heap.size, 7, none⟩ = some (.int .u8 0) := blk_cell (w := w24) P.out.R 7
    have Rf8 : w24.frozen? ⟨w.heap.size, 8, none⟩ = false := blk_frozen (w := w24) P.out.R 8
    have R8 : w24.cell? ⟨w.heap.size, 8, none⟩ = some (.slice none 0 0) := blk_cell (w := w24) P.out.R 8
    have Rf9 : w24.frozen? ⟨w.heap.size, 9, none⟩ = false := blk_frozen (w := w24) P.out.R 9
    have R9 : w24.cell? ⟨w.heap.size, 9, none⟩ = some (.slice none 0 0) := blk_cell (w := w24) P.out.R 9
    have u0 := blk_cell (setRow_block (k := w.heap.size) [.int .i64 v] 0 P.out.R) 0
    have u1 := blk_cell (setRow_block (k := w.heap.size) [.int .i64 v, .int .i64 ty] 0 P.out.R) 1
    have u2 := blk_cell (setRow_block (k := w.heap.size) [.int .i64 v, .int .i64 ty, .int .i64 pu] 0 P.out.R) 2
    have u3 := blk_cell (setRow_block (k := w.heap.size) [.int .i64 v, .int .i64 ty, .int .i64 pu, .int .i64 ha] 0 P.out.R) 3
    have u4 := blk_cell (setRow_block (k := w.heap.size) [.int .i64 v, .int .i64 ty, .int .i64 pu, .int .i64 ha, .slice A4 n4 c4] 0 P.out.R) 4
    have u5 := blk_cell (setRow_block (k := w.heap.size) [.int .i64 v, .int .i64 ty, .int .i64 pu, .int .i64 ha, .slice A4 n4 c4, .slice A5 n5 c5] 0 P.out.R) 5
    have u6 := blk_cell (setRow_block (k := w.heap.size) [.int .i64 v, .int .i64 ty, .int .i64 pu, .int .i64 ha, .slice A4 n4 c4, .slice A5 n5 c5, .int .u8 (l0.toNat : Int)] 0 P.out.R) 6
    have u7 := blk_cell (setRow_block (k := w.heap.size) [.int .i64 v, .int .i64 ty, .int .i64 pu, .int .i64 ha, .slice A4 n4 c4, .slice A5 n5 c5, .int .u8 (l0.toNat : Int), .int .u8 (l1.toNat : Int)] 0 P.out.R) 7
    have u8 := blk_cell (setRow_block (k := w.heap.size) [.int .i64 v, .int .i64 ty, .int .i64 pu, .int .i64 ha, .slice A4 n4 c4, .slice A5 n5 c5, .int .u8 (l0.toNat : Int), .int .u8 (l1.toNat : Int), .slice A8 n8 c8] 0 P.out.R) 8
    have u9 := blk_cell (setRow_block (k := w.heap.size) [.int .i64 v, .int .i64 ty, .int .i64 pu, .int .i64 ha, .slice A4 n4 c4, .slice A5 n5 c5, .int .u8 (l0.toNat : Int), .int .u8 (l1.toNat : Int), .slice A8 n8 c8, .slice A9 m9 c9] 0 P.out.R) 9
    simp only [setRow, setArr, Nat.reduceAdd, Nat.zero_add] at u0 u1 u2 u3 u4 u5 u6 u7 u8 u9
    have Q0 := Lib.hid u0
    have Q1 := Lib.hid u1
    have Q2 := Lib.hid u2
    have Q3 := Lib.hid u3
    have Q4 := Lib.hid u4
    have Q5 := Lib.hid u5
    have Q6 := Lib.hid u6
    have Q7 := Lib.hid u7
    have Q8 := Lib.hid u8
    have Q9 := Lib.hid u9
    clear u0 u1 u2 u3 u4 u5 u6 u7 u8 u9
    have hgR := setRow_grown (k := w.heap.size) [.int .i64 v, .int .i64 ty, .int .i64 pu, .int .i64 ha, .slice A4 n4 c4, .slice A5 n5 c5, .int .u8 (l0.toNat : Int), .int .u8 (l1.toNat : Int), .slice A8 n8 c8, .slice A9 m9 c9] w24 0
    simp only [setRow, Nat.reduceAdd, Nat.zero_add] at hgR
    have HGR := Lib.hid hgR
    have HBR := Lib.hid (P.out.B.grown hgR P.out.B.size (fun k e => by cases e; exact Nat.le_refl _))
    clear hgR hne1 hne2
    go_wp2
    refine bodyPost_ret (v := .tuple #[.agg #[.int .i64 v, .int .i64 ty, .int .i64 pu, .int .i64 ha, .slice A4 n4 c4, .slice A5 n5 c5, .int .u8 (l0.toNat : Int), .int .u8 (l1.toNat : Int), .slice A8 n8 c8, .slice A9 m9 c9], .int .i64 0]) (by simp [results, Try.f8, go_sem, Q0.out, Q1.out, Q2.out, Q3.out, Q4.out, Q5.out, Q6.out, Q7.out, Q8.out, Q9.out]) rfl ?_
    unfold SParsePost
    rw [HX.out]
    have ho := HO.out
    have hl1 : w.heap.size < t + 1 + 1 := by omega
    exact ⟨⟨A4, n4, c4, A5, n5, c5, A8, n8, c8, A9, m9, c9⟩, 0, rfl, ⟨(P.out.h4.old HGR.out hl1 hl1).ss, (P.out.h5.old HGR.out hl1 hl1).ss, (P.out.h8.grown HGR.out (fun ad e e2 => by have h1 := (P.out.h8.blk ad e).1; have h2 : ad.block = w.heap.size := Option.some.inj e2; omega)).bs, (P.out.h9.grown HGR.out (fun ad e e2 => by have h1 := (P.out.h9.blk ad e).1; have h2 : ad.block = w.heap.size := Option.some.inj e2; omega)).bs⟩, rfl, HBR.out⟩
  have d1 : (s12.e != 0) = true := by rw [bne_iff_ne]; exact he
  have HX := Lib.hid (show walkS l = (noSig, s12.e) by rw [HW.out, if_neg he])
  rw [d1]
  clear he d1
  have Rf0 : w24.frozen? ⟨w.heap.size, 0, none⟩ = false := blk_frozen (w := w24) P.out.R 0
  have R0 : w24.cell? ⟨w.heap.size, 0, none⟩ = some (.int .i64 0) := blk_cell (w := w24) P.out.R 0
  have Rf1 : w24.frozen? ⟨w.heap.size, 1, none⟩ = false := blk_frozen (w := w24) P.out.R 1
  have R1 : w24.cell? ⟨w.heap.size, 1, none⟩ = some (.int .i64 0) := blk_cell (w := w24) P.out.R 1
  have Rf2 : w24.frozen? ⟨w.heap.size, 2, none⟩ = false := blk_frozen (w := w24) P.out.R 2
  have R2 : w24.cell? ⟨w.heap.size, 2, none⟩ = some (.int .i64 0) := blk_cell (w := w24) P.out.R 2
  have Rf3 : w24.frozen? ⟨w.heap.size, 3, none⟩ = false := blk_frozen (w := w24) P.out.R 3
  have R3 : w24.cell? ⟨w.heap.size, 3, none⟩ = some (.int .i64 0) := blk_cell (w := w24) P.out.R 3
  have Rf4 : w24.frozen? ⟨w.heap.size, 4, none⟩ = false := blk_frozen (w := w24) P.out.R 4
  have R4 : w24.cell? ⟨w.heap.size, 4, none⟩ = some (.slice none 0 0) := blk_cell (w := w24) P.out.R 4
  have Rf5 : w24.frozen? ⟨w.heap.size, 5, none⟩ = false := blk_frozen (w := w24) P.out.R 5
  have R5 : w24.cell? ⟨w.heap.size, 5, none⟩ = some (.slice none 0 0) := blk_cell (w := w24) P.out.R 5
  have Rf6 : w24.frozen? ⟨w.heap.size, 6, none⟩ = false := blk_frozen (w := w24) P.out.R 6
  have R6 : w24.cell? ⟨w.heap.size, 6, none⟩ = some (.int .u8 0) := blk_cell (w := w24) P.out.R 6
  have Rf7 : w24.frozen? ⟨w.heap.size, 7, none⟩ = false := blk_frozen (w := w24) P.out.R 7
  have R7 : w24.cell? ⟨w.heap.size, 7, none⟩ = some (.int .u8 0) := blk_cell (w := w24) P.out.R 7
  have Rf8 : w24.frozen? ⟨w.heap.size, 8, none⟩ = false := blk_frozen (w := w24) P.out.R 8
  have R8 : w24.cell? ⟨w.heap.size, 8, none⟩ = some (.slice none 0 0) := blk_cell (w := w24) P.out.R 8
  have Rf9 : w24.frozen? ⟨w.heap.size, 9, none⟩ = false := blk_frozen (w := w24) P.out.R 9
  have R9 : w24.cell? ⟨w.heap.size, 9, none⟩ = some (.slice none 0 0) := blk_cell (w := w24) P.out.R 9
  have u0 := blk_cell (setRow_block (k := w.heap.size) [.int .i64 0] 0 P.out.R) 0
  have u1 := blk_cell (setRow_block (k := w.heap.size) [.int .i64 0, .int .i64 0] 0 P.out.R) 1
  have u2 := blk_cell (setRow_block (k := w.heap.size) [.int .i64 0, .int .i64 0, .int .i64 0] 0 P.out.R) 2
  have u3 := blk_cell (setRow_block (k := w.heap.size) [.int .i64 0, .int .i64 0, .int .i64 0, .int .i64 0] 0 P.out.R) 3
  have u4 := blk_cell (setRow_block (k := w.heap.size) [.int .i64 0, .int .i64 0, .int .i64 0, .int .i64 0, .slice none 0 0] 0 P.out.R) 4
  have u5 := blk_cell (setRow_block (k := w.heap.size) [.int .i64 0, .int .i64 0, .int .i64 0, .int .i64 0, .slice none 0 0, .slice none 0 0] 0 P.out.R) 5
  have u6 := blk_cell (setRow_block (k := w.heap.size) [.int .i64 0, .int .i64 0, .int .i64 0, .int .i64 0, .slice none 0 0, .slice none 0 0, .int .u8 0] 0 P.out.R) 6
  have u7 := blk_cell (setRow_block (k := w.heap.size) [.int .i64 0, .int .i64 0, .int .i64 0, .int .i64 0, .slice none 0 0, .slice none 0 0, .int .u8 0, .int .u8 0] 0 P.out.R) 7
  have u8 := blk_cell (setRow_block (k := w.heap.size) [.int .i64 0, .int .i64 0, .int .i64 0, .int .i64 0, .slice none 0 0, .slice none 0 0, .int .u8 0, .int .u8 0, .slice none 0 0] 0 P.out.R) 8
  have u9 := blk_cell (setRow_block (k := w.heap.size) [.int .i64 0, .int .i64 0, .int .i64 0, .int .i64 0, .slice none 0 0, .slice none 0 0, .int .u8 0, .int .u8 0, .slice none 0 0, .slice none 0 0] 0 P.out.R) 9
  simp only [setRow, setArr, Nat.reduceAdd, Nat.zero_add] at u0 u1 u2 u3 u4 u5 u6 u7 u8 u9
  have Q0 := Lib.hid u0
  have Q1 := Lib.hid u1
  have Q2 := Lib.hid u2
  have Q3 := Lib.hid u3
  have Q4 := Lib.hid u4
  have Q5 := Lib.hid u5
  have Q6 := Lib.hid u6
  have Q7 := Lib.hid u7
  have Q8 := Lib.hid u8
  have Q9 := Lib.hid u9
  clear u0 u1 u2 u3 u4 u5 u6 u7 u8 u9
  have hgR := setRow_grown (k := w.heap.size) [.int .i64 0, .int .i64 0, .int .i64 0, .int .i64 0, .slice none 0 0, .slice none 0 0, .int .u8 0, .int .u8 0, .slice none 0 0, .slice none 0 0] w24 0
  have hBU := (P.out.B.grown hgR P.out.B.size (fun k e => by cases e; exact Nat.le_refl _)).drew
  simp only [setRow, Nat.reduceAdd, Nat.zero_add] at hBU
  have HBU := Lib.hid hBU
  clear hBU
  have hT := P.out.rd.1
  have hTu := (hgR.block t (blk_lt hT) (fun e => hne1 (Option.some.inj e))).trans hT
  have t0d : (setRow w.heap.size w24 0 [.int .i64 0, .int .i64 0, .int .i64 0, .int .i64 0, .slice none 0 0, .slice none 0 0, .int .u8 0, .int .u8 0, .slice none 0 0, .slice none 0 0]).drew.cell? ⟨t, 0, none⟩ = some (.pointer (some ⟨g, 0, none⟩)) := drew_cell (blk_cell hTu 0)
  have t1d : (setRow w.heap.size w24 0 [.int .i64 0, .int .i64 0, .int .i64 0, .int .i64 0, .slice none 0 0, .slice none 0 0, .int .u8 0, .int .u8 0, .slice none 0 0, .slice none 0 0]).drew.cell? ⟨t, 1, none⟩ = some (.int .i64 s12.e) := drew_cell (blk_cell hTu 1)
  have q0d : w24.drew.cell? ⟨t, 0, none⟩ = some (.pointer (some ⟨g, 0, none⟩)) := drew_cell q0
  have q1d : w24.drew.cell? ⟨t, 1, none⟩ = some (.int .i64 s12.e) := drew_cell q1
  simp only [setRow, Nat.reduceAdd, Nat.zero_add] at t0d t1d
  clear hgR hT hTu q0 q1
  go_upto_region 19 with fail
  go_region_held (fun w' => w'.cell? ⟨t, 0, none⟩ = some (.pointer (some ⟨g, 0, none⟩)) ∧ w'.cell? ⟨t, 1, none⟩ = some (.int .i64 s12.e)) (first | with_reducible exact ⟨q0d, q1d⟩ | with_reducible exact ⟨t0d, t1d⟩) (fail)
  go_wp2
  refine bodyPost_ret (v := .tuple #[.agg #[.int .i64 0, .int .i64 0, .int .i64 0, .int .i64 0, .slice none 0 0, .slice none 0 0, .int .u8 0, .int .u8 0, .slice none 0 0, .slice none 0 0], .int .i64 s12.e]) (by simp [results, Try.f8, go_sem, Q0.out, Q1.out, Q2.out, Q3.out, Q4.out, Q5.out, Q6.out, Q7.out, Q8.out, Q9.out]) rfl ?_
  unfold SParsePost
  rw [HX.out]
  exact ⟨noSigA, s12.e, rfl, ⟨Ss.nil_ _ _, Ss.nil_ _ _, Bs.nil_ _, Bs.nil_ _⟩, rfl, HBU.out⟩
end Go.Proofs.Ytjbnoamoadaknaa
end
