import Derived.Test.YtjbnoamoadaknaaYSigBack16
import Derived.Test.YtjbnoamoadaknaaYSigBack6
import Derived.Test.YtjbnoamoadaknaaYSigBack15
import Derived.Deep.RegionHeld
import Derived.Deep.RegionHeld3
/- sig.Parse: the plain way, and what stands in memory on it. -/
section
namespace Go.Proofs.Ytjbnoamoadaknaa
open Go.RowKit

def noSig : SigV := ⟨0, 0, 0, 0, [], [], 0, 0, [], []⟩
def noSigA : SigA := ⟨none, 0, 0, none, 0, 0, none, 0, 0, none, 0, 0⟩
/-- The salt, by the version. -/
def saltR (l : List UInt8) (s : Rs) (ha v : Int) : List UInt8 × Rs :=
  if v = 6 then bytesR l (failR (numR l s 1).2 ((numR l s 1).1 != saltS ha) 3) (numR l s 1).1 else ([], s)
/-- From the hash on. -/
def walkS2 (l : List UInt8) (ve ty pu ha : Int) (s7 : Rs) : SigV × Int :=
  let x8 := areaR l s7 ve
  let x9 := areaR l x8.2 ve
  let x10 := bytesR l x9.2 2
  let x11 := saltR l x10.2 ha ve
  let x12 := valueR l x11.2 pu
  if x12.2.e = 0 then (⟨ve, ty, pu, ha, x8.1, x9.1, x10.1.getD 0 0, x10.1.getD 1 0, x11.1, x12.1⟩, 0) else (noSig, x12.2.e)
/-- What the reader makes of a signature's bytes. -/
def walkS (l : List UInt8) : SigV × Int :=
  let x1 := numR l ⟨0, 0⟩ 1
  let s2 := failR x1.2 (!verS x1.1) 3
  let x3 := numR l s2 1
  let x4 := numR l x3.2 1
  let s5 := failR x4.2 (!pubS x4.1) 9
  let x6 := numR l s5 1
  let s7 := failR x6.2 (!mayS x6.1 x1.1) 9
  walkS2 l x1.1 x3.1 x4.1 x6.1 s7

/-- On the way: the reader's blocks, the signature's block L, the result's block (the first one). -/
structure PSt (w W : World) (t g L : Nat) (l : List UInt8) (st : Rs) (s : SigV) (a : SigA) : Prop where
  rd : Rdr W (w.heap.size + 1) t g l st
  blk : W.heap[L]? = some (.cells (sigC s a) 27 (0, 0))
  lt : t < L
  R : W.heap[w.heap.size]? = some (.cells (sigC noSig noSigA) 27 (0, 0))
  B : Below w.heap.size w W
  h4 : OwnSq W (L + 1) (L + 1) none a.A4 a.n4 a.c4 s.hs
  h5 : OwnSq W (L + 1) (L + 1) none a.A5 a.n5 a.c5 s.us
  h8 : Own W (L + 1) a.A8 a.n8 a.c8 s.salt
  h9 : Own W (L + 1) a.A9 a.n9 a.c9 s.value
section
variable {w W W2 : World} {t g L : Nat} {l : List UInt8} {st st2 : Rs} {s : SigV} {a : SigA}
theorem PSt.ltL (H : PSt w W t g L l st s a) : L < W.heap.size := blk_lt H.blk
theorem PSt.ord (H : PSt w W t g L l st s a) : w.heap.size < g ∧ g < t ∧ t < L ∧ L < W.heap.size := ⟨H.rd.ord.1, H.rd.ord.2.1, H.lt, H.ltL⟩
/-- The reader has gone on. -/
theorem PSt.step (H : PSt w W t g L l st s a) (hr : Rdr W2 (w.heap.size + 1) t g l st2) (ht : Tws t g W W2) : PSt w W2 t g L l st2 s a := by
  obtain ⟨o1, o2, o3, o4⟩ := H.ord
  exact ⟨hr, (ht.block o4 (by omega) (by omega)).trans H.blk, H.lt, (ht.block (blk_lt H.R) (by omega) (by omega)).trans H.R, ht.below H.B H.B.size (by omega) (by omega),
    ht.subs H.h4 (by omega) (by omega) (by omega) (by omega), ht.subs H.h5 (by omega) (by omega) (by omega) (by omega), ht.own H.h8 (by omega) (by omega), ht.own H.h9 (by omega) (by omega)⟩
/-- The signature's block is written. -/
theorem PSt.other (H : PSt w W t g L l st s a) (hg : W.grownBy W2 (some L)) {s2 : SigV} {a2 : SigA} (hb : W2.heap[L]? = some (.cells (sigC s2 a2) 27 (0, 0)))
    (h4 : OwnSq W2 (L + 1) (L + 1) none a2.A4 a2.n4 a2.c4 s2.hs) (h5 : OwnSq W2 (L + 1) (L + 1) none a2.A5 a2.n5 a2.c5 s2.us) (h8 : Own W2 (L + 1) a2.A8 a2.n8 a2.c8 s2.salt) (h9 : Own W2 (L + 1) a2.A9 a2.n9 a2.c9 s2.value) : PSt w W2 t g L l st s2 a2 := by
  obtain ⟨o1, o2, o3, o4⟩ := H.ord
  refine ⟨H.rd.other hg H.lt, hb, H.lt, (hg.block _ (blk_lt H.R) (fun e => ?_)).trans H.R, H.B.grown hg H.B.size (fun k e => ?_), h4, h5, h8, h9⟩
  · have e2 : w.heap.size = L := Option.some.inj e
    omega
  · have e2 : L = k := Option.some.inj e
    omega
theorem subs_L (hg : W.grownBy W2 (some L)) {A : Option Addr} {n c : Nat} {ss : List SubV} (h : OwnSq W (L + 1) (L + 1) none A n c ss) : OwnSq W2 (L + 1) (L + 1) none A n c ss := h.old hg (Nat.lt_succ_self _) (Nat.lt_succ_self _)
theorem own_L (hg : W.grownBy W2 (some L)) {A : Option Addr} {n c : Nat} {x : List UInt8} (h : Own W (L + 1) A n c x) : Own W2 (L + 1) A n c x :=
  h.grown hg (fun ad e e2 => by
    have h1 := (h.blk ad e).1
    have h2 : ad.block = L := Option.some.inj e2
    omega)
/-- A number is stored. -/
theorem PSt.num (H : PSt w W t g L l st s a) {i : Nat} {x : Int} {s2 : SigV} (hc : (sigC s a).setIfInBounds i (.int .i64 x) = sigC s2 a) (e4 : s2.hs = s.hs) (e5 : s2.us = s.us) (e8 : s2.salt = s.salt) (e9 : s2.value = s.value)
    (h : W.setCell ⟨L, i, none⟩ (.int .i64 x) = W2) : PSt w W2 t g L l st s2 a := by
  subst h
  have hg := grown_setCell W L i (.int .i64 x)
  exact H.other hg (hc ▸ blk_set H.blk i _) (e4 ▸ subs_L hg H.h4) (e5 ▸ subs_L hg H.h5) (e8 ▸ own_L hg H.h8) (e9 ▸ own_L hg H.h9)
theorem PSt.set4 (H : PSt w W t g L l st s a) {A : Option Addr} {n c : Nat} {ss : List SubV} (ho : OwnSq W (L + 1) (L + 1) none A n c ss) (h : W.setCell ⟨L, 4, none⟩ (.slice A n c) = W2) :
    PSt w W2 t g L l st { s with hs := ss } { a with A4 := A, n4 := n, c4 := c } := by
  subst h
  have hg := grown_setCell W L 4 (.slice A n c)
  exact H.other hg (blk_set H.blk 4 _) (subs_L hg ho) (subs_L hg H.h5) (own_L hg H.h8) (own_L hg H.h9)
theorem PSt.set5 (H : PSt w W t g L l st s a) {A : Option Addr} {n c : Nat} {ss : List SubV} (ho : OwnSq W (L + 1) (L + 1) none A n c ss) (h : W.setCell ⟨L, 5, none⟩ (.slice A n c) = W2) :
    PSt w W2 t g L l st { s with us := ss } { a with A5 := A, n5 := n, c5 := c } := by
  subst h
  have hg := grown_setCell W L 5 (.slice A n c)
  exact H.other hg (blk_set H.blk 5 _) (subs_L hg H.h4) (subs_L hg ho) (own_L hg H.h8) (own_L hg H.h9)
theorem PSt.set8 (H : PSt w W t g L l st s a) {A : Option Addr} {n c : Nat} {x : List UInt8} (ho : Own W (L + 1) A n c x) (h : W.setCell ⟨L, 8, none⟩ (.slice A n c) = W2) :
    PSt w W2 t g L l st { s with salt := x } { a with A8 := A, n8 := n, c8 := c } := by
  subst h
  have hg := grown_setCell W L 8 (.slice A n c)
  exact H.other hg (blk_set H.blk 8 _) (subs_L hg H.h4) (subs_L hg H.h5) (own_L hg ho) (own_L hg H.h9)
theorem PSt.set9 (H : PSt w W t g L l st s a) {A : Option Addr} {n c : Nat} {x : List UInt8} (ho : Own W (L + 1) A n c x) (h : W.setCell ⟨L, 9, none⟩ (.slice A n c) = W2) :
    PSt w W2 t g L l st { s with value := x } { a with A9 := A, n9 := n, c9 := c } := by
  subst h
  have hg := grown_setCell W L 9 (.slice A n c)
  exact H.other hg (blk_set H.blk 9 _) (subs_L hg H.h4) (subs_L hg H.h5) (own_L hg H.h8) (own_L hg ho)
theorem PSt.cell (H : PSt w W t g L l st s a) (i : Nat) : W.cell? ⟨L, i, none⟩ = (sigC s a)[i]? := blk_cell H.blk i
theorem PSt.free (H : PSt w W t g L l st s a) (i : Nat) : W.frozen? ⟨L, i, none⟩ = false := blk_frozen H.blk i
end

/-- copy into the left field, as a step of a drawn region. -/
theorem step_left {w : World} {ops : Array Oper} {o : Oper} {a : Act} {K : Act → World → Prop} {Q : Exit → Act → World → Prop} {E : Prop} (s x : Operand) (hgd : o.guard = none)
    (ho : o.op = .call { callee := .builtin .copy, args := #[s, x], argTypes := #[22, 22] })
    {L : Nat} {v : SigV} {ad : SigA} (h0 : v.l0 = 0) (h1 : v.l1 = 0) (hs : a.eval s = .slice (some ⟨L, 6, none⟩) 2 2) {A : Option Addr} {m c : Nat} {lb : List UInt8} (hx : a.eval x = .slice A m c) (hr : Bs w A m c lb) (hm : m = 0 ∨ m = 2)
    (hL : w.heap[L]? = some (.cells (sigC v ad) 27 (0, 0)))
    (h : ∀ w', w'.heap[L]? = some (.cells (sigC { v with l0 := lb.getD 0 0, l1 := lb.getD 1 0 } ad) 27 (0, 0)) → w.grownBy w' (some L) → K (a.put o.dst (goInt m)) w') :
    if Region.wanted o (yielded ops a.tmps) = true then Oper.wp Try.prog o a w K Q else E := by
  have hw : Region.wanted o (yielded ops a.tmps) = true := by simp [Region.wanted, hgd]
  rw [if_pos hw]
  have hsz : (Try.prog.info? 5).map (·.size) = some 1 := by kernel_rfl
  rcases hm with rfl | rfl
  · have e0 : lb = [] := List.eq_nil_of_length_eq_zero hr.2
    subst e0
    have hrun := run_copy_none (P := Try.prog) w 22 22 o.type 5 (some ⟨L, 6, none⟩) A 2 2 0 c Try.underlying22 hsz (by simp)
    unfold Oper.wp
    simp [execOp, ho, resolve, invoke, builtin, hs, hx, hrun, Result.andThen]
    refine h w ?_ (World.grownBy.refl _ _)
    rw [hL]
    simp [sigC, h0, h1]
  · obtain ⟨p, q, rfl⟩ : ∃ p q, lb = [p, q] := by
      match lb, hr.2 with
      | [p, q], _ => exact ⟨p, q, rfl⟩
    obtain ⟨sa, rfl, _, hcell⟩ := hr.1.2.2 (by simp)
    have hrun := run_copy_row (P := Try.prog) w 22 22 o.type 5 L 6 2 2 sa 2 c (sigC v ad) 27 [bv p, bv q] Try.underlying22 hsz hL (by simp) hcell (by simp) (by intro u hu; simp at hu; rcases hu with rfl | rfl <;> rfl)
    unfold Oper.wp
    simp [execOp, ho, resolve, invoke, builtin, hs, hx, hrun, Result.andThen]
    refine h _ (setRow_heap w L _ _ _ _ hL) ⟨rfl, rfl, rfl, by simp [World.setRow], fun k _ hk => setRow_other w L k _ (fun e => hk (by simp [e]))⟩
end Go.Proofs.Ytjbnoamoadaknaa
end

/- Signatures: whether one may be: sig.may, the document's may. -/
section
namespace Go.Proofs.Ytjbnoamoadaknaa
open Go.RowKit

set_option maxRecDepth 100000 in
set_option maxHeartbeats 3200000 in
theorem isSalt_calls {s : SigV} {a : SigA} {w : World} (h8 : a.n8 = s.salt.length) :
    Calls Try.prog 85 #[.agg (sigC s a)] w fun e w' => e = .returned (.bool (saltOk s.ve s.ha s.salt.length)) ∧ Below w.heap.size w w' := by
  have HN := Lib.hid h8
  clear h8
  go_enter Try.func85, Try.ntmps85
  go_upto_region 1 with fail
  go_name_world w1 hw1
  have H1 : Box w w1 27 (sigC s a) := Box.mk_ hw1
  clear hw1
  have k0 : w1.cell? ⟨w.heap.size, 0, none⟩ = some (.int .i64 s.ve) := H1.cell 0
  have k3 : w1.cell? ⟨w.heap.size, 3, none⟩ = some (.int .i64 s.ha) := H1.cell 3
  have k8 : w1.cell? ⟨w.heap.size, 8, none⟩ = some (.slice a.A8 a.n8 a.c8) := H1.cell 8
  have HB := Lib.hid H1.B
  clear H1
  by_cases h4 : s.ve = 4
  · have d4 : (s.ve == 4) = true := beq_iff_eq.2 h4
    have HR := Lib.hid (show saltOk s.ve s.ha s.salt.length = ((a.n8 : Int) == 0) by
      rw [saltOk, if_pos h4, HN.out]
      by_cases h0 : s.salt.length = 0
      · rw [h0]; rfl
      · rw [decide_eq_false h0, beq_eq_false_iff_ne.2 (by omega)])
    clear h4
    go_wp2
    go_ret
    exact ⟨by rw [HR.out] <;> first | rfl | simp, HB.out⟩
  have d4 : (s.ve == 4) = false := beq_eq_false_iff_ne.2 h4
  have HK := Lib.hid (fun W => show Calls Try.prog 15 #[.int .i64 s.ha] W fun e w' => e = .returned (.int .i64 (saltS s.ha)) ∧ w' = W from (SaltSize_calls s.ha W).mono fun _ _ h => ⟨h.1, h.2.symm⟩)
  have HR := Lib.hid (show saltOk s.ve s.ha s.salt.length = ((a.n8 : Int) == saltS s.ha) by
    rw [saltOk, if_neg h4, HN.out]
    by_cases h0 : (s.salt.length : Int) = saltS s.ha
    · rw [decide_eq_true h0, beq_iff_eq.2 h0]
    · rw [decide_eq_false h0, beq_eq_false_iff_ne.2 h0])
  generalize saltS s.ha = sz at HK HR
  clear h4
  go_upto_region 3 with fail
  go_quiet ((go_at_call 15; exact Calls.quiet_of_same (HK.out _)))
  go_wp2
  go_ret
  exact ⟨by rw [HR.out] <;> first | rfl | simp, below_drewN HB.out _⟩

set_option maxRecDepth 100000 in
set_option maxHeartbeats 3200000 in
theorem isValue_calls {s : SigV} {a : SigA} {w : World} (h9 : Bs w a.A9 a.n9 a.c9 s.value) (hn : a.n9 ≤ 100000) :
    Calls Try.prog 86 #[.agg (sigC s a)] w fun e w' => e = .returned (.bool (valOk s.pu s.value)) ∧ Below w.heap.size w w' := by
  go_enter Try.func86, Try.ntmps86
  go_upto_region 1 with fail
  go_name_world w1 hw1
  have H1 : Box w w1 27 (sigC s a) := Box.mk_ hw1
  clear hw1
  have k2 : w1.cell? ⟨w.heap.size, 2, none⟩ = some (.int .i64 s.pu) := H1.cell 2
  have k9 : w1.cell? ⟨w.heap.size, 9, none⟩ = some (.slice a.A9 a.n9 a.c9) := H1.cell 9
  have HB := Lib.hid H1.B
  by_cases h4 : s.pu = 27
  · have d4 : (s.pu == 27) = true := beq_iff_eq.2 h4
    have HR := Lib.hid (show valOk s.pu s.value = ((a.n9 : Int) == 64) by
      rw [valOk, if_pos h4, h9.2]
      by_cases h0 : a.n9 = 64
      · rw [h0]; rfl
      · rw [decide_eq_false h0, beq_eq_false_iff_ne.2 (by omega)])
    clear h4 h9 H1
    go_wp2
    go_ret
    exact ⟨by rw [HR.out] <;> first | rfl | simp, HB.out⟩
  have d4 : (s.pu == 27) = false := beq_eq_false_iff_ne.2 h4
  have HR := Lib.hid (show valOk s.pu s.value = (decide (bytesN (nb s.value) = s.value) && decide (nbits (nb s.value) ≤ 16384)) by rw [valOk, if_neg h4])
  have HRd := Lib.hid (Read_calls (H1.bs h9) hn)
  have HV := Lib.hid h9
  clear h4
  go_upto_region 4 with (go_at_call 37; refine HRd.out.mono ?_; rintro e w2 ⟨A2, m2, xs, rfl, hr2, hlo, htr, hnum, hA2, hm2, hb2⟩)
  have H2 := H1.below hb2
  have hE0 := (Below.refl w2.heap.size w2).drew
  have HQ1 := Lib.hid (fun W (hW : Below w2.heap.size w2 W) => Bytes_calls (hr2.below hW) hlo (by omega))
  have HQ3 := Lib.hid (fun W (hW : Below w2.heap.size w2 W) => Bits_calls (hr2.below hW) hlo (by omega))
  have HQ2 := Lib.hid (fun W A m c (hW : Below w2.heap.size w2 W) (h : Bs W A m c (bytesN (num 4294967296 xs))) => Equal_calls h ((H2.bs h9).below hW))
  rw [hnum] at HQ1 HQ2 HQ3
  have HB2 := Lib.hid H2.B
  have T2 := Lib.hid (show w2.drew.cell? ⟨w.heap.size, 9, none⟩ = some (.slice a.A9 a.n9 a.c9) from H2.cell 9)
  clear hr2 hlo htr hnum hA2 hm2 hb2 k2 k9 H1 h9 HRd hn
  by_cases heq : bytesN (nb s.value) = s.value
  rotate_left
  · rw [decide_eq_false heq] at HQ2
    have HR2 := Lib.hid (show valOk s.pu s.value = false by rw [HR.out, decide_eq_false heq]; rfl)
    clear heq
    first
    | (go_region_held (fun w' => w'.cell? ⟨w.heap.size, 9, none⟩ = some (.slice a.A9 a.n9 a.c9)) (first | with_reducible exact T2.out | with_reducible exact T3.out) (first
      | (go_at_call 65; refine (HQ3.out e3 E3.out).mono ?_; rintro e e4 ⟨rfl, hb4⟩; have E4 := Lib.hid (below_then E3.out E3.out.size hb4); have T4 := Lib.hid (show e4.cell? ⟨w.heap.size, 9, none⟩ = some (.slice a.A9 a.n9 a.c9) from (H2.below E4.out).cell 9))
      | (go_at_call 58; refine (HQ2.out e3 A3 m3 c3 E3.out ho3).mono ?_; rintro e e5 ⟨rfl, rfl⟩)
      | (go_at_call 62; refine (HQ1.out _ hE0).mono ?_; rintro e e3 ⟨A3, m3, c3, rfl, ho3', hb3⟩; have ho3 := ho3'.bs; have E3 := Lib.hid (below_then hE0 hE0.size hb3); have T3 := Lib.hid (show e3.cell? ⟨w.heap.size, 9, none⟩ = some (.slice a.A9 a.n9 a.c9) from (H2.below E3.out).cell 9))))
    | fail
    all_goals
      go_wp2
      go_ret
      exact ⟨by rw [HR2.out] <;> first | rfl | simp, below_then HB2.out HB2.out.size E3.out⟩
  rw [decide_eq_true heq] at HQ2
  have HR2 := Lib.hid (show valOk s.pu s.value = decide (nbits (nb s.value) ≤ 16384) by rw [HR.out, decide_eq_true heq]; rfl)
  generalize bytesN (nb s.value) = bn at HQ1 HQ2
  generalize nbits (nb s.value) = z at HQ3 HR2
  clear heq HR
  go_region_held (fun w' => w'.cell? ⟨w.heap.size, 9, none⟩ = some (.slice a.A9 a.n9 a.c9)) (first | with_reducible exact T2.out | with_reducible exact T3.out | with_reducible exact T4.out) (first
    | (go_at_call 65; refine (HQ3.out e3 E3.out).mono ?_; rintro e e4 ⟨rfl, hb4⟩; have E4 := Lib.hid (below_then E3.out E3.out.size hb4); have T4 := Lib.hid (show e4.cell? ⟨w.heap.size, 9, none⟩ = some (.slice a.A9 a.n9 a.c9) from (H2.below E4.out).cell 9))
    | (go_at_call 58; refine (HQ2.out e3 A3 m3 c3 E3.out ho3).mono ?_; rintro e e5 ⟨rfl, rfl⟩)
    | (go_at_call 62; refine (HQ1.out _ hE0).mono ?_; rintro e e3 ⟨A3, m3, c3, rfl, ho3', hb3⟩; have ho3 := ho3'.bs; have E3 := Lib.hid (below_then hE0 hE0.size hb3); have T3 := Lib.hid (show e3.cell? ⟨w.heap.size, 9, none⟩ = some (.slice a.A9 a.n9 a.c9) from (H2.below E3.out).cell 9)))
  all_goals
    go_wp2
    go_ret
    exact ⟨by rw [HR2.out]; simp; omega, below_then HB2.out HB2.out.size E4.out⟩

set_option maxRecDepth 100000 in
set_option maxHeartbeats 3200000 in
theorem may_calls {s : SigV} {a : SigA} {w : World} (h : SigR w s a) (hn : a.n9 ≤ 100000) :
    Calls Try.prog 63 #[.agg (sigC s a)] w fun e w' => e = .returned (.bool (mayG s)) ∧ Below w.heap.size w w' := by
  have HV := Lib.hid (fun W => isVersion_calls s.ve W)
  have HP := Lib.hid (fun W => isPub_calls s.pu W)
  have HM := Lib.hid (fun W => isHash_calls s.ha s.ve W)
  go_enter Try.func63, Try.ntmps63
  go_upto_region 1 with fail
  go_name_world w1 hw1
  have H1 : Box w w1 27 (sigC s a) := Box.mk_ hw1
  clear hw1
  have k0 : w1.cell? ⟨w.heap.size, 0, none⟩ = some (.int .i64 s.ve) := H1.cell 0
  have k1 : w1.cell? ⟨w.heap.size, 1, none⟩ = some (.int .i64 s.ty) := H1.cell 1
  have k2 : w1.cell? ⟨w.heap.size, 2, none⟩ = some (.int .i64 s.pu) := H1.cell 2
  have k3 : w1.cell? ⟨w.heap.size, 3, none⟩ = some (.int .i64 s.ha) := H1.cell 3
  have k4 : w1.cell? ⟨w.heap.size, 4, none⟩ = some (.slice a.A4 a.n4 a.c4) := H1.cell 4
  have k5 : w1.cell? ⟨w.heap.size, 5, none⟩ = some (.slice a.A5 a.n5 a.c5) := H1.cell 5
  have k6 : w1.cell? ⟨w.heap.size, 6, none⟩ = some (.int .u8 (s.l0.toNat : Int)) := H1.cell 6
  have k7 : w1.cell? ⟨w.heap.size, 7, none⟩ = some (.int .u8 (s.l1.toNat : Int)) := H1.cell 7
  have k8 : w1.cell? ⟨w.heap.size, 8, none⟩ = some (.slice a.A8 a.n8 a.c8) := H1.cell 8
  have k9 : w1.cell? ⟨w.heap.size, 9, none⟩ = some (.slice a.A9 a.n9 a.c9) := H1.cell 9
  have HB := Lib.hid H1.B
  have HS := Lib.hid (fun W (hW : Below w.heap.size w W) => isSalt_calls (s := s) (a := a) (w := W) h.h8.2.symm)
  have HX := Lib.hid (fun W (hW : Below w.heap.size w W) => isValue_calls (s := s) (a := a) (h.h9.below hW) hn)
  have HH1 := Lib.hid H1
  clear h H1 hn
  by_cases h1 : verS s.ve = true
  rotate_left
  · have h1' : verS s.ve = false := by simpa using h1
    rw [h1'] at HV
    have HR := Lib.hid (show mayG s = false by simp [mayG, h1'])
    clear h1 h1'
    go_wp2_with (first
      | (go_at_call 26; refine (HV.out _).mono ?_; rintro e wq ⟨rfl, rfl⟩)
      | (go_at_call 27; refine (HP.out _).mono ?_; rintro e wq ⟨rfl, rfl⟩)
      | (go_at_call 28; refine (HM.out _).mono ?_; rintro e wq ⟨rfl, rfl⟩))
    go_ret
    exact ⟨by rw [HR.out] <;> first | rfl | simp, HB.out⟩
  rw [h1] at HV
  have K1 := Lib.hid h1
  clear h1
  by_cases h2 : 0 ≤ s.ty
  rotate_left
  · have d2 : decide (0 ≤ s.ty) = false := decide_eq_false h2
    have HR := Lib.hid (show mayG s = false by simp [mayG, d2])
    clear h2
    go_wp2_with (first
      | (go_at_call 26; refine (HV.out _).mono ?_; rintro e wq ⟨rfl, rfl⟩)
      | (go_at_call 27; refine (HP.out _).mono ?_; rintro e wq ⟨rfl, rfl⟩)
      | (go_at_call 28; refine (HM.out _).mono ?_; rintro e wq ⟨rfl, rfl⟩))
    go_ret
    exact ⟨by rw [HR.out] <;> first | rfl | simp, HB.out⟩
  have d2 : decide (0 ≤ s.ty) = true := decide_eq_true h2
  have K2 := Lib.hid d2
  by_cases h3 : s.ty ≤ 255
  rotate_left
  · have d3 : decide (s.ty ≤ 255) = false := decide_eq_false h3
    have HR := Lib.hid (show mayG s = false by simp [mayG, d3])
    clear h2 h3
    go_wp2_with (first
      | (go_at_call 26; refine (HV.out _).mono ?_; rintro e wq ⟨rfl, rfl⟩)
      | (go_at_call 27; refine (HP.out _).mono ?_; rintro e wq ⟨rfl, rfl⟩)
      | (go_at_call 28; refine (HM.out _).mono ?_; rintro e wq ⟨rfl, rfl⟩))
    go_ret
    exact ⟨by rw [HR.out] <;> first | rfl | simp, HB.out⟩
  have d3 : decide (s.ty ≤ 255) = true := decide_eq_true h3
  have K3 := Lib.hid d3
  clear h2 h3
  by_cases h4 : pubS s.pu = true
  rotate_left
  · have h4' : pubS s.pu = false := by simpa using h4
    rw [h4'] at HP
    have HR := Lib.hid (show mayG s = false by simp [mayG, h4'])
    clear h4 h4'
    go_wp2_with (first
      | (go_at_call 26; refine (HV.out _).mono ?_; rintro e wq ⟨rfl, rfl⟩)
      | (go_at_call 27; refine (HP.out _).mono ?_; rintro e wq ⟨rfl, rfl⟩)
      | (go_at_call 28; refine (HM.out _).mono ?_; rintro e wq ⟨rfl, rfl⟩))
    go_ret
    exact ⟨by rw [HR.out] <;> first | rfl | simp, HB.out⟩
  rw [h4] at HP
  have K4 := Lib.hid h4
  clear h4
  by_cases h5 : mayS s.ha s.ve = true
  rotate_left
  · have h5' : mayS s.ha s.ve = false := by simpa using h5
    rw [h5'] at HM
    have HR := Lib.hid (show mayG s = false by simp [mayG, h5'])
    clear h5 h5'
    go_wp2_with (first
      | (go_at_call 26; refine (HV.out _).mono ?_; rintro e wq ⟨rfl, rfl⟩)
      | (go_at_call 27; refine (HP.out _).mono ?_; rintro e wq ⟨rfl, rfl⟩)
      | (go_at_call 28; refine (HM.out _).mono ?_; rintro e wq ⟨rfl, rfl⟩))
    go_ret
    exact ⟨by rw [HR.out] <;> first | rfl | simp, HB.out⟩
  rw [h5] at HM
  have K5 := Lib.hid h5
  clear h5
  have HG := Lib.hid (show mayG s = (saltOk s.ve s.ha s.salt.length && valOk s.pu s.value) by simp [mayG, K1.out, of_decide_eq_true K2.out, of_decide_eq_true K3.out, K4.out, K5.out])
  generalize saltOk s.ve s.ha s.salt.length = so at HS HG
  generalize valOk s.pu s.value = vo at HX HG
  go_wp2_with (first
    | (go_at_call 26; refine (HV.out _).mono ?_; rintro e wq ⟨rfl, rfl⟩)
    | (go_at_call 27; refine (HP.out _).mono ?_; rintro e wq ⟨rfl, rfl⟩)
    | (go_at_call 28; refine (HM.out _).mono ?_; rintro e wq ⟨rfl, rfl⟩))
  refine (HS.out _ HB.out).mono ?_
  rintro e w2 ⟨rfl, hb2⟩
  have H2 := Lib.hid (HH1.out.below hb2)
  clear k0 k1 k2 k3 k4 k5 k6 k7 k8 k9 hb2
  cases so with
  | false =>
    go_wp2
    go_ret
    exact ⟨by rw [HG.out] <;> first | rfl | simp, H2.out.B⟩
  | true =>
    have k0 : w2.cell? ⟨w.heap.size, 0, none⟩ = some (.int .i64 s.ve) := H2.out.cell 0
    have k1 : w2.cell? ⟨w.heap.size, 1, none⟩ = some (.int .i64 s.ty) := H2.out.cell 1
    have k2 : w2.cell? ⟨w.heap.size, 2, none⟩ = some (.int .i64 s.pu) := H2.out.cell 2
    have k3 : w2.cell? ⟨w.heap.size, 3, none⟩ = some (.int .i64 s.ha) := H2.out.cell 3
    have k4 : w2.cell? ⟨w.heap.size, 4, none⟩ = some (.slice a.A4 a.n4 a.c4) := H2.out.cell 4
    have k5 : w2.cell? ⟨w.heap.size, 5, none⟩ = some (.slice a.A5 a.n5 a.c5) := H2.out.cell 5
    have k6 : w2.cell? ⟨w.heap.size, 6, none⟩ = some (.int .u8 (s.l0.toNat : Int)) := H2.out.cell 6
    have k7 : w2.cell? ⟨w.heap.size, 7, none⟩ = some (.int .u8 (s.l1.toNat : Int)) := H2.out.cell 7
    have k8 : w2.cell? ⟨w.heap.size, 8, none⟩ = some (.slice a.A8 a.n8 a.c8) := H2.out.cell 8
    have k9 : w2.cell? ⟨w.heap.size, 9, none⟩ = some (.slice a.A9 a.n9 a.c9) := H2.out.cell 9
    go_wp2_with fail
    refine (HX.out _ H2.out.B).mono ?_
    rintro e w3 ⟨rfl, hb3⟩
    have H3 := Lib.hid (H2.out.below hb3)
    clear hb3 k0 k1 k2 k3 k4 k5 k6 k7 k8 k9
    go_wp2
    go_ret
    exact ⟨by rw [HG.out] <;> first | rfl | simp, H3.out.B⟩

end Go.Proofs.Ytjbnoamoadaknaa
end
