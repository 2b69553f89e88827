import Derived.Test.YtjbnoamoadaknaaYSigBack4
import Derived.IntWalk
import Derived.Test.YtjbnoamoadaknaaYSigBack5
import Derived.Test.YtjbnoamoadaknaaYSigBack3
import Derived.Test.YtjbnoamoadaknaaYSigBack15
import Derived.Test.YtjbnoamoadaknaaYSigBack6
/- Subpackets few and short: the document's Small. -/
section
namespace Go.Proofs.Ytjbnoamoadaknaa
open Go.RowKit

/-- 'Small' has answered: and if it is true, they are. -/
def Small21Said (ss : List SubV) (e : Ending) : Prop := ∃ r : Bool, e = .returned (.bool r) ∧ (r = true → ss.length ≤ 60 ∧ ∀ s ∈ ss, s.2.2.length ≤ 5000)
set_option maxRecDepth 100000 in
set_option maxHeartbeats 1600000 in
theorem Small21_calls {A : Option Addr} {n c : Nat} {ss : List SubV} {w : World} (h : Ss w A n ss) (hn : n ≤ 9223372036854775807) (hl : ∀ s ∈ ss, s.2.2.length ≤ 140737488355328) :
    Calls Try.prog 38 #[.slice A n c] w fun e w' => Small21Said ss e ∧ w = w' := by
  obtain rfl := h.1
  go_enter Try.func38, Try.ntmps38
  go_wp2_with fail
  go_loop [3, 4] (fun v u => ∃ k z : Nat, v = .int .i64 z ∧ u = .int .i64 k ∧ k ≤ ss.length ∧ k ≤ 60 ∧ z ≤ 5000 ∧ Hid (∀ j (hj : j < ss.length), j < k → (ss[j]).2.2.length ≤ 5000)) (fun _ u => 60 - (intOf u).toNat)
  case atStart => exact ⟨0, 0, rfl, rfl, Nat.zero_le _, Nat.zero_le _, Nat.zero_le _, Lib.hid (fun j _ h => by omega)⟩
  case round =>
    obtain ⟨k, z, rfl, rfl, hk, hk60, hz, hall⟩ := hrel
    by_cases hlt : k < ss.length
    · obtain ⟨b, off, Ak, nk, ck, hA, hbl, hc0, hc1, hc2, hbs⟩ := h.2 k hlt
      subst hA
      have hnk : nk ≤ 140737488355328 := by have := hl (ss[k]) (List.getElem_mem hlt); have := hbs.2; omega
      have hl2 : (ss[k]).2.2.length = nk := hbs.2
      obtain ⟨y, hy⟩ : ∃ y, y = z + nk := ⟨_, rfl⟩
      have hy1 : (z : Int) + (nk : Int) = (y : Int) := by omega
      have HY := Lib.hid hy
      have HNK := Lib.hid hnk
      have HZ := Lib.hid hz
      have hw : wrap64 (y : Int) = (y : Int) := IntWalk.wrap64_in _ (by omega)
      clear hc0 hc1 hy hnk hz
      by_cases h60 : k = 60
      · subst h60
        go_wp2
        go_ret
        exact ⟨⟨false, by first | rfl | simp, fun h => by cases h⟩, rfl⟩
      · have hd2 : ((k : Int) == 60) = false := by rw [beq_eq_false_iff_ne]; omega
        by_cases h2 : 5000 < y
        · have hd : decide (5000 < (y : Int)) = true := decide_eq_true (by omega)
          have H2 := Lib.hid h2
          clear h2
          go_wp2
          go_ret
          exact ⟨⟨false, by first | rfl | simp, fun h => by cases h⟩, rfl⟩
        · have hd : decide (5000 < (y : Int)) = false := decide_eq_false (by omega)
          have H2 := Lib.hid h2
          clear h2
          go_wp2
          go_round
          case rel => exact ⟨k + 1, y, by rw [hw], by go_num, by omega, by omega, by have := H2.out; omega, Lib.hid (fun j hj hjk => by
            by_cases e : j = k
            · subst e; have := H2.out; have := HY.out; omega
            · exact hall.out j hj (by omega))⟩
          case measure => simp [intOf]; omega
    · have hke : k = ss.length := by omega
      go_wp2
      go_ret
      refine ⟨⟨true, rfl, fun _ => ⟨by omega, fun p hp => ?_⟩⟩, rfl⟩
      obtain ⟨j, hj, rfl⟩ := List.getElem_of_mem hp
      exact hall.out j hj (by omega)
end Go.Proofs.Ytjbnoamoadaknaa
end

/- bytes.Equal; whether a signature is small; whether a one-pass packet fits a signature. -/
section
namespace Go.Proofs.Ytjbnoamoadaknaa
open Go.RowKit

set_option maxHeartbeats 800000 in
theorem Equal_calls {A B : Option Addr} {n c m d : Nat} {l k : List UInt8} {w : World} (h : Bs w A n c l) (g : Bs w B m d k) :
    Calls Try.prog 58 #[.slice A n c, .slice B m d] w fun e w' => e = .returned (.bool (decide (l = k))) ∧ w = w' := by
  have h1 := h.str
  have h2 := g.str
  have HE := Lib.hid (strOf_inj (a := l) (b := k))
  generalize strOf l = x at h1 HE
  generalize strOf k = y at h2 HE
  go_enter Try.func58, Try.ntmps58
  go_wp2
  go_ret
  refine ⟨?_, rfl⟩
  have he : (x.toList == y.toList) = decide (l = k) := by
    by_cases hxy : x = y
    · rw [decide_eq_true (HE.out.1 hxy), hxy]
      exact beq_self_eq_true _
    · rw [decide_eq_false (fun h => hxy (HE.out.2 h))]
      refine beq_eq_false_iff_ne.2 fun h => hxy ?_
      have h2 : x.data.toList = y.data.toList := by simpa [ByteArray.toList_eq] using h
      exact WideShapes.bytes_inj h2
  simp [he]

/-- What Small has answered. -/
def SmallSaid (s : SigV) (e : Ending) : Prop := ∃ r : Bool, e = .returned (.bool r) ∧ (r = true → (s.hs.length ≤ 60 ∧ ∀ x ∈ s.hs, x.2.2.length ≤ 5000) ∧ (s.us.length ≤ 60 ∧ ∀ x ∈ s.us, x.2.2.length ≤ 5000) ∧ s.salt.length ≤ 100 ∧ s.value.length ≤ 2100)
set_option maxRecDepth 100000 in
set_option maxHeartbeats 1600000 in
theorem Small_calls {s : SigV} {a : SigA} {w : World} (h : SigR w s a) (b : SigB s a 140737488355328) :
    Calls Try.prog 11 #[.agg (sigC s a)] w fun e w' => SmallSaid s e ∧ Below w.heap.size w w' := by
  go_enter Try.func11, Try.ntmps11
  go_upto_region 1 with fail
  go_name_world w1 hw1
  have H1 : Box w w1 27 (sigC s a) := Box.mk_ hw1
  clear hw1
  have k4 : w1.cell? ⟨w.heap.size, 4, none⟩ = some (.slice a.A4 a.n4 a.c4) := H1.cell 4
  have k5 : w1.cell? ⟨w.heap.size, 5, none⟩ = some (.slice a.A5 a.n5 a.c5) := H1.cell 5
  have k8 : w1.cell? ⟨w.heap.size, 8, none⟩ = some (.slice a.A8 a.n8 a.c8) := H1.cell 8
  have k9 : w1.cell? ⟨w.heap.size, 9, none⟩ = some (.slice a.A9 a.n9 a.c9) := H1.cell 9
  have HS4 := Lib.hid (Small21_calls (c := a.c4) (h.h4.below H1.B) b.n4 b.b4)
  have HS5 := Lib.hid (Small21_calls (c := a.c5) (h.h5.below H1.B) b.n5 b.b5)
  have HL8 := Lib.hid h.h8.2
  have HL9 := Lib.hid h.h9.2
  have HB := Lib.hid H1.B
  clear h b H1
  go_wp2_with fail
  refine HS4.out.mono ?_
  rintro e wq ⟨⟨r, rfl, hr⟩, rfl⟩
  have HR := Lib.hid hr
  clear hr
  by_cases hr : r = true
  rotate_left
  · obtain rfl : r = false := by simpa using hr
    go_wp2
    go_ret
    exact ⟨⟨false, rfl, fun h => by cases h⟩, HB.out⟩
  · subst hr
    go_wp2_with fail
    refine HS5.out.mono ?_
    rintro e wq ⟨⟨r, rfl, hr⟩, rfl⟩
    have HR5 := Lib.hid hr
    clear hr
    by_cases hr : r = true
    rotate_left
    · obtain rfl : r = false := by simpa using hr
      go_wp2
      go_ret
      exact ⟨⟨false, rfl, fun h => by cases h⟩, HB.out⟩
    · subst hr
      by_cases h8 : a.n8 ≤ 100
      rotate_left
      · have d8 : decide ((a.n8 : Int) ≤ 100) = false := decide_eq_false (by omega)
        clear h8
        go_wp2
        go_ret
        exact ⟨⟨false, by first | rfl | simp, fun h => by cases h⟩, HB.out⟩
      · have d8 : decide ((a.n8 : Int) ≤ 100) = true := decide_eq_true (by omega)
        have H8 := Lib.hid h8
        clear h8
        by_cases h9 : a.n9 ≤ 2100
        rotate_left
        · have d9 : decide ((a.n9 : Int) ≤ 2100) = false := decide_eq_false (by omega)
          clear h9
          go_wp2
          go_ret
          exact ⟨⟨false, by first | rfl | simp, fun h => by cases h⟩, HB.out⟩
        · have d9 : decide ((a.n9 : Int) ≤ 2100) = true := decide_eq_true (by omega)
          have H9 := Lib.hid h9
          clear h9
          go_wp2
          go_ret
          exact ⟨⟨true, by first | rfl | simp, fun _ => ⟨HR.out trivial, HR5.out trivial, by rw [HL8.out]; exact H8.out, by rw [HL9.out]; exact H9.out⟩⟩, HB.out⟩

/-- Whether the version fits. -/
def fitV (v ve : Int) : Bool := (decide (v = 3) && decide (ve = 4)) || (decide (v = 6) && decide (ve = 6))
/-- Whether a one-pass packet fits a signature. -/
def fitS (v ty ha pu : Int) (salt : List UInt8) (s : SigV) : Bool := decide (ty = s.ty) && decide (ha = s.ha) && decide (pu = s.pu) && decide (salt = s.salt) && fitV v s.ve

end Go.Proofs.Ytjbnoamoadaknaa
end

/- The reader of sig: areas. -/
section
namespace Go.Proofs.Ytjbnoamoadaknaa
open Go.RowKit

/-- Only the blocks g and t were written, again and again (and new ones laid). -/
def Tws (t g : Nat) (w w' : World) : Prop := ∀ Q : World → Prop, (∀ a b x, (x = g ∨ x = t) → a.grownBy b (some x) → Q a → Q b) → Q w → Q w'
section
variable {w w1 w2 : World} {t g : Nat}
theorem Tws.refl (t g : Nat) (w : World) : Tws t g w w := fun _ _ h => h
theorem Tws.trans (h : Tws t g w w1) (k : Tws t g w1 w2) : Tws t g w w2 := fun Q hs hq => k Q hs (h Q hs hq)
theorem Tws.of_two (h : Two w w1 t g) : Tws t g w w1 := fun _ hs hq => by
  obtain ⟨a, h1, h2⟩ := h
  exact hs a w1 t (.inr rfl) h2 (hs w a g (.inl rfl) h1 hq)
theorem Tws.of_cur (h : w.grownBy w1 (some g)) : Tws t g w w1 := fun Q hs hq => hs w w1 g (.inl rfl) h hq
theorem Tws.of_below (h : Below w.heap.size w w1) : Tws t g w w1 := fun Q hs hq => hs w w1 g (.inl rfl) (grown_of_below h _) hq
theorem Tws.size (h : Tws t g w w1) : w.heap.size ≤ w1.heap.size := h (fun W => w.heap.size ≤ W.heap.size) (fun a b x _ hg hq => Nat.le_trans hq hg.size) (Nat.le_refl _)
theorem Tws.block (h : Tws t g w w1) {k : Nat} (hk : k < w.heap.size) (hg : k ≠ g) (ht : k ≠ t) : w1.heap[k]? = w.heap[k]? :=
  (h (fun W => w.heap.size ≤ W.heap.size ∧ W.heap[k]? = w.heap[k]?) (fun a b x hx hgr hq => ⟨Nat.le_trans hq.1 hgr.size, (hgr.block k (Nat.lt_of_lt_of_le hk hq.1) (fun e => by
    have e2 : k = x := Option.some.inj e
    rcases hx with rfl | rfl
    · exact hg e2
    · exact ht e2)).trans hq.2⟩) ⟨Nat.le_refl _, rfl⟩).2
theorem Tws.below {w0 : World} {B : Nat} (h : Tws t g w w1) (hb : Below B w0 w) (hB : B ≤ w.heap.size) (hg : B ≤ g) (ht : B ≤ t) : Below B w0 w1 :=
  (h (fun W => B ≤ W.heap.size ∧ Below B w0 W) (fun a b x hx hgr hq => ⟨Nat.le_trans hq.1 hgr.size, hq.2.grown hgr hq.1 (fun k e => by
    have e2 : x = k := Option.some.inj e
    rcases hx with rfl | rfl <;> omega)⟩) ⟨hB, hb⟩).2
theorem Tws.own {C n c : Nat} {A : Option Addr} {l : List UInt8} (h : Tws t g w w1) (ho : Own w C A n c l) (hg : g < C) (ht : t < C) : Own w1 C A n c l :=
  h (fun W => Own W C A n c l) (fun a b x hx hgr hq => hq.grown hgr (fun ad e e2 => by
    have h1 := (hq.blk ad e).1
    have h2 : ad.block = x := Option.some.inj e2
    rcases hx with rfl | rfl <;> omega)) ho
theorem Tws.subs {D C n c : Nat} {A : Option Addr} {ss : List SubV} (h : Tws t g w w1) (ho : OwnSq w D C none A n c ss) (hg : g < D) (ht : t < D) (hg2 : g < C) (ht2 : t < C) : OwnSq w1 D C none A n c ss :=
  h (fun W => OwnSq W D C none A n c ss) (fun a b x hx hgr hq => by
    rcases hx with rfl | rfl
    · exact hq.old hgr hg hg2
    · exact hq.old hgr ht ht2) ho
end

/-- What the next area comes to. -/
def areaR (l : List UInt8) (s : Rs) (v : Int) : List SubV × Rs :=
  let n := numR l s (widS v : Nat)
  let b := bytesR l n.2 n.1
  if b.2.e = 0 then ((parseF b.1).1, failR (failR b.2 (decide ((parseF b.1).2 ≠ 0)) (parseF b.1).2) (!decide ((emitF (parseF b.1).1).1 = b.1)) 3) else ([], b.2)

theorem slenR_len (b : List UInt8) : (slenR b).2.1.length ≤ b.length := by
  cases b with
  | nil => simp [slenR]
  | cons x r =>
    rw [slenR]
    split
    · simp
    · split
      · cases r with
        | nil => simp [twoR]
        | cons y q => simp [twoR]; omega
      · split
        · simp
        · simp; omega
theorem stake_len (b : List UInt8) : (stakeR b).1.2.2.length ≤ b.length ∧ ((stakeR b).2.2 = 0 → (stakeR b).2.1.length ≤ b.length) := by
  have h := slenR_len b
  rw [stakeR]
  split
  · exact ⟨by simp, by simp⟩
  · split
    · exact ⟨by simp, by simp⟩
    · split
      · exact ⟨by simp, by simp⟩
      · refine ⟨?_, fun _ => ?_⟩
        · simp only [List.length_drop, List.length_take]; omega
        · simp only [List.length_drop]; omega
theorem parseT_lens : ∀ (f : Nat) (acc : List SubV) (b : List UInt8) (M : Nat), b.length ≤ M → (∀ x ∈ acc, x.2.2.length ≤ M) → acc.length ≤ 40 → (∀ x ∈ (parseT f acc b).1, x.2.2.length ≤ M) ∧ (parseT f acc b).1.length ≤ 40 := by
  intro f
  induction f with
  | zero => intro acc b M hb ha hl; exact ⟨ha, hl⟩
  | succ f ih =>
    intro acc b M hb ha hl
    rw [parseT]
    split
    · exact ⟨ha, hl⟩
    · split
      · exact ⟨by simp, by simp⟩
      · split
        · rename_i h40 h0
          have hs := stake_len b
          refine ih _ _ M (Nat.le_trans (hs.2 h0) hb) (fun x hx => ?_) (by simp; omega)
          rcases List.mem_append.1 hx with hx | hx
          · exact ha x hx
          · rw [List.mem_singleton.1 hx]; exact Nat.le_trans hs.1 hb
        · exact ⟨by simp, by simp⟩
theorem parseF_lens (b : List UInt8) : (∀ x ∈ (parseF b).1, x.2.2.length ≤ 4000) ∧ (parseF b).1.length ≤ 40 := by
  rw [parseF]
  split
  · exact ⟨by simp, by simp⟩
  · exact parseT_lens 41 [] b 4000 (by omega) (by simp) (by simp)

def AreaPost (B t g : Nat) (l : List UInt8) (x : List SubV × Rs) (w : World) (e : Ending) (w' : World) : Prop :=
  ∃ A' m' c', e = .returned (.slice A' m' c') ∧ OwnSq w' w.heap.size w.heap.size none A' m' c' x.1 ∧ Rdr w' B t g l x.2 ∧ Tws t g w w'
set_option maxRecDepth 100000 in
set_option maxHeartbeats 1600000 in
theorem area_calls {w : World} {B t g : Nat} {l : List UInt8} {s : Rs} (h : Rdr w B t g l s) (v : Int) :
    Calls Try.prog 29 #[.pointer (some ⟨t, 0, none⟩), .int .i64 v] w (AreaPost B t g l (areaR l s v) w) := by
  have HW := Lib.hid (fun W => width_calls v W)
  have HA := Lib.hid (show areaR l s v = (if (bytesR l (numR l s (widS v : Nat)).2 (numR l s (widS v : Nat)).1).2.e = 0 then ((parseF (bytesR l (numR l s (widS v : Nat)).2 (numR l s (widS v : Nat)).1).1).1, failR (failR (bytesR l (numR l s (widS v : Nat)).2 (numR l s (widS v : Nat)).1).2 (decide ((parseF (bytesR l (numR l s (widS v : Nat)).2 (numR l s (widS v : Nat)).1).1).2 ≠ 0)) (parseF (bytesR l (numR l s (widS v : Nat)).2 (numR l s (widS v : Nat)).1).1).2) (!decide ((emitF (parseF (bytesR l (numR l s (widS v : Nat)).2 (numR l s (widS v : Nat)).1).1).1).1 = (bytesR l (numR l s (widS v : Nat)).2 (numR l s (widS v : Nat)).1).1)) 3) else ([], (bytesR l (numR l s (widS v : Nat)).2 (numR l s (widS v : Nat)).1).2)) from rfl)
  have hw4 : (widS v : Int) ≤ 4 := by unfold widS; split <;> decide
  have HN := Lib.hid (rdNumber_calls h (widS v : Nat) hw4)
  generalize numR l s (widS v : Nat) = x1 at HN HA
  have HB := Lib.hid (fun W (hW : Rdr W B t g l x1.2) => rdBytes_calls hW x1.1)
  generalize bytesR l x1.2 x1.1 = x2 at HB HA
  obtain ⟨n1, s1⟩ := x1
  obtain ⟨b2, s2⟩ := x2
  simp only at HN HB HA
  generalize widS v = wd at HW HN
  have hltt := h.ord.2.2
  have hltg' : g < w.heap.size := Nat.lt_trans h.ord.2.1 h.ord.2.2
  clear hw4 h
  go_enter Try.func29, Try.ntmps29
  go_upto_region 2 with (first
    | (go_at_call 30; refine (HB.out _ hr1).mono ?_; rintro e w2 ⟨A2, m2, c2, rfl, ho2, hr2, ht2⟩)
    | (go_at_call 24; refine HN.out.mono ?_; rintro e w1 ⟨rfl, hr1, ht1⟩)
    | (go_at_call 55; refine (HW.out _).mono ?_; rintro e wq ⟨rfl, rfl⟩))
  have T2 := Lib.hid ((Tws.of_two ht1).trans (Tws.of_two ht2))
  have O2 := Lib.hid (ho2.lower (Two.size ht1))
  have hltw := Two.size ht1
  have hltw2 := T2.out.size
  have hh0 : w.heap.size ≤ w2.heap.size := hltw2
  have HR2 := Lib.hid hr2
  obtain ⟨-, k1, -, -⟩ := hr2.open_
  clear hr1 ht1 hr2 ht2 ho2 hltw HB HN
  by_cases he : s2.e = 0
  rotate_left
  · have d1 : (s2.e != 0) = true := by rw [bne_iff_ne]; exact he
    have HR := Lib.hid (show areaR l s v = ([], s2) by rw [HA.out, if_neg he])
    clear he
    go_wp2
    go_ret
    unfold AreaPost
    rw [HR.out]
    exact ⟨_, _, _, rfl, OwnSq.nil_ _ _ _ _, HR2.out, T2.out⟩
  have d1 : (s2.e != 0) = false := by rw [bne_eq_false_iff_eq]; exact he
  have HP := Lib.hid (ParseQ_calls O2.out.bs)
  have HL := Lib.hid (parseF_lens b2)
  have HR := Lib.hid (show areaR l s v = ((parseF b2).1, failR (failR s2 (decide ((parseF b2).2 ≠ 0)) (parseF b2).2) (!decide ((emitF (parseF b2).1).1 = b2)) 3) by rw [HA.out, if_pos he])
  generalize parseF b2 = pf at HP HL HR
  obtain ⟨ss, pe⟩ := pf
  simp only at HP HL HR
  clear he HA
  go_upto_region 5 with (go_at_call 56; refine HP.out.mono ?_; rintro e w3 ⟨A3, m3, c3, q3, rfl, ho3, hq3, hb3⟩; have HQ := Lib.hid hq3; clear hq3)
  have HR3 := Lib.hid (HR2.out.below hb3)
  have T3 := Lib.hid (T2.out.trans (Tws.of_below hb3))
  have P2 := Lib.hid (O2.out.below hb3)
  have O3 := Lib.hid (ho3.low (D' := w.heap.size) (B' := w.heap.size) hh0 hh0)
  clear k1 hb3 ho3
  have hd : decide (pe ≠ 0) = (q3 != 0) := by
    rw [← HQ.out]
    by_cases h : q3 = 0
    · rw [decide_eq_false (fun hn => hn h), bne_eq_false_iff_eq.2 h]
    · rw [decide_eq_true h, bne_iff_ne.2 h]
  rw [hd, ← HQ.out] at HR
  have HF := Lib.hid (rdFail_calls HR3.out (q3 != 0) q3)
  clear hd
  generalize hqb : (q3 != 0) = qb at HF HR
  have HE := Lib.hid (fun W (hW : Tws t g w3 W) => Emit_calls (c := c3) (w := W) (hW.subs O3.out hltg' hltt hltg' hltt).ss (by rw [← O3.out.len]; have := HL.out.2; omega) (fun x hx => Nat.le_trans (HL.out.1 x hx) (by omega)))
  generalize hem : emitF ss = em at HE HR
  clear hem
  obtain ⟨eb, er⟩ := em
  simp only at HE HR
  go_upto_region 6 with (go_at_call 25; refine HF.out.mono ?_; rintro e w4 ⟨rfl, hr4, ht4⟩)
  have HR4 := Lib.hid hr4
  have T34 := Lib.hid (Tws.of_two ht4)
  have T4 := Lib.hid (T3.out.trans T34.out)
  have P4 := Lib.hid (T34.out.own P2.out hltg' hltt)
  have O4 := Lib.hid (T34.out.subs O3.out hltg' hltt hltg' hltt)
  clear hqb hr4 ht4 HF
  go_upto_region 7 with (go_at_call 57; refine (HE.out w4 T34.out).mono ?_; rintro e w5 ⟨A5, m5, c5, q5, rfl, ho5, -, hb5⟩)
  have HR5 := Lib.hid (HR4.out.below hb5)
  have T5 := Lib.hid (T4.out.trans (Tws.of_below hb5))
  have P5 := Lib.hid (P4.out.below hb5)
  have O5 := Lib.hid (O4.out.below hb5)
  have HQ5 := Lib.hid (Equal_calls ho5.bs P5.out.bs)
  have HF := Lib.hid (rdFail_calls HR5.out (!decide (eb = b2)) 3)
  generalize decide (eb = b2) = db at HQ5 HF HR
  clear hb5 ho5 HE
  go_wp2_with (first
    | (go_at_call 58; refine HQ5.out.mono ?_; rintro e wq ⟨rfl, rfl⟩)
    | (go_at_call 25; refine HF.out.mono ?_; rintro e w6 ⟨rfl, hr6, ht6⟩))
  go_ret
  unfold AreaPost
  rw [HR.out]
  have T56 := Tws.of_two ht6
  exact ⟨A3, m3, c3, rfl, T56.subs O5.out hltg' hltt hltg' hltt, hr6, T5.out.trans T56⟩
end Go.Proofs.Ytjbnoamoadaknaa
end

/- Plain laws of the reader: what it makes of bytes, by what stands there. -/
section
namespace Go.Proofs.Ytjbnoamoadaknaa
open Go.RowKit

theorem val_one (x : UInt8) : val [x] = (x.toNat : Int) := by
  have := x.toNat_lt
  simp only [val, List.foldl_cons, List.foldl_nil, valStep]
  omega
section
variable {l r x : List UInt8} {a : Nat}
theorem numR_ok1 {b : UInt8} (h : Lk l a (b :: r)) : numR l ⟨a, 0⟩ 1 = ((b.toNat : Int), ⟨a + 1, 0⟩) := by
  have ht := takeS_ok (x := [b]) (r := r) h (n := 1) rfl
  rw [numR, if_pos rfl, numS, if_neg (by omega), ht]
  simp only [val_one, List.length_cons, List.length_nil]
theorem numR_sh1 (h : Lk l a []) : numR l ⟨a, 0⟩ 1 = (0, ⟨a, 2⟩) := by
  have ht := takeS_sh h (n := 1) (by simp)
  rw [numR, if_pos rfl, numS, if_neg (by omega), ht]
  rfl
theorem numR_okn {n : Nat} (hn1 : 1 ≤ n) (hn8 : n ≤ 8) (h : Lk l a (x ++ r)) (hx : x.length = n) : numR l ⟨a, 0⟩ (n : Int) = (val x, ⟨a + n, 0⟩) := by
  have ht := takeS_ok h (n := (n : Int)) (by omega)
  rw [numR, if_pos rfl, numS, if_neg (by omega), ht, hx]
theorem numR_shn {n : Nat} (hn1 : 1 ≤ n) (hn8 : n ≤ 8) (h : Lk l a r) (hr : r.length < n) : numR l ⟨a, 0⟩ (n : Int) = (0, ⟨a, 2⟩) := by
  have ht := takeS_sh h (n := (n : Int)) (by omega)
  rw [numR, if_pos rfl, numS, if_neg (by omega), ht]
  rfl
theorem numR_ok4 (h : Lk l a (x ++ r)) (hx : x.length = 4) : numR l ⟨a, 0⟩ 4 = (val x, ⟨a + 4, 0⟩) := by
  have ht := takeS_ok h (n := 4) (by omega)
  rw [numR, if_pos rfl, numS, if_neg (by omega), ht, hx]
theorem numR_sh4 (h : Lk l a r) (hr : r.length < 4) : numR l ⟨a, 0⟩ 4 = (0, ⟨a, 2⟩) := by
  have ht := takeS_sh h (n := 4) (by omega)
  rw [numR, if_pos rfl, numS, if_neg (by omega), ht]
  rfl
theorem bytesR_ok (h : Lk l a (x ++ r)) {n : Int} (hn : n = x.length) : bytesR l ⟨a, 0⟩ n = (x, ⟨a + x.length, 0⟩) := by
  rw [bytesR, if_pos rfl, takeS_ok h hn]
theorem bytesR_sh (h : Lk l a r) {n : Int} (hn : (r.length : Int) < n) : bytesR l ⟨a, 0⟩ n = ([], ⟨a, 2⟩) := by
  rw [bytesR, if_pos rfl, takeS_sh h hn]
theorem numR_bad {e : Int} (he : e ≠ 0) (w : Int) : numR l ⟨a, e⟩ w = (0, ⟨a, e⟩) := by rw [numR, if_neg he]
theorem bytesR_bad {e : Int} (he : e ≠ 0) (w : Int) : bytesR l ⟨a, e⟩ w = ([], ⟨a, e⟩) := by rw [bytesR, if_neg he]
theorem failR_bad {e : Int} (he : e ≠ 0) (b : Bool) (x : Int) : failR ⟨a, e⟩ b x = ⟨a, e⟩ := by rw [failR, if_neg (fun h => he h.2)]
theorem failR_no (s : Rs) (x : Int) : failR s false x = s := by rw [failR, if_neg (fun h => by cases h.1)]
theorem failR_yes (x : Int) : failR ⟨a, 0⟩ true x = ⟨a, x⟩ := by rw [failR, if_pos ⟨rfl, rfl⟩]
theorem ofNat_toNat (b : UInt8) : UInt8.ofNat ((b.toNat : Nat) : Int).toNat = b := by simp
end


set_option maxRecDepth 100000 in
theorem rdFail_no {w : World} {B t g : Nat} {l : List UInt8} {s : Rs} (h : Rdr w B t g l s) (x : Int) :
    Calls Try.prog 25 #[.pointer (some ⟨t, 0, none⟩), .bool false, .int .i64 x] w fun e w' => e = .returned (.tuple #[]) ∧ w = w' := by
  obtain ⟨k0, k1, f1, hc⟩ := h.open_
  clear h hc
  go_enter Try.func25, Try.ntmps25
  go_wp2
  go_end0
  exact ⟨rfl, rfl⟩
end Go.Proofs.Ytjbnoamoadaknaa
end

/- The reader of sig: the value. -/
section
namespace Go.Proofs.Ytjbnoamoadaknaa
open Go.RowKit

/-- What the value comes to. -/
def valueR (l : List UInt8) (s : Rs) (pu : Int) : List UInt8 × Rs :=
  if s.e ≠ 0 then ([], s) else if pu = 27 then (l.drop s.at_, failR ⟨l.length, 0⟩ (decide ((l.drop s.at_).length ≠ 64)) 3) else
  if (mallF (l.drop s.at_) 1).2 ≠ 0 then ([], ⟨l.length, (mallF (l.drop s.at_) 1).2⟩) else (bytesN ((mallF (l.drop s.at_) 1).1.headD 0), ⟨l.length, 0⟩)

theorem mall_one (l : List UInt8) : ((mallF l 1).2 = 0 → ∃ N, (mallF l 1).1 = [N] ∧ rTakeF l = (N, [], 0)) := by
  intro h
  have e : mallF l 1 = if (mtakeS l 0).2.1 ≠ 0 then ([], (mtakeS l 0).2.1) else if (mtakeS l 0).2.2 < l.length then ([], 3) else ([(mtakeS l 0).1], 0) := by
    rw [mallF, if_neg (by omega)]
    rfl
  rw [e] at h ⊢
  have hr := mTakeF_eq l
  rw [mTakeF] at hr
  by_cases h1 : (mtakeS l 0).2.1 ≠ 0
  · rw [if_pos h1] at h; exact absurd h h1
  · rw [if_neg h1] at h hr ⊢
    by_cases h2 : (mtakeS l 0).2.2 < l.length
    · rw [if_pos h2] at h; simp at h
    · rw [if_neg h2]
      refine ⟨_, rfl, ?_⟩
      rw [← hr, List.drop_eq_nil_of_le (by omega)]
theorem natR_len {w : World} {A : Option Addr} {m c N : Nat} (h : NatR w A m c N) (hN : nbits N ≤ 16384) : ∃ xs, Nr w .u32 A m c xs ∧ Lo 4294967296 xs ∧ num 4294967296 xs = N ∧ m ≤ 600 := by
  obtain ⟨xs, h1, h2, h3, h4⟩ := h
  refine ⟨xs, h1, h2, h4, ?_⟩
  rw [← h1.2]
  by_cases hx : xs = []
  · subst hx; simp
  · have hg := num_ge (by decide : 0 < 4294967296) h3 hx
    rw [h4, pow32] at hg
    have hl := nbits_lt N
    obtain ⟨K, hK⟩ : ∃ K, K = 16384 := ⟨_, rfl⟩
    rw [← hK] at hN
    have h8 : 2 ^ (32 * (xs.length - 1)) < 2 ^ K := Nat.lt_of_le_of_lt hg (Nat.lt_of_lt_of_le hl (Nat.pow_le_pow_right (by omega) hN))
    have := (Nat.pow_lt_pow_iff_right (by omega : 1 < 2)).1 h8
    omega

def ValuePost (B t g : Nat) (l : List UInt8) (x : List UInt8 × Rs) (w : World) (e : Ending) (w' : World) : Prop :=
  ∃ A' m' c', e = .returned (.slice A' m' c') ∧ Own w' w.heap.size A' m' c' x.1 ∧ Rdr w' B t g l x.2 ∧ Tws t g w w'
set_option maxRecDepth 100000 in
set_option maxHeartbeats 1600000 in
theorem value_calls {w : World} {B t g : Nat} {l : List UInt8} {s : Rs} (h : Rdr w B t g l s) (hl : l.length ≤ 1000000) (pu : Int) :
    Calls Try.prog 31 #[.pointer (some ⟨t, 0, none⟩), .int .i64 pu] w (ValuePost B t g l (valueR l s pu) w) := by
  have hltt := h.ord.2.2
  have hltg : g < w.heap.size := Nat.lt_trans h.ord.2.1 h.ord.2.2
  have HH := Lib.hid h
  obtain ⟨k0, k1, -, hc⟩ := h.open_
  have HC := Lib.hid hc
  by_cases he : s.e = 0
  rotate_left
  · have d1 : (s.e != 0) = true := by rw [bne_iff_ne]; exact he
    have HR := Lib.hid (show valueR l s pu = ([], s) by rw [valueR, if_pos he])
    clear he h hc
    go_enter Try.func31, Try.ntmps31
    go_wp2
    go_ret
    unfold ValuePost
    rw [HR.out]
    exact ⟨_, _, _, rfl, Own.nil_ _ _, HH.out, Tws.refl _ _ _⟩
  have d1 : (s.e != 0) = false := by rw [bne_eq_false_iff_eq]; exact he
  have HE := Lib.hid he
  have HRs := Lib.hid (Rest_calls hc)
  clear h hc he
  go_enter Try.func31, Try.ntmps31
  go_upto_region 4 with (go_at_call 60; refine HRs.out.mono ?_; rintro e w2 ⟨A2, m2, c2, rfl, ho2, hc2, hg2⟩)
  have HR2 := Lib.hid (HH.out.cur hg2 hc2)
  rw [HE.out] at HR2
  have T2 := Lib.hid (Tws.of_cur (t := t) hg2)
  have O2 := Lib.hid ho2
  have H64 := Lib.hid ho2.2
  clear k0 k1 d1 ho2 hc2 hg2
  by_cases hp : pu = 27
  · have d2 : (pu == 27) = true := beq_iff_eq.2 hp
    have d3 : decide ((l.drop s.at_).length ≠ 64) = ((m2 : Int) != 64) := by
      rw [H64.out]
      by_cases h : m2 = 64
      · rw [h]; rfl
      · rw [decide_eq_true h, bne_iff_ne.2 (by omega)]
    have hR : valueR l s pu = (l.drop s.at_, failR ⟨l.length, 0⟩ ((m2 : Int) != 64) 3) := by rw [valueR, if_neg (fun hn => hn HE.out), if_pos hp, d3]
    have HF := Lib.hid (rdFail_calls HR2.out ((m2 : Int) != 64) 3)
    clear hp d3
    generalize hqb : ((m2 : Int) != 64) = qb at hR HF
    have HR := Lib.hid hR
    clear hR
    go_wp2_with (go_at_call 25; refine HF.out.mono ?_; rintro e w3 ⟨rfl, hr3, ht3⟩)
    go_ret
    unfold ValuePost
    rw [HR.out]
    have T3 := Tws.of_two ht3
    exact ⟨A2, m2, c2, rfl, T3.own O2.out hltg hltt, hr3, T2.out.trans T3⟩
  have d2 : (pu == 27) = false := beq_eq_false_iff_ne.2 hp
  have HV := Lib.hid (show valueR l s pu = if (mallF (l.drop s.at_) 1).2 ≠ 0 then ([], ⟨l.length, (mallF (l.drop s.at_) 1).2⟩) else (bytesN ((mallF (l.drop s.at_) 1).1.headD 0), ⟨l.length, 0⟩) by rw [valueR, if_neg (fun hn => hn HE.out), if_neg hp])
  have hm2 : m2 ≤ 1000000 := by rw [← H64.out, List.length_drop]; omega
  have HMl := Lib.hid (mAll_calls 1 O2.out.bs hm2)
  have HM1 := Lib.hid (mall_one (l.drop s.at_))
  have HPT := Lib.hid (fun h => put_take (l := l.drop s.at_) h)
  generalize mallF (l.drop s.at_) 1 = ma at HV HMl HM1
  obtain ⟨Ns, me⟩ := ma
  simp only at HV HMl HM1
  clear hp hm2
  go_upto_region 8 with (go_at_call 61; refine HMl.out.mono ?_; rintro e w3 ⟨A3, m3, c3, q3, rfl, ho3, hq3, hb3⟩; have HQ := Lib.hid hq3; clear hq3)
  have HR3 := Lib.hid (HR2.out.below hb3)
  have T3 := Lib.hid (T2.out.trans (Tws.of_below hb3))
  have O3 := Lib.hid ho3
  have hA3 : g < w2.heap.size ∧ t < w2.heap.size := ⟨Nat.lt_of_lt_of_le hltg T2.out.size, Nat.lt_of_lt_of_le hltt T2.out.size⟩
  clear hb3 ho3
  have HF := Lib.hid (rdFail_calls HR3.out (q3 != 0) q3)
  by_cases hq : q3 = 0
  rotate_left
  · have d3 : (q3 != 0) = true := by rw [bne_iff_ne]; exact hq
    have HR := Lib.hid (show valueR l s pu = ([], ⟨l.length, q3⟩) by rw [HV.out, if_pos (by rw [← HQ.out]; exact hq), HQ.out])
    have d4 := d3
    rw [d3] at HF
    go_upto_region 9 with (go_at_call 25; refine HF.out.mono ?_; rintro e w4 ⟨rfl, hr4, ht4⟩)
    rw [failR_yes] at hr4
    have HR4 := Lib.hid hr4
    obtain ⟨-, k1, -, -⟩ := hr4.open_
    have T4 := Lib.hid (T3.out.trans (Tws.of_two ht4))
    clear hr4 ht4 hq
    go_wp2
    go_ret
    unfold ValuePost
    rw [HR.out]
    exact ⟨_, _, _, rfl, Own.nil_ _ _, HR4.out, T4.out⟩
  have d3 : (q3 != 0) = false := by rw [bne_eq_false_iff_eq]; exact hq
  obtain ⟨N, hN, hT⟩ := HM1.out (by rw [← HQ.out]; exact hq)
  have hb := (HPT.out (by rw [hT])).1
  rw [hT] at hb
  have HR := Lib.hid (show valueR l s pu = (bytesN N, ⟨l.length, 0⟩) by rw [HV.out, if_neg (fun hn => hn (by rw [← HQ.out]; exact hq)), hN]; rfl)
  obtain ⟨b, off, Ak, nk, ck, hA, hbl, hcell, hnat⟩ := O3.out.at_ (k := 0) (by rw [hN]; simp)
  have hN0 : Ns[0]'(by rw [hN]; simp) = N := by simp [hN]
  rw [hN0] at hnat
  obtain ⟨xs, hnr, hlo, hnum, hnk⟩ := natR_len hnat hb
  have hBy := Bytes_calls hnr hlo (by omega)
  rw [hnum] at hBy
  have HBy := Lib.hid hBy
  have hm3 : (0 : Int) < (m3 : Int) := by have := O3.out.len; rw [hN] at this; simp at this; omega
  have HFn := Lib.hid (rdFail_no HR3.out q3)
  obtain ⟨-, k1, -, -⟩ := HR3.out.open_
  rw [Nat.add_zero] at hcell
  clear hBy hnr hlo hnum hnk hnat hN0 hN hT hb hbl hq HF
  go_upto_region 11 with (go_at_call 25; refine HFn.out.mono ?_; rintro e wq ⟨rfl, rfl⟩)
  go_wp2_with (go_at_call 62; refine HBy.out.mono ?_; rintro e w4 ⟨A4, m4, c4, rfl, ho4, hb4⟩)
  go_ret
  unfold ValuePost
  rw [HR.out]
  exact ⟨A4, m4, c4, rfl, ho4.lower T3.out.size, HR3.out.below hb4, T3.out.trans (Tws.of_below hb4)⟩
end Go.Proofs.Ytjbnoamoadaknaa
end
