/- The taker of packets: what each call does. -/
import Derived.Test.YtcakdlfhmdkocaaFr
namespace Go.Proofs.Ytcakdlfhmdkocaa
open Go.RowKit

/-- A taker's place, body and error. -/
structure St where
  at_ : Nat
  body : List UInt8
  e : Int

def numT (l : List UInt8) (s : St) (wd : Int) : Int × St := if s.e = 0 then ((numS l s.at_ wd).1, ⟨(numS l s.at_ wd).2.2, s.body, (numS l s.at_ wd).2.1⟩) else (0, s)
def moreT (l : List UInt8) (s : St) (n : Int) : St :=
  if s.e = 0 then (if 60000 - (s.body.length : Int) < n then ⟨s.at_, s.body, 4⟩ else ⟨(takeS l s.at_ n).2.2, s.body ++ (takeS l s.at_ n).1, (takeS l s.at_ n).2.1⟩) else s

/-- Block t is a taker over the cursor at block g. -/
def Tk (w : World) (B t g : Nat) (l : List UInt8) (s : St) : Prop :=
  ∃ Ab nb cb, w.heap[t]? = some (.cells #[.pointer (some ⟨g, 0, none⟩), .slice Ab nb cb, .int .i64 s.e] 86 (0, 0)) ∧ Cur w g s.at_ l ∧ Own w B Ab nb cb s.body ∧ (∀ ad, Ab = some ad → t < ad.block) ∧ B ≤ g ∧ g < t

theorem takeS_short (l : List UInt8) (at_ : Nat) (n : Int) : ((takeS l at_ n).1.length : Int) ≤ l.length ∧ (0 ≤ n → ((takeS l at_ n).1.length : Int) ≤ n) := by
  unfold takeS
  split
  · simp
  · split
    · simp
    · refine ⟨?_, fun _ => ?_⟩ <;> (simp; omega)
theorem val_lt : ∀ (l : List UInt8), l.length ≤ 4 → val l < 4294967296 := by
  have step : ∀ (x : Int) (b : UInt8) (m : Int), 0 ≤ x → x < m → valStep x b < m * 256 := fun x b m h0 h => by
    have := b.toNat_lt
    unfold valStep
    omega
  intro l hl
  match l, hl with
  | [], _ => simp [val]
  | [a], _ =>
    have := step 0 a 1 (by omega) (by omega)
    simp only [val, List.foldl_cons, List.foldl_nil]; omega
  | [a, b], _ =>
    have h1 := step 0 a 1 (by omega) (by omega)
    have r1 := val_range [a]
    have h2 := step _ b _ r1.1 h1
    simp only [val, List.foldl_cons, List.foldl_nil] at *; omega
  | [a, b, c], _ =>
    have h1 := step 0 a 1 (by omega) (by omega)
    have h2 := step _ b _ (val_range [a]).1 h1
    have h3 := step _ c _ (val_range [a, b]).1 h2
    simp only [val, List.foldl_cons, List.foldl_nil] at *; omega
  | [a, b, c, d], _ =>
    have h1 := step 0 a 1 (by omega) (by omega)
    have h2 := step _ b _ (val_range [a]).1 h1
    have h3 := step _ c _ (val_range [a, b]).1 h2
    have h4 := step _ d _ (val_range [a, b, c]).1 h3
    simp only [val, List.foldl_cons, List.foldl_nil] at *; omega
theorem numS_lt (l : List UInt8) (at_ : Nat) (wd : Int) (h4 : wd ≤ 4) : 0 ≤ (numS l at_ wd).1 ∧ (numS l at_ wd).1 < 4294967296 := by
  unfold numS
  split
  · simp
  · refine ⟨(val_range _).1, val_lt _ ?_⟩
    have := takeS_short l at_ wd
    omega
theorem numT_lt (l : List UInt8) (s : St) (wd : Int) (h4 : wd ≤ 4) : 0 ≤ (numT l s wd).1 ∧ (numT l s wd).1 < 4294967296 := by
  unfold numT
  split
  · exact numS_lt _ _ _ h4
  · simp

section
variable {w w' : World} {B t g : Nat} {l : List UInt8} {s : St}
theorem Tk.open_ (h : Tk w B t g l s) : ∃ Ab nb cb, w.cell? ⟨t, 0, none⟩ = some (.pointer (some ⟨g, 0, none⟩)) ∧ w.cell? ⟨t, 1, none⟩ = some (.slice Ab nb cb) ∧ w.cell? ⟨t, 2, none⟩ = some (.int .i64 s.e) ∧
    w.frozen? ⟨t, 1, none⟩ = false ∧ w.frozen? ⟨t, 2, none⟩ = false ∧ Cur w g s.at_ l ∧ Own w B Ab nb cb s.body ∧ (∀ ad, Ab = some ad → t < ad.block) := by
  obtain ⟨Ab, nb, cb, hh, hc, ho, hb, hB, hg⟩ := h
  exact ⟨Ab, nb, cb, blk_cell hh 0, blk_cell hh 1, blk_cell hh 2, blk_frozen hh 1, blk_frozen hh 2, hc, ho, hb⟩
theorem Tk.ord (h : Tk w B t g l s) : B ≤ g ∧ g < t ∧ t < w.heap.size := by
  obtain ⟨Ab, nb, cb, hh, hc, ho, hb, hB, hg⟩ := h
  exact ⟨hB, hg, blk_lt hh⟩
theorem Tk.below (h : Tk w B t g l s) (hb : Below w.heap.size w w') : Tk w' B t g l s := by
  obtain ⟨Ab, nb, cb, hh, hc, ho, hr⟩ := h
  exact ⟨Ab, nb, cb, (hb.block t (blk_lt hh)).trans hh, hc.below hb, ho.below hb, hr⟩
theorem Tk.drewN (h : Tk w B t g l s) (n : Nat) : Tk (w.drewN n) B t g l s := h
/-- The cursor has gone on. -/
theorem Tk.cur (h : Tk w B t g l s) (hg : w.grownBy w' (some g)) {a : Nat} (hc : Cur w' g a l) : Tk w' B t g l ⟨a, s.body, s.e⟩ := by
  obtain ⟨Ab, nb, cb, hh, _, ho, hb, hB, hgt⟩ := h
  refine ⟨Ab, nb, cb, (hg.block t (blk_lt hh) (fun e => by injection e with e; omega)).trans hh, hc, ho.grown hg (fun ad e e2 => ?_), hb, hB, hgt⟩
  have := hb ad e
  injection e2 with e2
  omega
/-- The error is set. -/
theorem Tk.err (h : Tk w B t g l s) (x : Int) : Tk (w.setCell ⟨t, 2, none⟩ (.int .i64 x)) B t g l ⟨s.at_, s.body, x⟩ := by
  obtain ⟨Ab, nb, cb, hh, hc, ho, hb, hB, hgt⟩ := h
  refine ⟨Ab, nb, cb, blk_set hh 2 _, hc.grown (grown_setCell _ _ _ _) (fun k e => by injection e with e; omega), ho.grown (grown_setCell _ _ _ _) (fun ad e e2 => ?_), hb, hB, hgt⟩
  have := hb ad e
  injection e2 with e2
  omega
end

set_option maxRecDepth 100000 in
set_option maxHeartbeats 800000 in
theorem number_calls {w : World} {B t g : Nat} {l : List UInt8} {s : St} (h : Tk w B t g l s) (wd : Int) (h4 : wd ≤ 4) :
    Calls Try.prog 61 #[.pointer (some ⟨t, 0, none⟩), .int .i64 wd] w fun e w' => e = .returned (.int .i64 (numT l s wd).1) ∧ Tk w' B t g l (numT l s wd).2 ∧ Below B w w' := by
  obtain ⟨Ab, nb, cb, k0, k1, k2, f1, f2, hc, ho, hb⟩ := h.open_
  obtain ⟨hB, hgt, htl⟩ := h.ord
  by_cases he : s.e = 0
  · have ht := Lib.hid (show numT l s wd = ((numS l s.at_ wd).1, ⟨(numS l s.at_ wd).2.2, s.body, (numS l s.at_ wd).2.1⟩) by rw [numT, if_pos he])
    have hlt := numS_lt l s.at_ wd h4
    rw [he] at k2
    clear he k1 f1
    generalize hx : numS l s.at_ wd = x at hlt ht
    have Hx := Lib.hid hx
    clear hx
    obtain ⟨x1, x2⟩ := hlt
    have hw : IntKind.i64.wrap x.1 = x.1 := IntWalk.i64_in _ (by omega)
    go_enter Try.func61, Try.ntmps61
    go_wp2_with (go_at_call 72; refine (Number_any hc wd).mono ?_; rw [Hx.out]; rintro e w1 ⟨rfl, hc1, hg1⟩; have T1 := h.cur hg1 hc1; obtain ⟨A2, n2, c2, _, _, kk2, _, ff2, _⟩ := T1.open_)
    go_ret
    rw [ht.out]
    have hbl : Below B w w1 := (Below.refl _ _).grown hg1 (by omega) (fun k e => by cases e; exact hB)
    exact ⟨rfl, T1.err _, hbl.setCell (by show B ≤ t; omega) _⟩
  · have ht := Lib.hid (show numT l s wd = (0, s) by rw [numT, if_neg he])
    have hne : (s.e != 0) = true := by rw [bne_iff_ne]; exact he
    clear he
    go_enter Try.func61, Try.ntmps61
    go_wp2
    go_ret
    rw [ht.out]
    exact ⟨rfl, h, Below.refl _ _⟩
end Go.Proofs.Ytcakdlfhmdkocaa
