/- The literal's reader: what each call does. -/
import Derived.Test.YtegbncngencfnaaCuq
import Derived.IntWalk
namespace Go.Proofs.Ytegbncngencfnaa
open Go.RowKit

/-- A reader's place and error. -/
structure Rs where
  at_ : Nat
  e : Int

def numR (l : List UInt8) (s : Rs) (wd : Int) : Int × Rs := if s.e = 0 then ((numS l s.at_ wd).1, ⟨(numS l s.at_ wd).2.2, (numS l s.at_ wd).2.1⟩) else (0, s)
def bytesR (l : List UInt8) (s : Rs) (n : Int) : List UInt8 × Rs := if s.e = 0 then ((takeS l s.at_ n).1, ⟨(takeS l s.at_ n).2.2, (takeS l s.at_ n).2.1⟩) else ([], s)
def failR (s : Rs) (b : Bool) (x : Int) : Rs := if b = true ∧ s.e = 0 then ⟨s.at_, x⟩ else s

/-- Block t is a reader over the cursor at block g. -/
def Rdr (w : World) (B t g : Nat) (l : List UInt8) (s : Rs) : Prop :=
  w.heap[t]? = some (.cells #[.pointer (some ⟨g, 0, none⟩), .int .i64 s.e] 89 (0, 0)) ∧ Cur w g s.at_ l ∧ B ≤ g ∧ g < t

theorem takeS_short (l : List UInt8) (at_ : Nat) (n : Int) : ((takeS l at_ n).1.length : Int) ≤ l.length ∧ (0 ≤ n → ((takeS l at_ n).1.length : Int) ≤ n) := by
  unfold takeS
  split
  · simp
  · split
    · simp
    · refine ⟨?_, fun _ => ?_⟩ <;> (simp; omega)
theorem val_lt : ∀ (l : List UInt8), l.length ≤ 4 → val l < 4294967296 := by
  have step : ∀ (x : Int) (b : UInt8) (m : Int), 0 ≤ x → x < m → valStep x b < m * 256 := fun x b m h0 h => by
    have := b.toNat_lt
    unfold valStep
    omega
  intro l hl
  match l, hl with
  | [], _ => simp [val]
  | [a], _ =>
    have := step 0 a 1 (by omega) (by omega)
    simp only [val, List.foldl_cons, List.foldl_nil]; omega
  | [a, b], _ =>
    have h1 := step 0 a 1 (by omega) (by omega)
    have r1 := val_range [a]
    have h2 := step _ b _ r1.1 h1
    simp only [val, List.foldl_cons, List.foldl_nil] at *; omega
  | [a, b, c], _ =>
    have h1 := step 0 a 1 (by omega) (by omega)
    have h2 := step _ b _ (val_range [a]).1 h1
    have h3 := step _ c _ (val_range [a, b]).1 h2
    simp only [val, List.foldl_cons, List.foldl_nil] at *; omega
  | [a, b, c, d], _ =>
    have h1 := step 0 a 1 (by omega) (by omega)
    have h2 := step _ b _ (val_range [a]).1 h1
    have h3 := step _ c _ (val_range [a, b]).1 h2
    have h4 := step _ d _ (val_range [a, b, c]).1 h3
    simp only [val, List.foldl_cons, List.foldl_nil] at *; omega
theorem numS_lt (l : List UInt8) (at_ : Nat) (wd : Int) (h4 : wd ≤ 4) : 0 ≤ (numS l at_ wd).1 ∧ (numS l at_ wd).1 < 4294967296 := by
  unfold numS
  split
  · simp
  · refine ⟨(val_range _).1, val_lt _ ?_⟩
    have := takeS_short l at_ wd
    omega
theorem numR_lt (l : List UInt8) (s : Rs) (wd : Int) (h4 : wd ≤ 4) : 0 ≤ (numR l s wd).1 ∧ (numR l s wd).1 < 4294967296 := by
  unfold numR
  split
  · exact numS_lt _ _ _ h4
  · simp

section
variable {w w' : World} {B t g : Nat} {l : List UInt8} {s : Rs}
theorem Rdr.open_ (h : Rdr w B t g l s) : w.cell? ⟨t, 0, none⟩ = some (.pointer (some ⟨g, 0, none⟩)) ∧ w.cell? ⟨t, 1, none⟩ = some (.int .i64 s.e) ∧ w.frozen? ⟨t, 1, none⟩ = false ∧ Cur w g s.at_ l := by
  obtain ⟨hh, hc, hB, hg⟩ := h
  exact ⟨blk_cell hh 0, blk_cell hh 1, blk_frozen hh 1, hc⟩
theorem Rdr.ord (h : Rdr w B t g l s) : B ≤ g ∧ g < t ∧ t < w.heap.size := by
  obtain ⟨hh, hc, hB, hg⟩ := h
  exact ⟨hB, hg, blk_lt hh⟩
theorem Rdr.below (h : Rdr w B t g l s) (hb : Below w.heap.size w w') : Rdr w' B t g l s := by
  obtain ⟨hh, hc, hr⟩ := h
  exact ⟨(hb.block t (blk_lt hh)).trans hh, hc.below hb, hr⟩
theorem Rdr.drewN (h : Rdr w B t g l s) (n : Nat) : Rdr (w.drewN n) B t g l s := h
theorem Rdr.drew (h : Rdr w B t g l s) : Rdr w.drew B t g l s := h
/-- Another block is changed. -/
theorem Rdr.other (h : Rdr w B t g l s) {k : Nat} (hg : w.grownBy w' (some k)) (hk : t < k) : Rdr w' B t g l s := by
  obtain ⟨hh, hc, hB, hgt⟩ := h
  exact ⟨(hg.block t (blk_lt hh) (fun e => by injection e with e; omega)).trans hh, hc.grown hg (fun j e => by injection e with e; omega), hB, hgt⟩
/-- The cursor has gone on. -/
theorem Rdr.cur (h : Rdr w B t g l s) (hg : w.grownBy w' (some g)) {a : Nat} (hc : Cur w' g a l) : Rdr w' B t g l ⟨a, s.e⟩ := by
  obtain ⟨hh, _, hB, hgt⟩ := h
  exact ⟨(hg.block t (blk_lt hh) (fun e => by injection e with e; omega)).trans hh, hc, hB, hgt⟩
/-- The error is set. -/
theorem Rdr.err (h : Rdr w B t g l s) (x : Int) : Rdr (w.setCell ⟨t, 1, none⟩ (.int .i64 x)) B t g l ⟨s.at_, x⟩ := by
  obtain ⟨hh, hc, hB, hgt⟩ := h
  exact ⟨blk_set hh 1 _, hc.grown (grown_setCell _ _ _ _) (fun k e => by injection e with e; omega), hB, hgt⟩
end


/-- Only the blocks g and then t are changed (and new ones laid). -/
def Two (w w' : World) (t g : Nat) : Prop := ∃ w1, w.grownBy w1 (some g) ∧ w1.grownBy w' (some t)
theorem grown_refl (w : World) (r : Option Nat) : w.grownBy w r := World.grownBy.refl w r
section
variable {w w' : World} {B t g : Nat}
theorem Two.size (h : Two w w' t g) : w.heap.size ≤ w'.heap.size := by
  obtain ⟨w1, h1, h2⟩ := h
  exact Nat.le_trans h1.size h2.size
theorem Two.below (h : Two w w' t g) (hB : B ≤ w.heap.size) (hg : B ≤ g) (ht : B ≤ t) : Below B w w' := by
  obtain ⟨w1, h1, h2⟩ := h
  have hb := (Below.refl B w).grown h1 hB (fun k e => by cases e; exact hg)
  exact hb.grown h2 (Nat.le_trans hB h1.size) (fun k e => by cases e; exact ht)
theorem Two.block (h : Two w w' t g) {k : Nat} (hk : k < w.heap.size) (h1 : k ≠ g) (h2 : k ≠ t) : w'.heap[k]? = w.heap[k]? := by
  obtain ⟨w1, g1, g2⟩ := h
  exact (g2.block k (Nat.lt_of_lt_of_le hk g1.size) (fun e => h2 (Option.some.inj e))).trans (g1.block k hk (fun e => h1 (Option.some.inj e)))
theorem Two.own {C n c : Nat} {A : Option Addr} {l : List UInt8} (h : Two w w' t g) (ho : Own w C A n c l) (hg : g < C) (ht : t < C) : Own w' C A n c l := by
  obtain ⟨w1, g1, g2⟩ := h
  have hA := fun ad e => (ho.blk ad e).1
  exact (ho.grown g1 (fun ad e e2 => by have := hA ad e; injection e2 with e2; omega)).grown g2 (fun ad e e2 => by have := hA ad e; injection e2 with e2; omega)
end

set_option maxRecDepth 100000 in
set_option maxHeartbeats 800000 in
theorem rdNumber_calls {w : World} {B t g : Nat} {l : List UInt8} {s : Rs} (h : Rdr w B t g l s) (wd : Int) (h4 : wd ≤ 4) :
    Calls Try.prog 56 #[.pointer (some ⟨t, 0, none⟩), .int .i64 wd] w fun e w' => e = .returned (.int .i64 (numR l s wd).1) ∧ Rdr w' B t g l (numR l s wd).2 ∧ Two w w' t g := by
  obtain ⟨k0, k1, f1, hc⟩ := h.open_
  obtain ⟨hB, hgt, htl⟩ := h.ord
  by_cases he : s.e = 0
  · have ht := Lib.hid (show numR l s wd = ((numS l s.at_ wd).1, ⟨(numS l s.at_ wd).2.2, (numS l s.at_ wd).2.1⟩) by rw [numR, if_pos he])
    have hlt := numS_lt l s.at_ wd h4
    rw [he] at k1
    clear he f1
    generalize hx : numS l s.at_ wd = x at hlt ht
    have Hx := Lib.hid hx
    clear hx
    obtain ⟨x1, x2⟩ := hlt
    have hw : IntKind.i64.wrap x.1 = x.1 := IntWalk.i64_in _ (by omega)
    go_enter Try.func56, Try.ntmps56
    go_wp2_with (go_at_call 73; refine (Number_any hc wd).mono ?_; rw [Hx.out]; rintro e w1 ⟨rfl, hc1, hg1⟩; have T1 := h.cur hg1 hc1; obtain ⟨_, kk1, ff1, _⟩ := T1.open_)
    go_ret
    rw [ht.out]
    exact ⟨rfl, T1.err _, w1, hg1, grown_setCell _ _ _ _⟩
  · have ht := Lib.hid (show numR l s wd = (0, s) by rw [numR, if_neg he])
    have hne : (s.e != 0) = true := by rw [bne_iff_ne]; exact he
    clear he
    go_enter Try.func56, Try.ntmps56
    go_wp2
    go_ret
    rw [ht.out]
    exact ⟨rfl, h, w, grown_refl _ _, grown_refl _ _⟩

set_option maxRecDepth 100000 in
set_option maxHeartbeats 800000 in
theorem rdBytes_calls {w : World} {B t g : Nat} {l : List UInt8} {s : Rs} (h : Rdr w B t g l s) (n : Int) :
    Calls Try.prog 59 #[.pointer (some ⟨t, 0, none⟩), .int .i64 n] w fun e w' => ∃ A' m' c', e = .returned (.slice A' m' c') ∧ Own w' w.heap.size A' m' c' (bytesR l s n).1 ∧ Rdr w' B t g l (bytesR l s n).2 ∧ Two w w' t g := by
  obtain ⟨k0, k1, f1, hc⟩ := h.open_
  obtain ⟨hB, hgt, htl⟩ := h.ord
  by_cases he : s.e = 0
  · have ht := Lib.hid (show bytesR l s n = ((takeS l s.at_ n).1, ⟨(takeS l s.at_ n).2.2, (takeS l s.at_ n).2.1⟩) by rw [bytesR, if_pos he])
    rw [he] at k1
    clear he f1
    generalize hx : takeS l s.at_ n = x at ht
    have Hx := Lib.hid hx
    clear hx
    go_enter Try.func59, Try.ntmps59
    go_wp2_with (go_at_call 80; refine (Take_any hc n).mono ?_; rw [Hx.out]; rintro e w1 ⟨A1, m1, c1, r1, rfl, ho1, hr1, hc1, hg1⟩; have T1 := h.cur hg1 hc1; obtain ⟨_, kk1, ff1, _⟩ := T1.open_)
    go_ret
    rw [ht.out]
    exact ⟨_, _, _, rfl, ho1.grown (grown_setCell _ t 1 _) (fun ad e e2 => by have := (ho1.blk ad e).1; injection e2 with e2; omega), T1.err _, w1, hg1, grown_setCell _ _ _ _⟩
  · have ht := Lib.hid (show bytesR l s n = ([], s) by rw [bytesR, if_neg he])
    have hne : (s.e != 0) = true := by rw [bne_iff_ne]; exact he
    clear he
    go_enter Try.func59, Try.ntmps59
    go_wp2
    go_ret
    rw [ht.out]
    exact ⟨_, _, _, rfl, Own.nil_ _ _, h, w, grown_refl _ _, grown_refl _ _⟩

set_option maxRecDepth 100000 in
set_option maxHeartbeats 800000 in
theorem rdFail_calls {w : World} {B t g : Nat} {l : List UInt8} {s : Rs} (h : Rdr w B t g l s) (b : Bool) (x : Int) :
    Calls Try.prog 57 #[.pointer (some ⟨t, 0, none⟩), .bool b, .int .i64 x] w fun e w' => e = .returned (.tuple #[]) ∧ Rdr w' B t g l (failR s b x) ∧ Two w w' t g := by
  obtain ⟨k0, k1, f1, hc⟩ := h.open_
  obtain ⟨hB, hgt, htl⟩ := h.ord
  cases b with
  | false =>
    have ht := Lib.hid (show failR s false x = s by rw [failR]; simp)
    go_enter Try.func57, Try.ntmps57
    go_wp2
    go_end0
    rw [ht.out]
    exact ⟨rfl, h, w, grown_refl _ _, grown_refl _ _⟩
  | true =>
    by_cases he : s.e = 0
    · have ht := Lib.hid (show failR s true x = ⟨s.at_, x⟩ by rw [failR, if_pos ⟨rfl, he⟩])
      rw [he] at k1
      clear he
      go_enter Try.func57, Try.ntmps57
      go_wp2
      go_end0
      rw [ht.out]
      exact ⟨rfl, h.err _, w, grown_refl _ _, grown_setCell _ _ _ _⟩
    · have ht := Lib.hid (show failR s true x = s by rw [failR, if_neg (fun h => he h.2)])
      have hne : (s.e == 0) = false := by rw [beq_eq_false_iff_ne]; exact he
      clear he
      go_enter Try.func57, Try.ntmps57
      go_wp2
      go_end0
      rw [ht.out]
      exact ⟨rfl, h, w, grown_refl _ _, grown_refl _ _⟩
end Go.Proofs.Ytegbncngencfnaa
