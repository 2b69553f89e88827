/- The cursor's functions: what each call does. -/
import Derived.Test.YtegbncngencfnaaProg
import Derived.Test.YtegbncngencfnaaBy
import Derived.Deep.QuietTactic
import Derived.BigQuiet
import Derived.WalkSpells
import Derived.StillTailTactics
import Derived.Deep.RegionWith
namespace Go.Proofs.Ytegbncngencfnaa
open Go.RowKit

def valStep (n : Int) (b : UInt8) : Int := (n * 256 + b.toNat) % 18446744073709551616
/-- The number of bytes, the highest first. -/
def val (l : List UInt8) : Int := l.foldl valStep 0
theorem val_snoc (l : List UInt8) (b : UInt8) : val (l ++ [b]) = valStep (val l) b := by simp [val]
theorem val_range (l : List UInt8) : 0 ≤ val l ∧ val l < 18446744073709551616 := by
  rcases List.eq_nil_or_concat l with rfl | ⟨l', b, rfl⟩
  · simp [val]
  · rw [List.concat_eq_append, val_snoc]; unfold valStep; omega
theorem take_snoc {α : Type} (l : List α) (k : Nat) (h : k < l.length) : l.take (k + 1) = l.take k ++ [l[k]] := by
  rw [List.take_succ_eq_append_getElem h]
theorem ret_int {k : IntKind} {a b : Int} (h : a = b) : Ending.returned (.int k a) = .returned (.int k b) := by rw [h]

set_option maxHeartbeats 400000 in
theorem Value_calls {A : Option Addr} {n c : Nat} {l : List UInt8} {w : World} (h : Bs w A n c l) :
    Calls Try.prog 62 #[.slice A n c] w fun e w' => e = .returned (.int .u64 (val l)) ∧ w = w' := by
  have h1 := h.cap
  unfold maxLen at h1
  obtain rfl := h.len
  go_enter Try.func62, Try.ntmps62
  go_wp2
  go_loop [3, 4] (fun n i => ∃ k : Nat, k ≤ l.length ∧ i = .int .i64 k ∧ n = .int .u64 (val (l.take k))) (fun _ i => l.length - (intOf i).toNat)
  case atStart => exact ⟨0, Nat.zero_le _, rfl, rfl⟩
  case round =>
    obtain ⟨k, hk, rfl, rfl⟩ := hrel
    by_cases hlt : k < l.length
    · obtain ⟨b, off, rfl, hb, hc⟩ := h.byte hlt
      have HS := Lib.hid (val_snoc (l.take k) l[k])
      have HT := Lib.hid (take_snoc l k hlt)
      go_wp2
      go_round
      case rel => exact ⟨k + 1, by omega, by go_num, by rw [HT.out, HS.out]; simp only [IntKind.wrap_u64, valStep]; congr 1; omega⟩
      case measure => simp [intOf]; omega
    · go_wp2
      go_ret
      exact ⟨ret_int (by rw [List.take_of_length_le (by omega)]), rfl⟩

set_option maxHeartbeats 400000 in
theorem Clone_calls {A : Option Addr} {n c : Nat} {l : List UInt8} {w : World} (h : Bs w A n c l) (hl : n ≤ 140737488355328) :
    Calls Try.prog 72 #[.slice A n c] w fun e w' => ∃ A' c', e = .returned (.slice A' n c') ∧ Own w' w.heap.size A' n c' l ∧ Below w.heap.size w w' := by
  cases A with
  | none =>
    have hn : l = [] := by
      rcases Nat.eq_zero_or_pos l.length with h0 | h0
      · exact List.eq_nil_of_length_eq_zero h0
      · obtain ⟨b, off, e, _⟩ := h.byte h0; cases e
    subst hn
    obtain rfl := h.len
    have heq := eqn_none Try.underlying22
    go_enter Try.func72, Try.ntmps72
    go_wp2
    go_ret
    exact ⟨_, _, rfl, Own.nil_ _ _, Below.refl _ _⟩
  | some ad =>
    have heq := eqn_some Try.underlying22
    have h0 : Own (w.alloc (.cells #[] 5)) w.heap.size (some ⟨w.heap.size, 0, none⟩) 0 0 [] := ⟨World.ownsRow_made w #[] 0 (Nat.le_refl _) (by simp [maxLen]) rfl, rfl⟩
    go_enter Try.func72, Try.ntmps72
    go_wp2_with (at_builtin; go_must (refine app8 (.tmp 5) (.tmp 6) rfl rfl rfl h0 rfl (h.alloc _) (by omega) (by simp) ?_); intro A1 c1 w1 hown1 hg1 hat1)
    go_ret
    exact ⟨A1, c1, by simp, by simpa using hown1, ((Below.refl _ _).alloc (Nat.le_refl _) _).grown hg1 (by simp) (fun k hk => by cases hk; exact Nat.le_refl _)⟩

/-- Block g is a cursor at place at_ of the bytes l. -/
def Cur (w : World) (g at_ : Nat) (l : List UInt8) : Prop :=
  ∃ A c, w.heap[g]? = some (.cells #[.slice A l.length c, .int .i64 (at_ : Int)] 110 (0, 0)) ∧ Bs w A l.length c l ∧ (∀ ad, A = some ad → ad.block < g) ∧ at_ ≤ l.length ∧ l.length ≤ 4294967296

section
variable {w w' : World} {g at_ : Nat} {l : List UInt8}
theorem blk_lt {o : Obj} (h : w.heap[g]? = some o) : g < w.heap.size := by
  rcases Nat.lt_or_ge g w.heap.size with hlt | hge
  · exact hlt
  · rw [Array.getElem?_eq_none hge] at h; cases h
theorem blk_cell {cs : Array Value} {t : TypeId} (h : w.heap[g]? = some (.cells cs t (0, 0))) (i : Nat) : w.cell? ⟨g, i, none⟩ = cs[i]? := cell_of_row w g i cs t (0, 0) h
theorem blk_frozen {cs : Array Value} {t : TypeId} (h : w.heap[g]? = some (.cells cs t (0, 0))) (i : Nat) : w.frozen? ⟨g, i, none⟩ = false := by simp [World.frozen?, h]
theorem blk_set {cs : Array Value} {t : TypeId} (h : w.heap[g]? = some (.cells cs t (0, 0))) (i : Nat) (u : Value) : (w.setCell ⟨g, i, none⟩ u).heap[g]? = some (.cells (cs.setIfInBounds i u) t (0, 0)) := by
  simp [World.setCell, Array.getElem?_modify, h]
theorem Cur.lt (h : Cur w g at_ l) : g < w.heap.size := by obtain ⟨A, c, h, _⟩ := h; exact blk_lt h
theorem Cur.len (h : Cur w g at_ l) : at_ ≤ l.length ∧ l.length ≤ 4294967296 := by obtain ⟨A, c, h, _, _, h1⟩ := h; exact h1
theorem Cur.below (h : Cur w g at_ l) (hb : Below w.heap.size w w') : Cur w' g at_ l := by
  obtain ⟨A, c, hh, hr, hr2⟩ := h
  exact ⟨A, c, (hb.block g (blk_lt hh)).trans hh, hr.below hb, hr2⟩
theorem Cur.grown (h : Cur w g at_ l) {row : Option Nat} (hg : w.grownBy w' row) (hne : ∀ k, row = some k → g < k) : Cur w' g at_ l := by
  obtain ⟨A, c, hh, hr, hb, hr2⟩ := h
  refine ⟨A, c, (hg.block g (blk_lt hh) (fun e => Nat.lt_irrefl g (hne g e.symm))).trans hh, hr.grown hg (fun ad e e2 => ?_), hb, hr2⟩
  have h1 := hb ad e
  have h2 := hne _ e2.symm
  omega
theorem Cur.drewN (h : Cur w g at_ l) (n : Nat) : Cur (w.drewN n) g at_ l := h
theorem Cur.drew (h : Cur w g at_ l) : Cur w.drew g at_ l := h
/-- What of a cursor the walk reads. -/
theorem Cur.open_ (h : Cur w g at_ l) : ∃ A c, w.cell? ⟨g, 0, none⟩ = some (.slice A l.length c) ∧ w.cell? ⟨g, 1, none⟩ = some (.int .i64 (at_ : Int)) ∧ w.frozen? ⟨g, 1, none⟩ = false ∧
    Bs w A l.length c l ∧ at_ ≤ l.length ∧ l.length ≤ 4294967296 := by
  obtain ⟨A, c, hh, hr, hne, hat, hl⟩ := h
  exact ⟨A, c, by rw [blk_cell hh]; rfl, by rw [blk_cell hh]; rfl, blk_frozen hh 1, hr, hat, hl⟩
theorem Cur.set_ (h : Cur w g at_ l) (n : Nat) (hn : n ≤ l.length) : Cur (w.setCell ⟨g, 1, none⟩ (.int .i64 (n : Int))) g n l := by
  obtain ⟨A, c, hh, hr, hne, hat, hl⟩ := h
  exact ⟨A, c, blk_set hh 1 _, ⟨hr.1.setCell (fun ad e => Nat.ne_of_lt (hne ad e)) _, hr.2⟩, hne, hn, hl⟩
end

set_option maxHeartbeats 400000 in
theorem Over_calls {A : Option Addr} {n c : Nat} {l : List UInt8} {w : World} (h : Bs w A n c l) (hl : n ≤ 4294967296) :
    Calls Try.prog 51 #[.slice A n c] w fun e w' => ∃ g, e = .returned (.pointer (some ⟨g, 0, none⟩)) ∧ w.heap.size ≤ g ∧ Cur w' g 0 l ∧ Below w.heap.size w w' := by
  go_enter Try.func51, Try.ntmps51
  go_wp2_with (go_at_call 72; refine (Clone_calls h (by omega)).mono ?_; rintro e w1 ⟨A1, c1, rfl, hown, hb⟩)
  go_ret
  have hz := hb.size
  have ha := hown.blk
  obtain rfl := h.len
  refine ⟨_, rfl, hz, ⟨A1, c1, heap_alloc_new w1 _, hown.bs.alloc _, fun ad e => ?_, Nat.zero_le _, hl⟩, hb.alloc hz _⟩
  exact (ha ad e).2

set_option maxHeartbeats 400000 in
theorem Left_calls {w : World} {g at_ : Nat} {l : List UInt8} (h : Cur w g at_ l) :
    Calls Try.prog 52 #[.pointer (some ⟨g, 0, none⟩)] w fun e w' => e = .returned (.int .i64 ((l.length : Int) - at_)) ∧ ∃ n, w' = w.drewN n := by
  obtain ⟨A, c, h0, h1, hf, hr, hat, hl⟩ := h.open_
  go_enter Try.func52, Try.ntmps52
  go_wp2
  go_quiet (fail)
  go_wp2
  go_ret
  exact ⟨rfl, _, rfl⟩

set_option maxRecDepth 100000 in
set_option maxHeartbeats 400000 in
theorem Take_ok {w : World} {g at_ : Nat} {l : List UInt8} (h : Cur w g at_ l) (n : Nat) (hn : at_ + n ≤ l.length) :
    Calls Try.prog 80 #[.pointer (some ⟨g, 0, none⟩), .int .i64 (n : Int)] w fun e w' => ∃ A' c', e = .returned (.tuple #[.slice A' n c', .int .i64 0]) ∧ Own w' w.heap.size A' n c' ((l.drop at_).take n) ∧ Cur w' g (at_ + n) l ∧ w.grownBy w' (some g) := by
  obtain ⟨A, c, h0, h1, hf, hr, hat, hl⟩ := h.open_
  have hgt : ¬ ((l.length : Int) - at_ < n) := by omega
  have hn0 : ¬ ((n : Int) < 0) := by omega
  go_enter Try.func80, Try.ntmps80
  go_wp2_with (go_at_call 52; refine (Left_calls h).mono ?_; rintro e w1 ⟨rfl, nq, rfl⟩)
  have g0 : (w.drewN nq).cell? ⟨g, 0, none⟩ = some (.slice A l.length c) := h0
  have g1 : (w.drewN nq).cell? ⟨g, 1, none⟩ = some (.int .i64 (at_ : Int)) := h1
  have gb : Below w.heap.size w (w.drewN nq) := below_drewN (Below.refl _ _) nq
  have hc := hr.cap
  clear h0 h1 hf
  generalize w.drewN nq = w1 at g0 g1 gb ⊢
  unfold maxLen at hc
  have b1 : at_ + n ≤ c := by omega
  have e1 : IntKind.i64.wrap ((at_ : Int) + n) = (at_ : Int) + n := IntWalk.i64_in _ (by omega)
  have e2 : (0 : Int) ≤ (at_ : Int) + n := by omega
  have e3 : ((at_ : Int) + n).toNat = at_ + n := by omega
  have e4 : (at_ : Int) ≤ (at_ : Int) + n := by omega
  have e5 : (at_ : Int) + n ≤ c := by omega
  go_still_tail 15, (by kernel_rfl)
  change wpList _ _ _ _ _ w1.drew
  have gb2 : Below w.heap.size w w1.drew := gb.drew
  clear e1 e2 e3 e4 e5 b1 g0 g1 gb
  generalize w1.drew = w2 at gb2 ⊢
  clear w1
  have hr3 := ((hr.below gb2).from_ hat).upto (k := n) (by omega)
  generalize (if c = at_ then A else Option.map (fun x => x.add at_) A) = A2 at hr3 ⊢
  have hB := Lib.hid gb2
  clear gb2 hr hc
  go_wp2_with (go_at_call 72; refine (Clone_calls hr3 (by omega)).mono ?_; rintro e w3 ⟨A1, c1, rfl, hown, hb⟩; have H3 := h.below (below_then hB.out hB.out.size hb); obtain ⟨A3, c3, g0, g1, hf, _, _, _⟩ := H3.open_)
  go_ret2
  have hsz := hB.out.size
  have hgl := h.lt
  have hne : ∀ ad, A1 = some ad → some ad.block ≠ some g := fun ad e h => by
    have := (hown.blk ad e).1
    injection h with h
    omega
  exact ⟨A1, c1, rfl, (hown.lower hsz).grown (grown_setCell _ _ _ _) hne, by simpa using H3.set_ (at_ + n) hn, grown_trans (grown_of_below (below_then hB.out hsz hb) _) (grown_setCell _ _ _ _)⟩

/-- What a take of n bytes at place at_ of l comes to: the bytes, the error, the place. -/
def takeS (l : List UInt8) (at_ : Nat) (n : Int) : List UInt8 × Int × Nat :=
  if n < 0 then ([], 1, at_) else if (l.length : Int) - at_ < n then ([], 2, at_) else ((l.drop at_).take n.toNat, 0, at_ + n.toNat)

set_option maxHeartbeats 400000 in
theorem Take_any {w : World} {g at_ : Nat} {l : List UInt8} (h : Cur w g at_ l) (n : Int) :
    Calls Try.prog 80 #[.pointer (some ⟨g, 0, none⟩), .int .i64 n] w fun e w' => ∃ A' m c' r, e = .returned (.tuple #[.slice A' m c', .int .i64 r]) ∧ Own w' w.heap.size A' m c' (takeS l at_ n).1 ∧ r = (takeS l at_ n).2.1 ∧ Cur w' g (takeS l at_ n).2.2 l ∧ w.grownBy w' (some g) := by
  have hl := h.len
  by_cases h0 : n < 0
  · have ht := Lib.hid (show takeS l at_ n = ([], 1, at_) by simp [takeS, h0])
    go_enter Try.func80, Try.ntmps80
    go_wp2
    go_ret2
    rw [ht.out]
    exact ⟨_, _, _, _, rfl, Own.nil_ _ _, rfl, h, World.grownBy.refl _ _⟩
  · by_cases h1 : (l.length : Int) - at_ < n
    · have ht := Lib.hid (show takeS l at_ n = ([], 2, at_) by simp [takeS, h0, h1])
      go_enter Try.func80, Try.ntmps80
      go_wp2_with (go_at_call 52; refine (Left_calls h).mono ?_; rintro e w1 ⟨rfl, nq, rfl⟩)
      go_ret2
      rw [ht.out]
      exact ⟨_, _, _, _, rfl, Own.nil_ _ _, rfl, h.drewN _, grown_of_below (below_drewN (Below.refl _ _) _) _⟩
    · obtain ⟨m, rfl⟩ := Int.eq_ofNat_of_zero_le (by omega : 0 ≤ n)
      have ht : takeS l at_ (m : Int) = ((l.drop at_).take m, 0, at_ + m) := by simp [takeS, h0, h1]
      rw [ht]
      refine (Take_ok h m (by omega)).mono ?_
      rintro e w' ⟨A', c', rfl, h2, h3, h4⟩
      exact ⟨A', m, c', 0, rfl, h2, rfl, h3, h4⟩

end Go.Proofs.Ytegbncngencfnaa
