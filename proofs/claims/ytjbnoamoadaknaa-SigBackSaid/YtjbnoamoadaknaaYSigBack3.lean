import Derived.Test.YtjbnoamoadaknaaProg
import Derived.Test.YtjbnoamoadaknaaYSigBack2
import Derived.Deep.QuietTactic
import Derived.BigQuiet
import Derived.WalkSpells
import Derived.StillTailTactics
import Derived.Deep.RegionWith
import Derived.Laws.BitsAllLaws
import Derived.IntWalk
/- The cursor's functions: what each call does. -/
section
namespace Go.Proofs.Ytjbnoamoadaknaa
open Go.RowKit

def valStep (n : Int) (b : UInt8) : Int := (n * 256 + b.toNat) % 18446744073709551616
/-- The number of bytes, the highest first. -/
def val (l : List UInt8) : Int := l.foldl valStep 0
theorem val_snoc (l : List UInt8) (b : UInt8) : val (l ++ [b]) = valStep (val l) b := by simp [val]
theorem val_range (l : List UInt8) : 0 ≤ val l ∧ val l < 18446744073709551616 := by
  rcases List.eq_nil_or_concat l with rfl | ⟨l', b, rfl⟩
  · simp [val]
  · rw [List.concat_eq_append, val_snoc]; unfold valStep; omega
theorem take_snoc {α : Type} (l : List α) (k : Nat) (h : k < l.length) : l.take (k + 1) = l.take k ++ [l[k]] := by
  rw [List.take_succ_eq_append_getElem h]
theorem ret_int {k : IntKind} {a b : Int} (h : a = b) : Ending.returned (.int k a) = .returned (.int k b) := by rw [h]

set_option maxHeartbeats 400000 in
theorem Value_calls {A : Option Addr} {n c : Nat} {l : List UInt8} {w : World} (h : Bs w A n c l) :
    Calls Try.prog 75 #[.slice A n c] w fun e w' => e = .returned (.int .u64 (val l)) ∧ w = w' := by
  have h1 := h.cap
  unfold maxLen at h1
  obtain rfl := h.len
  go_enter Try.func75, Try.ntmps75
  go_wp2
  go_loop [3, 4] (fun n i => ∃ k : Nat, k ≤ l.length ∧ i = .int .i64 k ∧ n = .int .u64 (val (l.take k))) (fun _ i => l.length - (intOf i).toNat)
  case atStart => exact ⟨0, Nat.zero_le _, rfl, rfl⟩
  case round =>
    obtain ⟨k, hk, rfl, rfl⟩ := hrel
    by_cases hlt : k < l.length
    · obtain ⟨b, off, rfl, hb, hc⟩ := h.byte hlt
      have HS := Lib.hid (val_snoc (l.take k) l[k])
      have HT := Lib.hid (take_snoc l k hlt)
      go_wp2
      go_round
      case rel => exact ⟨k + 1, by omega, by go_num, by rw [HT.out, HS.out]; simp only [IntKind.wrap_u64, valStep]; congr 1; omega⟩
      case measure => simp [intOf]; omega
    · go_wp2
      go_ret
      exact ⟨ret_int (by rw [List.take_of_length_le (by omega)]), rfl⟩

set_option maxHeartbeats 400000 in
theorem Clone_calls {A : Option Addr} {n c : Nat} {l : List UInt8} {w : World} (h : Bs w A n c l) (hl : n ≤ 140737488355328) :
    Calls Try.prog 51 #[.slice A n c] w fun e w' => ∃ A' c', e = .returned (.slice A' n c') ∧ Own w' w.heap.size A' n c' l ∧ Below w.heap.size w w' := by
  cases A with
  | none =>
    have hn : l = [] := by
      rcases Nat.eq_zero_or_pos l.length with h0 | h0
      · exact List.eq_nil_of_length_eq_zero h0
      · obtain ⟨b, off, e, _⟩ := h.byte h0; cases e
    subst hn
    obtain rfl := h.len
    have heq := eqn_none Try.underlying22
    go_enter Try.func51, Try.ntmps51
    go_wp2
    go_ret
    exact ⟨_, _, rfl, Own.nil_ _ _, Below.refl _ _⟩
  | some ad =>
    have heq := eqn_some Try.underlying22
    have h0 : Own (w.alloc (.cells #[] 5)) w.heap.size (some ⟨w.heap.size, 0, none⟩) 0 0 [] := ⟨World.ownsRow_made w #[] 0 (Nat.le_refl _) (by simp [maxLen]) rfl, rfl⟩
    go_enter Try.func51, Try.ntmps51
    go_wp2_with (at_builtin; go_must (refine app8 (.tmp 5) (.tmp 6) rfl rfl rfl h0 rfl (h.alloc _) (by omega) (by simp) ?_); intro A1 c1 w1 hown1 hg1 hat1)
    go_ret
    exact ⟨A1, c1, by simp, by simpa using hown1, ((Below.refl _ _).alloc (Nat.le_refl _) _).grown hg1 (by simp) (fun k hk => by cases hk; exact Nat.le_refl _)⟩

/-- Block g is a cursor at place at_ of the bytes l. -/
def Cur (w : World) (g at_ : Nat) (l : List UInt8) : Prop :=
  ∃ A c, w.heap[g]? = some (.cells #[.slice A l.length c, .int .i64 (at_ : Int)] 76 (0, 0)) ∧ Bs w A l.length c l ∧ (∀ ad, A = some ad → ad.block < g) ∧ at_ ≤ l.length ∧ l.length ≤ 4294967296

section
variable {w w' : World} {g at_ : Nat} {l : List UInt8}
theorem blk_lt {o : Obj} (h : w.heap[g]? = some o) : g < w.heap.size := by
  rcases Nat.lt_or_ge g w.heap.size with hlt | hge
  · exact hlt
  · rw [Array.getElem?_eq_none hge] at h; cases h
theorem blk_cell {cs : Array Value} {t : TypeId} (h : w.heap[g]? = some (.cells cs t (0, 0))) (i : Nat) : w.cell? ⟨g, i, none⟩ = cs[i]? := cell_of_row w g i cs t (0, 0) h
theorem blk_frozen {cs : Array Value} {t : TypeId} (h : w.heap[g]? = some (.cells cs t (0, 0))) (i : Nat) : w.frozen? ⟨g, i, none⟩ = false := by simp [World.frozen?, h]
theorem blk_set {cs : Array Value} {t : TypeId} (h : w.heap[g]? = some (.cells cs t (0, 0))) (i : Nat) (u : Value) : (w.setCell ⟨g, i, none⟩ u).heap[g]? = some (.cells (cs.setIfInBounds i u) t (0, 0)) := by
  simp [World.setCell, Array.getElem?_modify, h]
theorem Cur.lt (h : Cur w g at_ l) : g < w.heap.size := by obtain ⟨A, c, h, _⟩ := h; exact blk_lt h
theorem Cur.len (h : Cur w g at_ l) : at_ ≤ l.length ∧ l.length ≤ 4294967296 := by obtain ⟨A, c, h, _, _, h1⟩ := h; exact h1
theorem Cur.below (h : Cur w g at_ l) (hb : Below w.heap.size w w') : Cur w' g at_ l := by
  obtain ⟨A, c, hh, hr, hr2⟩ := h
  exact ⟨A, c, (hb.block g (blk_lt hh)).trans hh, hr.below hb, hr2⟩
theorem Cur.grown (h : Cur w g at_ l) {row : Option Nat} (hg : w.grownBy w' row) (hne : ∀ k, row = some k → g < k) : Cur w' g at_ l := by
  obtain ⟨A, c, hh, hr, hb, hr2⟩ := h
  refine ⟨A, c, (hg.block g (blk_lt hh) (fun e => Nat.lt_irrefl g (hne g e.symm))).trans hh, hr.grown hg (fun ad e e2 => ?_), hb, hr2⟩
  have h1 := hb ad e
  have h2 := hne _ e2.symm
  omega
theorem Cur.drewN (h : Cur w g at_ l) (n : Nat) : Cur (w.drewN n) g at_ l := h
theorem Cur.drew (h : Cur w g at_ l) : Cur w.drew g at_ l := h
/-- What of a cursor the walk reads. -/
theorem Cur.open_ (h : Cur w g at_ l) : ∃ A c, w.cell? ⟨g, 0, none⟩ = some (.slice A l.length c) ∧ w.cell? ⟨g, 1, none⟩ = some (.int .i64 (at_ : Int)) ∧ w.frozen? ⟨g, 1, none⟩ = false ∧
    Bs w A l.length c l ∧ at_ ≤ l.length ∧ l.length ≤ 4294967296 := by
  obtain ⟨A, c, hh, hr, hne, hat, hl⟩ := h
  exact ⟨A, c, by rw [blk_cell hh]; rfl, by rw [blk_cell hh]; rfl, blk_frozen hh 1, hr, hat, hl⟩
theorem Cur.set_ (h : Cur w g at_ l) (n : Nat) (hn : n ≤ l.length) : Cur (w.setCell ⟨g, 1, none⟩ (.int .i64 (n : Int))) g n l := by
  obtain ⟨A, c, hh, hr, hne, hat, hl⟩ := h
  exact ⟨A, c, blk_set hh 1 _, ⟨hr.1.setCell (fun ad e => Nat.ne_of_lt (hne ad e)) _, hr.2⟩, hne, hn, hl⟩
end

set_option maxHeartbeats 400000 in
theorem Over_calls {A : Option Addr} {n c : Nat} {l : List UInt8} {w : World} (h : Bs w A n c l) (hl : n ≤ 4294967296) :
    Calls Try.prog 23 #[.slice A n c] w fun e w' => ∃ g, e = .returned (.pointer (some ⟨g, 0, none⟩)) ∧ w.heap.size ≤ g ∧ Cur w' g 0 l ∧ Below w.heap.size w w' := by
  go_enter Try.func23, Try.ntmps23
  go_wp2_with (go_at_call 51; refine (Clone_calls h (by omega)).mono ?_; rintro e w1 ⟨A1, c1, rfl, hown, hb⟩)
  go_ret
  have hz := hb.size
  have ha := hown.blk
  obtain rfl := h.len
  refine ⟨_, rfl, hz, ⟨A1, c1, heap_alloc_new w1 _, hown.bs.alloc _, fun ad e => ?_, Nat.zero_le _, hl⟩, hb.alloc hz _⟩
  exact (ha ad e).2

set_option maxHeartbeats 400000 in
theorem Left_calls {w : World} {g at_ : Nat} {l : List UInt8} (h : Cur w g at_ l) :
    Calls Try.prog 79 #[.pointer (some ⟨g, 0, none⟩)] w fun e w' => e = .returned (.int .i64 ((l.length : Int) - at_)) ∧ ∃ n, w' = w.drewN n := by
  obtain ⟨A, c, h0, h1, hf, hr, hat, hl⟩ := h.open_
  go_enter Try.func79, Try.ntmps79
  go_wp2
  go_quiet (fail)
  go_wp2
  go_ret
  exact ⟨rfl, _, rfl⟩

set_option maxRecDepth 100000 in
set_option maxHeartbeats 400000 in
theorem Take_ok {w : World} {g at_ : Nat} {l : List UInt8} (h : Cur w g at_ l) (n : Nat) (hn : at_ + n ≤ l.length) :
    Calls Try.prog 59 #[.pointer (some ⟨g, 0, none⟩), .int .i64 (n : Int)] w fun e w' => ∃ A' c', e = .returned (.tuple #[.slice A' n c', .int .i64 0]) ∧ Own w' w.heap.size A' n c' ((l.drop at_).take n) ∧ Cur w' g (at_ + n) l ∧ w.grownBy w' (some g) := by
  obtain ⟨A, c, h0, h1, hf, hr, hat, hl⟩ := h.open_
  have hgt : ¬ ((l.length : Int) - at_ < n) := by omega
  have hn0 : ¬ ((n : Int) < 0) := by omega
  go_enter Try.func59, Try.ntmps59
  go_wp2_with (go_at_call 79; refine (Left_calls h).mono ?_; rintro e w1 ⟨rfl, nq, rfl⟩)
  have g0 : (w.drewN nq).cell? ⟨g, 0, none⟩ = some (.slice A l.length c) := h0
  have g1 : (w.drewN nq).cell? ⟨g, 1, none⟩ = some (.int .i64 (at_ : Int)) := h1
  have gb : Below w.heap.size w (w.drewN nq) := below_drewN (Below.refl _ _) nq
  have hc := hr.cap
  clear h0 h1 hf
  generalize w.drewN nq = w1 at g0 g1 gb ⊢
  unfold maxLen at hc
  have b1 : at_ + n ≤ c := by omega
  have e1 : IntKind.i64.wrap ((at_ : Int) + n) = (at_ : Int) + n := IntWalk.i64_in _ (by omega)
  have e2 : (0 : Int) ≤ (at_ : Int) + n := by omega
  have e3 : ((at_ : Int) + n).toNat = at_ + n := by omega
  have e4 : (at_ : Int) ≤ (at_ : Int) + n := by omega
  have e5 : (at_ : Int) + n ≤ c := by omega
  go_still_tail 15, (by kernel_rfl)
  change wpList _ _ _ _ _ w1.drew
  have gb2 : Below w.heap.size w w1.drew := gb.drew
  clear e1 e2 e3 e4 e5 b1 g0 g1 gb
  generalize w1.drew = w2 at gb2 ⊢
  clear w1
  have hr3 := ((hr.below gb2).from_ hat).upto (k := n) (by omega)
  generalize (if c = at_ then A else Option.map (fun x => x.add at_) A) = A2 at hr3 ⊢
  have hB := Lib.hid gb2
  clear gb2 hr hc
  go_wp2_with (go_at_call 51; refine (Clone_calls hr3 (by omega)).mono ?_; rintro e w3 ⟨A1, c1, rfl, hown, hb⟩; have H3 := h.below (below_then hB.out hB.out.size hb); obtain ⟨A3, c3, g0, g1, hf, _, _, _⟩ := H3.open_)
  go_ret2
  have hsz := hB.out.size
  have hgl := h.lt
  have hne : ∀ ad, A1 = some ad → some ad.block ≠ some g := fun ad e h => by
    have := (hown.blk ad e).1
    injection h with h
    omega
  exact ⟨A1, c1, rfl, (hown.lower hsz).grown (grown_setCell _ _ _ _) hne, by simpa using H3.set_ (at_ + n) hn, grown_trans (grown_of_below (below_then hB.out hsz hb) _) (grown_setCell _ _ _ _)⟩

/-- What a take of n bytes at place at_ of l comes to: the bytes, the error, the place. -/
def takeS (l : List UInt8) (at_ : Nat) (n : Int) : List UInt8 × Int × Nat :=
  if n < 0 then ([], 1, at_) else if (l.length : Int) - at_ < n then ([], 2, at_) else ((l.drop at_).take n.toNat, 0, at_ + n.toNat)

set_option maxHeartbeats 400000 in
theorem Take_any {w : World} {g at_ : Nat} {l : List UInt8} (h : Cur w g at_ l) (n : Int) :
    Calls Try.prog 59 #[.pointer (some ⟨g, 0, none⟩), .int .i64 n] w fun e w' => ∃ A' m c' r, e = .returned (.tuple #[.slice A' m c', .int .i64 r]) ∧ Own w' w.heap.size A' m c' (takeS l at_ n).1 ∧ r = (takeS l at_ n).2.1 ∧ Cur w' g (takeS l at_ n).2.2 l ∧ w.grownBy w' (some g) := by
  have hl := h.len
  by_cases h0 : n < 0
  · have ht := Lib.hid (show takeS l at_ n = ([], 1, at_) by simp [takeS, h0])
    go_enter Try.func59, Try.ntmps59
    go_wp2
    go_ret2
    rw [ht.out]
    exact ⟨_, _, _, _, rfl, Own.nil_ _ _, rfl, h, World.grownBy.refl _ _⟩
  · by_cases h1 : (l.length : Int) - at_ < n
    · have ht := Lib.hid (show takeS l at_ n = ([], 2, at_) by simp [takeS, h0, h1])
      go_enter Try.func59, Try.ntmps59
      go_wp2_with (go_at_call 79; refine (Left_calls h).mono ?_; rintro e w1 ⟨rfl, nq, rfl⟩)
      go_ret2
      rw [ht.out]
      exact ⟨_, _, _, _, rfl, Own.nil_ _ _, rfl, h.drewN _, grown_of_below (below_drewN (Below.refl _ _) _) _⟩
    · obtain ⟨m, rfl⟩ := Int.eq_ofNat_of_zero_le (by omega : 0 ≤ n)
      have ht : takeS l at_ (m : Int) = ((l.drop at_).take m, 0, at_ + m) := by simp [takeS, h0, h1]
      rw [ht]
      refine (Take_ok h m (by omega)).mono ?_
      rintro e w' ⟨A', c', rfl, h2, h3, h4⟩
      exact ⟨A', m, c', 0, rfl, h2, rfl, h3, h4⟩

end Go.Proofs.Ytjbnoamoadaknaa
end

/- The cursor's functions, further. -/
section
namespace Go.Proofs.Ytjbnoamoadaknaa
open Go.RowKit

set_option maxHeartbeats 400000 in
theorem Rest_calls {w : World} {g at_ : Nat} {l : List UInt8} (h : Cur w g at_ l) :
    Calls Try.prog 60 #[.pointer (some ⟨g, 0, none⟩)] w fun e w' => ∃ A' m c', e = .returned (.slice A' m c') ∧ Own w' w.heap.size A' m c' (l.drop at_) ∧ Cur w' g l.length l ∧ w.grownBy w' (some g) := by
  have hl := h.len
  have ht := Lib.hid (show takeS l at_ ((l.length : Int) - at_) = (l.drop at_, 0, l.length) by
    rw [takeS, if_neg (by omega), if_neg (by omega)]
    have e : ((l.length : Int) - at_).toNat = l.length - at_ := by omega
    rw [e, List.take_of_length_le (by simp)]
    congr 2; omega)
  go_enter Try.func60, Try.ntmps60
  go_wp2_with (first
    | (go_at_call 79; refine (Left_calls h).mono ?_; rintro e w1 ⟨rfl, nq, rfl⟩)
    | (go_at_call 59; refine (Take_any (h.drewN nq) _).mono ?_; rintro e w1 ⟨A1, m, c1, r, rfl, h2, h3, h4, h5⟩; rw [ht.out] at h2 h4; clear h3))
  go_ret
  exact ⟨_, _, _, rfl, h2, h4, grown_trans (grown_of_below (below_drewN (Below.refl _ _) nq) _) h5⟩

/-- What a number of width wd at place at_ of l comes to: the number, the error, the place. -/
def numS (l : List UInt8) (at_ : Nat) (wd : Int) : Int × Int × Nat :=
  if wd < 1 ∨ 8 < wd then (0, 1, at_) else (val (takeS l at_ wd).1, (takeS l at_ wd).2.1, (takeS l at_ wd).2.2)

theorem or_step (n : Int) (b : UInt8) : bits BinOp.or IntKind.u64 (IntKind.u64.wrap (n * 256)) (IntKind.u64.wrap (b.toNat : Int)) = valStep n b := by
  have hb := b.toNat_lt
  rw [IntKind.wrap_u64, IntKind.wrap_u64, u64_or _ _ (by omega) (by omega) (by omega) (by omega), nat_join 8 _ _ (by omega) (by omega)]
  unfold valStep
  omega

set_option maxHeartbeats 800000 in
theorem Number_any {w : World} {g at_ : Nat} {l : List UInt8} (h : Cur w g at_ l) (n : Int) :
    Calls Try.prog 52 #[.pointer (some ⟨g, 0, none⟩), .int .i64 n] w fun e w' => e = .returned (.tuple #[.int .u64 (numS l at_ n).1, .int .i64 (numS l at_ n).2.1]) ∧ Cur w' g (numS l at_ n).2.2 l ∧ w.grownBy w' (some g) := by
  have hl := h.len
  by_cases h0 : n < 1
  · have ht := Lib.hid (show numS l at_ n = (0, 1, at_) by simp [numS, h0])
    go_enter Try.func52, Try.ntmps52
    go_wp2
    go_ret2
    rw [ht.out]
    exact ⟨rfl, h, World.grownBy.refl _ _⟩
  · by_cases h1 : 8 < n
    · have ht := Lib.hid (show numS l at_ n = (0, 1, at_) by simp [numS, h1])
      go_enter Try.func52, Try.ntmps52
      go_wp2
      go_ret2
      rw [ht.out]
      exact ⟨rfl, h, World.grownBy.refl _ _⟩
    · have ht := Lib.hid (show numS l at_ n = (val (takeS l at_ n).1, (takeS l at_ n).2.1, (takeS l at_ n).2.2) by simp [numS]; omega)
      have hle : (takeS l at_ n).1.length ≤ 8 := by
        unfold takeS
        split
        · simp
        · split
          · simp
          · simp; omega
      go_enter Try.func52, Try.ntmps52
      go_wp2_with (go_at_call 59; refine (Take_any h _).mono ?_; rintro e w1 ⟨A1, m, c1, r, rfl, h2, h3, h4, h5⟩; have hr := Lib.hid h3; clear h3)
      have hbs := h2.bs
      generalize hx : (takeS l at_ n).1 = xs at hbs hle
      have Hx := Lib.hid hx
      clear hx
      have hxl := hbs.len
      obtain rfl := hxl
      go_loop [8, 25] (fun v i => ∃ k : Nat, k ≤ xs.length ∧ i = .int .i64 k ∧ v = .int .u64 (val (xs.take k))) (fun _ i => xs.length - (intOf i).toNat)
      case atStart => exact ⟨0, Nat.zero_le _, rfl, rfl⟩
      case round =>
        obtain ⟨k, hk, rfl, rfl⟩ := hrel
        by_cases hlt : k < xs.length
        · obtain ⟨b, off, rfl, hb, hc⟩ := hbs.byte hlt
          have HS := Lib.hid (val_snoc (xs.take k) xs[k])
          have HT := Lib.hid (take_snoc xs k hlt)
          go_wp2
          go_round
          case rel => exact ⟨k + 1, by omega, by go_num, by rw [HT.out, HS.out, or_step]⟩
          case measure => simp [intOf]; omega
        · go_wp2
          go_ret2
          rw [ht.out, Hx.out, hr.out, List.take_of_length_le (by omega)]
          exact ⟨rfl, h4, h5⟩
end Go.Proofs.Ytjbnoamoadaknaa
end

/- The reader of sig: what each call does. -/
section
namespace Go.Proofs.Ytjbnoamoadaknaa
open Go.RowKit

/-- A reader's place and error. -/
structure Rs where
  at_ : Nat
  e : Int

def numR (l : List UInt8) (s : Rs) (wd : Int) : Int × Rs := if s.e = 0 then ((numS l s.at_ wd).1, ⟨(numS l s.at_ wd).2.2, (numS l s.at_ wd).2.1⟩) else (0, s)
def bytesR (l : List UInt8) (s : Rs) (n : Int) : List UInt8 × Rs := if s.e = 0 then ((takeS l s.at_ n).1, ⟨(takeS l s.at_ n).2.2, (takeS l s.at_ n).2.1⟩) else ([], s)
def failR (s : Rs) (b : Bool) (x : Int) : Rs := if b = true ∧ s.e = 0 then ⟨s.at_, x⟩ else s

/-- Block t is a reader over the cursor at block g. -/
def Rdr (w : World) (B t g : Nat) (l : List UInt8) (s : Rs) : Prop :=
  w.heap[t]? = some (.cells #[.pointer (some ⟨g, 0, none⟩), .int .i64 s.e] 46 (0, 0)) ∧ Cur w g s.at_ l ∧ B ≤ g ∧ g < t

theorem takeS_short (l : List UInt8) (at_ : Nat) (n : Int) : ((takeS l at_ n).1.length : Int) ≤ l.length ∧ (0 ≤ n → ((takeS l at_ n).1.length : Int) ≤ n) := by
  unfold takeS
  split
  · simp
  · split
    · simp
    · refine ⟨?_, fun _ => ?_⟩ <;> (simp; omega)
theorem val_lt : ∀ (l : List UInt8), l.length ≤ 4 → val l < 4294967296 := by
  have step : ∀ (x : Int) (b : UInt8) (m : Int), 0 ≤ x → x < m → valStep x b < m * 256 := fun x b m h0 h => by
    have := b.toNat_lt
    unfold valStep
    omega
  intro l hl
  match l, hl with
  | [], _ => simp [val]
  | [a], _ =>
    have := step 0 a 1 (by omega) (by omega)
    simp only [val, List.foldl_cons, List.foldl_nil]; omega
  | [a, b], _ =>
    have h1 := step 0 a 1 (by omega) (by omega)
    have r1 := val_range [a]
    have h2 := step _ b _ r1.1 h1
    simp only [val, List.foldl_cons, List.foldl_nil] at *; omega
  | [a, b, c], _ =>
    have h1 := step 0 a 1 (by omega) (by omega)
    have h2 := step _ b _ (val_range [a]).1 h1
    have h3 := step _ c _ (val_range [a, b]).1 h2
    simp only [val, List.foldl_cons, List.foldl_nil] at *; omega
  | [a, b, c, d], _ =>
    have h1 := step 0 a 1 (by omega) (by omega)
    have h2 := step _ b _ (val_range [a]).1 h1
    have h3 := step _ c _ (val_range [a, b]).1 h2
    have h4 := step _ d _ (val_range [a, b, c]).1 h3
    simp only [val, List.foldl_cons, List.foldl_nil] at *; omega
theorem numS_lt (l : List UInt8) (at_ : Nat) (wd : Int) (h4 : wd ≤ 4) : 0 ≤ (numS l at_ wd).1 ∧ (numS l at_ wd).1 < 4294967296 := by
  unfold numS
  split
  · simp
  · refine ⟨(val_range _).1, val_lt _ ?_⟩
    have := takeS_short l at_ wd
    omega
theorem numR_lt (l : List UInt8) (s : Rs) (wd : Int) (h4 : wd ≤ 4) : 0 ≤ (numR l s wd).1 ∧ (numR l s wd).1 < 4294967296 := by
  unfold numR
  split
  · exact numS_lt _ _ _ h4
  · simp

section
variable {w w' : World} {B t g : Nat} {l : List UInt8} {s : Rs}
theorem Rdr.open_ (h : Rdr w B t g l s) : w.cell? ⟨t, 0, none⟩ = some (.pointer (some ⟨g, 0, none⟩)) ∧ w.cell? ⟨t, 1, none⟩ = some (.int .i64 s.e) ∧ w.frozen? ⟨t, 1, none⟩ = false ∧ Cur w g s.at_ l := by
  obtain ⟨hh, hc, hB, hg⟩ := h
  exact ⟨blk_cell hh 0, blk_cell hh 1, blk_frozen hh 1, hc⟩
theorem Rdr.ord (h : Rdr w B t g l s) : B ≤ g ∧ g < t ∧ t < w.heap.size := by
  obtain ⟨hh, hc, hB, hg⟩ := h
  exact ⟨hB, hg, blk_lt hh⟩
theorem Rdr.below (h : Rdr w B t g l s) (hb : Below w.heap.size w w') : Rdr w' B t g l s := by
  obtain ⟨hh, hc, hr⟩ := h
  exact ⟨(hb.block t (blk_lt hh)).trans hh, hc.below hb, hr⟩
theorem Rdr.drewN (h : Rdr w B t g l s) (n : Nat) : Rdr (w.drewN n) B t g l s := h
theorem Rdr.drew (h : Rdr w B t g l s) : Rdr w.drew B t g l s := h
/-- Another block is changed. -/
theorem Rdr.other (h : Rdr w B t g l s) {k : Nat} (hg : w.grownBy w' (some k)) (hk : t < k) : Rdr w' B t g l s := by
  obtain ⟨hh, hc, hB, hgt⟩ := h
  exact ⟨(hg.block t (blk_lt hh) (fun e => by injection e with e; omega)).trans hh, hc.grown hg (fun j e => by injection e with e; omega), hB, hgt⟩
/-- The cursor has gone on. -/
theorem Rdr.cur (h : Rdr w B t g l s) (hg : w.grownBy w' (some g)) {a : Nat} (hc : Cur w' g a l) : Rdr w' B t g l ⟨a, s.e⟩ := by
  obtain ⟨hh, _, hB, hgt⟩ := h
  exact ⟨(hg.block t (blk_lt hh) (fun e => by injection e with e; omega)).trans hh, hc, hB, hgt⟩
/-- The error is set. -/
theorem Rdr.err (h : Rdr w B t g l s) (x : Int) : Rdr (w.setCell ⟨t, 1, none⟩ (.int .i64 x)) B t g l ⟨s.at_, x⟩ := by
  obtain ⟨hh, hc, hB, hgt⟩ := h
  exact ⟨blk_set hh 1 _, hc.grown (grown_setCell _ _ _ _) (fun k e => by injection e with e; omega), hB, hgt⟩
end


/-- Only the blocks g and then t are changed (and new ones laid). -/
def Two (w w' : World) (t g : Nat) : Prop := ∃ w1, w.grownBy w1 (some g) ∧ w1.grownBy w' (some t)
theorem grown_refl (w : World) (r : Option Nat) : w.grownBy w r := World.grownBy.refl w r
section
variable {w w' : World} {B t g : Nat}
theorem Two.size (h : Two w w' t g) : w.heap.size ≤ w'.heap.size := by
  obtain ⟨w1, h1, h2⟩ := h
  exact Nat.le_trans h1.size h2.size
theorem Two.below (h : Two w w' t g) (hB : B ≤ w.heap.size) (hg : B ≤ g) (ht : B ≤ t) : Below B w w' := by
  obtain ⟨w1, h1, h2⟩ := h
  have hb := (Below.refl B w).grown h1 hB (fun k e => by cases e; exact hg)
  exact hb.grown h2 (Nat.le_trans hB h1.size) (fun k e => by cases e; exact ht)
theorem Two.block (h : Two w w' t g) {k : Nat} (hk : k < w.heap.size) (h1 : k ≠ g) (h2 : k ≠ t) : w'.heap[k]? = w.heap[k]? := by
  obtain ⟨w1, g1, g2⟩ := h
  exact (g2.block k (Nat.lt_of_lt_of_le hk g1.size) (fun e => h2 (Option.some.inj e))).trans (g1.block k hk (fun e => h1 (Option.some.inj e)))
theorem Two.own {C n c : Nat} {A : Option Addr} {l : List UInt8} (h : Two w w' t g) (ho : Own w C A n c l) (hg : g < C) (ht : t < C) : Own w' C A n c l := by
  obtain ⟨w1, g1, g2⟩ := h
  have hA := fun ad e => (ho.blk ad e).1
  exact (ho.grown g1 (fun ad e e2 => by have := hA ad e; injection e2 with e2; omega)).grown g2 (fun ad e e2 => by have := hA ad e; injection e2 with e2; omega)
end

set_option maxRecDepth 100000 in
set_option maxHeartbeats 800000 in
theorem rdNumber_calls {w : World} {B t g : Nat} {l : List UInt8} {s : Rs} (h : Rdr w B t g l s) (wd : Int) (h4 : wd ≤ 4) :
    Calls Try.prog 24 #[.pointer (some ⟨t, 0, none⟩), .int .i64 wd] w fun e w' => e = .returned (.int .i64 (numR l s wd).1) ∧ Rdr w' B t g l (numR l s wd).2 ∧ Two w w' t g := by
  obtain ⟨k0, k1, f1, hc⟩ := h.open_
  obtain ⟨hB, hgt, htl⟩ := h.ord
  by_cases he : s.e = 0
  · have ht := Lib.hid (show numR l s wd = ((numS l s.at_ wd).1, ⟨(numS l s.at_ wd).2.2, (numS l s.at_ wd).2.1⟩) by rw [numR, if_pos he])
    have hlt := numS_lt l s.at_ wd h4
    rw [he] at k1
    clear he f1
    generalize hx : numS l s.at_ wd = x at hlt ht
    have Hx := Lib.hid hx
    clear hx
    obtain ⟨x1, x2⟩ := hlt
    have hw : IntKind.i64.wrap x.1 = x.1 := IntWalk.i64_in _ (by omega)
    go_enter Try.func24, Try.ntmps24
    go_wp2_with (go_at_call 52; refine (Number_any hc wd).mono ?_; rw [Hx.out]; rintro e w1 ⟨rfl, hc1, hg1⟩; have T1 := h.cur hg1 hc1; obtain ⟨_, kk1, ff1, _⟩ := T1.open_)
    go_ret
    rw [ht.out]
    exact ⟨rfl, T1.err _, w1, hg1, grown_setCell _ _ _ _⟩
  · have ht := Lib.hid (show numR l s wd = (0, s) by rw [numR, if_neg he])
    have hne : (s.e != 0) = true := by rw [bne_iff_ne]; exact he
    clear he
    go_enter Try.func24, Try.ntmps24
    go_wp2
    go_ret
    rw [ht.out]
    exact ⟨rfl, h, w, grown_refl _ _, grown_refl _ _⟩

set_option maxRecDepth 100000 in
set_option maxHeartbeats 800000 in
theorem rdBytes_calls {w : World} {B t g : Nat} {l : List UInt8} {s : Rs} (h : Rdr w B t g l s) (n : Int) :
    Calls Try.prog 30 #[.pointer (some ⟨t, 0, none⟩), .int .i64 n] w fun e w' => ∃ A' m' c', e = .returned (.slice A' m' c') ∧ Own w' w.heap.size A' m' c' (bytesR l s n).1 ∧ Rdr w' B t g l (bytesR l s n).2 ∧ Two w w' t g := by
  obtain ⟨k0, k1, f1, hc⟩ := h.open_
  obtain ⟨hB, hgt, htl⟩ := h.ord
  by_cases he : s.e = 0
  · have ht := Lib.hid (show bytesR l s n = ((takeS l s.at_ n).1, ⟨(takeS l s.at_ n).2.2, (takeS l s.at_ n).2.1⟩) by rw [bytesR, if_pos he])
    rw [he] at k1
    clear he f1
    generalize hx : takeS l s.at_ n = x at ht
    have Hx := Lib.hid hx
    clear hx
    go_enter Try.func30, Try.ntmps30
    go_wp2_with (go_at_call 59; refine (Take_any hc n).mono ?_; rw [Hx.out]; rintro e w1 ⟨A1, m1, c1, r1, rfl, ho1, hr1, hc1, hg1⟩; have T1 := h.cur hg1 hc1; obtain ⟨_, kk1, ff1, _⟩ := T1.open_)
    go_ret
    rw [ht.out]
    exact ⟨_, _, _, rfl, ho1.grown (grown_setCell _ t 1 _) (fun ad e e2 => by have := (ho1.blk ad e).1; injection e2 with e2; omega), T1.err _, w1, hg1, grown_setCell _ _ _ _⟩
  · have ht := Lib.hid (show bytesR l s n = ([], s) by rw [bytesR, if_neg he])
    have hne : (s.e != 0) = true := by rw [bne_iff_ne]; exact he
    clear he
    go_enter Try.func30, Try.ntmps30
    go_wp2
    go_ret
    rw [ht.out]
    exact ⟨_, _, _, rfl, Own.nil_ _ _, h, w, grown_refl _ _, grown_refl _ _⟩

set_option maxRecDepth 100000 in
set_option maxHeartbeats 800000 in
theorem rdFail_calls {w : World} {B t g : Nat} {l : List UInt8} {s : Rs} (h : Rdr w B t g l s) (b : Bool) (x : Int) :
    Calls Try.prog 25 #[.pointer (some ⟨t, 0, none⟩), .bool b, .int .i64 x] w fun e w' => e = .returned (.tuple #[]) ∧ Rdr w' B t g l (failR s b x) ∧ Two w w' t g := by
  obtain ⟨k0, k1, f1, hc⟩ := h.open_
  obtain ⟨hB, hgt, htl⟩ := h.ord
  cases b with
  | false =>
    have ht := Lib.hid (show failR s false x = s by rw [failR]; simp)
    go_enter Try.func25, Try.ntmps25
    go_wp2
    go_end0
    rw [ht.out]
    exact ⟨rfl, h, w, grown_refl _ _, grown_refl _ _⟩
  | true =>
    by_cases he : s.e = 0
    · have ht := Lib.hid (show failR s true x = ⟨s.at_, x⟩ by rw [failR, if_pos ⟨rfl, he⟩])
      rw [he] at k1
      clear he
      go_enter Try.func25, Try.ntmps25
      go_wp2
      go_end0
      rw [ht.out]
      exact ⟨rfl, h.err _, w, grown_refl _ _, grown_setCell _ _ _ _⟩
    · have ht := Lib.hid (show failR s true x = s by rw [failR, if_neg (fun h => he h.2)])
      have hne : (s.e == 0) = false := by rw [beq_eq_false_iff_ne]; exact he
      clear he
      go_enter Try.func25, Try.ntmps25
      go_wp2
      go_end0
      rw [ht.out]
      exact ⟨rfl, h, w, grown_refl _ _, grown_refl _ _⟩
end Go.Proofs.Ytjbnoamoadaknaa
end
