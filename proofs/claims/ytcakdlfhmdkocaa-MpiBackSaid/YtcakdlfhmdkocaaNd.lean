/- nat.down: a number's words from the highest one on; nat.Bits. -/
import Derived.RangeFuncBox
import Derived.RangeFuncLeaves
import Derived.Shelf.Abstract
import Derived.WalkKit
import Derived.OwnWalkIn
import Derived.TacticsInMore
import Derived.LoopNIn
import Derived.LoopIn
import Derived.Test.YtcakdlfhmdkocaaNc
namespace Go.Proofs.Ytcakdlfhmdkocaa
open Go.RowKit Go.Shelf
attribute [local go_sem] Oper.semAt_some

/-- The first k of the places from n - 1 down. -/
def downs (n k : Nat) : List Nat := (List.range k).map (fun j => n - 1 - j)
theorem downs_succ (n k : Nat) : downs n (k + 1) = downs n k ++ [n - 1 - k] := by simp [downs, List.range_succ]
theorem downs_length (n k : Nat) : (downs n k).length = k := by simp [downs]
/-- The cells of words, in a block below n₀. -/
def Rdw (n₀ : Nat) (W : World) (A : Option Addr) (xs : List Nat) : Prop := xs ≠ [] → ∃ b off, A = some ⟨b, off, none⟩ ∧ b < n₀ ∧ ∀ j (hj : j < xs.length), W.cell? ⟨b, off + j, none⟩ = some (.int .u32 (xs[j] : Int))
theorem Nr.rdw {w : World} {A : Option Addr} {n c : Nat} {xs : List Nat} (h : Nr w .u32 A n c xs) : Rdw w.heap.size w A xs := fun hne => by
  have hp : 0 < xs.length := List.length_pos_iff.2 hne
  obtain ⟨b, off, rfl, hb, _⟩ := h.at_ hp
  refine ⟨b, off, rfl, hb, fun j hj => ?_⟩
  obtain ⟨b2, off2, e, _, hc⟩ := h.at_ hj
  injection e with e
  injection e with e1 e2
  subst e1; subst e2
  exact hc
theorem Rdw.below {n₀ : Nat} {W W' : World} {A : Option Addr} {xs : List Nat} (h : Rdw n₀ W A xs) (hb : Below n₀ W W') : Rdw n₀ W' A xs := fun hne => by
  obtain ⟨b, off, e, hl, hc⟩ := h hne
  exact ⟨b, off, e, hl, fun j hj => (hb.cell (p := ⟨b, off + j, none⟩) hl).trans (hc j hj)⟩
/-- What is told of a place: the place and its word. -/
def encW (xs : List Nat) (x : { i : Nat // i < xs.length }) : Array Value := #[.int .i64 (x.1 : Int), .int .u32 ((xs[x.1]'x.2 : Nat) : Int)]

set_option maxRecDepth 100000 in
set_option maxHeartbeats 4000000 in
theorem down1_in (F : Fence) (n : Nat) (hF : F.fn 76) (hro : F.round = none) (hn : 1 ≤ n) (l Bs n₀ : Nat) (A : Option Addr) (m c : Nat) (xs : List Nat) (hm : xs.length = m) (hm2 : m ≤ 9223372036854775807) (hmc : m ≤ c) (J Jx : List { i : Nat // i < xs.length } → World → Prop)
    (hY : ∀ pre x W, J pre W → pre.length < xs.length → YieldAt F (n - 1) Try.prog l (encW xs x) W fun e W' =>
      (e = .returned (.bool true) ∧ J (pre ++ [x]) W' ∧ Below n₀ W W') ∨ (e = .returned (.bool false) ∧ Jx (pre ++ [x]) W'))
    (W : World) (hBl : Bs < n₀) (hBs : W.cell? ⟨Bs, 0, none⟩ = some (.slice A m c)) (hr : Rdw n₀ W A xs) (h0 : J [] W) :
    CallsIn F n Try.prog 76 #[.func (.yield l) #[] #[], .pointer (some ⟨Bs, 0, none⟩)] W fun e W' => (∃ v, e = .returned v) ∧
      ((∃ ys, ys.map Subtype.val = downs xs.length xs.length ∧ J ys W') ∨ (∃ pre, (∃ k, k ≤ xs.length ∧ pre.map Subtype.val = downs xs.length k) ∧ Jx pre W')) := by
  subst hm
  refine callsIn_of_wp Try.func76 rfl hF ?_ hro
  simp only [Try.ntmps76, List.size_toArray, List.length_cons, List.length_nil, Nat.reduceAdd, Nat.reduceSub, Array.replicate_succ, Array.replicate_zero, List.push_toArray, List.append_toArray, List.nil_append, List.cons_append]
  gi_wp2
  gi_loopw [3] (fun i wr => ∃ k : Nat, k ≤ xs.length ∧ i = .int .i64 ((xs.length : Int) - 1 - (k : Int)) ∧ (∃ pre, pre.map Subtype.val = downs xs.length k ∧ J pre wr) ∧ Below n₀ W wr)
    (fun i _ => (intOf i + 1).toNat)
  case atStart => exact ⟨0, Nat.zero_le _, by go_num, ⟨[], rfl, h0⟩, Below.refl _ _⟩
  case round =>
    obtain ⟨k, hk, rfl, ⟨pre, hpre, hJs⟩, hnx⟩ := hrel
    have hBs' := (hnx.cell (p := ⟨Bs, 0, none⟩) hBl).trans hBs
    have hpl : pre.length = k := by rw [← List.length_map (f := Subtype.val), hpre, downs_length]
    by_cases hlt : k < xs.length
    · obtain ⟨b, off, rfl, hbl, hcs⟩ := hr.below hnx (by intro e; subst e; simp at hlt)
      obtain ⟨q, hq⟩ : ∃ q, q = xs.length - 1 - k := ⟨_, rfl⟩
      have hq2 : q < xs.length := by omega
      have hc := hcs q hq2
      obtain ⟨fn, tmps, assign, body, hy, hR⟩ := hY pre ⟨q, hq2⟩ wr hJs (by omega)
      have hj : (xs.length : Int) - 1 - (k : Int) = (q : Int) := by omega
      have hnew : (pre ++ [(⟨q, hq2⟩ : { i : Nat // i < xs.length })]).map Subtype.val = downs xs.length (k + 1) := by rw [List.map_append, hpre, downs_succ, ← hq]; rfl
      have HN := Lib.hid hnew
      have HJ := Lib.hid hj
      have hqk : q + k + 1 = xs.length := by omega
      have HQ := Lib.hid hqk
      clear hnew hcs hpl hpre hq hqk
      simp only [encW] at hy
      rw [hj]
      clear hj
      gi_wp2
      refine hR.mono ?_
      rintro e W3 (⟨rfl, hJ3, hk3⟩ | ⟨rfl, hJx3⟩)
      · gi_wp2
        go_roundw
        case rel => exact ⟨k + 1, by omega, by have := HQ.out; go_num, ⟨_, HN.out, hJ3⟩, hnx.trans hk3⟩
        case measure => simp [intOf]
      · gi_wp2
        refine bodyPost_ret (results_none rfl _ _ _) rfl ?_
        exact ⟨⟨_, rfl⟩, .inr ⟨_, ⟨k + 1, by omega, HN.out⟩, hJx3⟩⟩
    · obtain rfl : k = xs.length := by omega
      have hj : (xs.length : Int) - 1 - (xs.length : Int) = -1 := by omega
      have HP := Lib.hid hpre
      clear hpre hpl
      rw [hj]
      gi_wp2
      go_end0
      exact ⟨⟨_, rfl⟩, .inl ⟨_, HP.out, hJs⟩⟩

set_option maxRecDepth 100000 in
set_option maxHeartbeats 1000000 in
/-- nat.down: the number is boxed; the function value captures the box. -/
theorem down_in (F : Fence) (n : Nat) (hF : F.fn 58) (hro : F.round = none) (A : Option Addr) (m c : Nat) (w : World) :
    CallsIn F n Try.prog 58 #[.slice A m c] w fun e w' => e = .returned (.func (.func 76) #[] #[.pointer (some ⟨w.heap.size, 0, none⟩)]) ∧ w' = w.alloc (.cells #[.slice A m c] 24) := by
  refine callsIn_of_wp Try.func58 rfl hF ?_ hro
  simp only [Try.ntmps58, List.size_toArray, List.length_cons, List.length_nil, Nat.reduceAdd, Nat.reduceSub, Array.replicate_succ, Array.replicate_zero, List.push_toArray, List.append_toArray, List.nil_append, List.cons_append]
  gi_wp2
  go_ret
  exact ⟨rfl, rfl⟩

/-- What nat.down hands back stops, at whatever keeps what lay below n₀. -/
theorem down_stops (F : Fence) (n : Nat) (hF : F.fn 76) (hro : F.round = none) (hn : 1 ≤ n) (Bs n₀ : Nat) (A : Option Addr) (m c : Nat) (xs : List Nat) (hm : xs.length = m) (hm2 : m ≤ 9223372036854775807) (hmc : m ≤ c) (w : World) (hBs : Bs < n₀) (hn₀ : n₀ ≤ w.heap.size)
    (hc : w.cell? ⟨Bs, 0, none⟩ = some (.slice A m c)) (hI : Rdw n₀ w A xs) :
    SeqStopsK F n Try.prog 76 #[.pointer (some ⟨Bs, 0, none⟩)] (encW xs) (Below n₀) (fun ys => ys.map Subtype.val = downs xs.length xs.length)
      (fun pre => ∃ k, k ≤ xs.length ∧ pre.map Subtype.val = downs xs.length k) xs.length w := fun l J Jx W hW _ _ hY h0 =>
  down1_in F n hF hro hn l Bs n₀ A m c xs hm hm2 hmc J Jx hY W hBs ((hW.cell (p := ⟨Bs, 0, none⟩) (Nat.lt_of_lt_of_le hBs hn₀)).trans hc) (hI.below (hW.mono hn₀)) h0
end Go.Proofs.Ytcakdlfhmdkocaa
