import Derived.Test.YtjbnoamoadaknaaYSigBack7
import Derived.RangeFuncCalls
import Derived.Deep.QuietTactic
import Derived.BigRegion
import Derived.Laws.BitsAllLaws
import Derived.StillTailTactics
import Derived.IntWalk
import Derived.Deep.RegionHeldLaw
/- nat.Bits. -/
section
namespace Go.Proofs.Ytjbnoamoadaknaa
open Go.RowKit Go.Shelf
attribute [local go_sem] Oper.semAt_some

theorem mem_downs {n k j : Nat} (hk : k ≤ n) : j ∈ downs n k ↔ j < n ∧ n ≤ j + k := by
  simp only [downs, List.mem_map, List.mem_range]
  constructor
  · rintro ⟨a, ha, rfl⟩; omega
  · rintro ⟨h1, h2⟩; exact ⟨n - 1 - j, by omega, by omega⟩
theorem zero_at {xs : List Nat} {ys : List { i : Nat // i < xs.length }} {k : Nat} (hk : k ≤ xs.length) (hd : ys.map Subtype.val = downs xs.length k) (h0 : ∀ p ∈ ys, xs[p.1]'p.2 = 0) {j : Nat} (hj : j < xs.length) (h : xs.length ≤ j + k) : xs[j] = 0 := by
  have hm : j ∈ ys.map Subtype.val := by rw [hd]; exact (mem_downs hk).2 ⟨hj, h⟩
  obtain ⟨p, hp, rfl⟩ := List.mem_map.1 hm
  exact h0 p hp
theorem bits_all {xs : List Nat} {ys : List { i : Nat // i < xs.length }} (hd : ys.map Subtype.val = downs xs.length xs.length) (h0 : ∀ p ∈ ys, xs[p.1]'p.2 = 0) : nbits (num 4294967296 xs) = 0 := by
  have h := num_take_zeros (β := 4294967296) (n := 0) (xs := xs) (fun j hj _ => zero_at (Nat.le_refl _) hd h0 hj (by omega))
  rw [← h]
  rfl
theorem last_down {xs : List Nat} {ini : List { i : Nat // i < xs.length }} {last : { i : Nat // i < xs.length }} {k : Nat} (hd : (ini ++ [last]).map Subtype.val = downs xs.length k) : ∃ k', k = k' + 1 ∧ ini.map Subtype.val = downs xs.length k' ∧ last.1 = xs.length - 1 - k' := by
  cases k with
  | zero => simp [downs] at hd
  | succ k' =>
    rw [downs_succ, List.map_append] at hd
    obtain ⟨h1, h2⟩ := List.append_inj' hd rfl
    exact ⟨k', rfl, h1, by simpa using h2⟩
theorem pow32 (q : Nat) : 4294967296 ^ q = 2 ^ (32 * q) := by rw [show (4294967296 : Nat) = 2 ^ 32 from rfl, ← Nat.pow_mul]
/-- A number whose words behind q are 0. -/
theorem num_top {xs : List Nat} {q : Nat} (hq : q < xs.length) (h0 : ∀ j (hj : j < xs.length), q < j → xs[j] = 0) : num 4294967296 xs = num 4294967296 (xs.take q) + 2 ^ (32 * q) * xs[q] := by
  have h := num_take_zeros (β := 4294967296) (n := q + 1) (xs := xs) (fun j hj h => h0 j hj (by omega))
  rw [← h, take_snoc xs q hq, num_append, List.length_take, Nat.min_eq_left (by omega), pow32]
  simp [num]
theorem bits_at {xs : List Nat} (hlo : Lo 4294967296 xs) {ini : List { i : Nat // i < xs.length }} {last : { i : Nat // i < xs.length }} {k : Nat} (hk : k ≤ xs.length) (hd : (ini ++ [last]).map Subtype.val = downs xs.length k)
    (h0 : ∀ p ∈ ini, xs[p.1]'p.2 = 0) (h1 : xs[last.1]'last.2 ≠ 0) : nbits (num 4294967296 xs) = 32 * last.1 + nbits (xs[last.1]'last.2) := by
  obtain ⟨k', rfl, hi, hl⟩ := last_down hd
  rw [num_top last.2 (fun j hj h => zero_at (k := k') (by omega) hi h0 hj (by omega))]
  refine nbits_top h1 ?_
  have := num_lt (by decide : 0 < 4294967296) (hlo.take (k := last.1))
  rw [List.length_take, Nat.min_eq_left (by omega), pow32] at this
  exact this

set_option maxRecDepth 100000 in
set_option maxHeartbeats 4000000 in
theorem Bits_calls {A : Option Addr} {m c : Nat} {xs : List Nat} {w : World} (h : Nr w .u32 A m c xs) (hlo : Lo 4294967296 xs) (hm : m ≤ 1000000) :
    Calls Try.prog 65 #[.slice A m c] w fun e w' => e = .returned (.int .i64 (nbits (num 4294967296 xs) : Nat)) ∧ Below w.heap.size w w' := by
  obtain ⟨hc1, hc2⟩ := h.cap
  have hrd := h.rdw
  have hlen := h.2
  have hc2' : m ≤ 9223372036854775807 := by omega
  refine (callsIn_wide (n := 4)).1 ?_
  refine callsIn_of_wp_marks Try.func65 rfl trivial ?_ rfl
  simp only [Try.ntmps65, List.size_toArray, List.length_cons, List.length_nil, Nat.reduceAdd, Nat.reduceSub, Array.replicate_succ, Array.replicate_zero, List.push_toArray, List.append_toArray, List.nil_append, List.cons_append]
  gi_wp2_with (refine ⟨trivial, ?_⟩; gi_at_call 87; refine (down_in Fence.wide 3 trivial rfl _ _ _ _).mono ?_; rintro e w' ⟨rfl, rfl⟩)
  have bR := Boxed.new w 3 (.int .i64 0)
  have bN := Boxed.new (w.alloc (.cells #[.int .i64 0] 3)) 59 (.slice A m c)
  rw [World.size_alloc] at bN
  have hB0 : Below w.heap.size w ((w.alloc (.cells #[.int .i64 0] 3)).alloc (.cells #[.slice A m c] 59)) := ((Below.refl _ w).alloc (Nat.le_refl _) _).alloc (by simp) _
  have hrd2 : Rdw (w.heap.size + 1 + 1) ((w.alloc (.cells #[.int .i64 0] 3)).alloc (.cells #[.slice A m c] 59)) A xs := fun hne => by
    obtain ⟨b, off, e, hb, hc⟩ := hrd.below hB0 hne
    exact ⟨b, off, e, by omega, hc⟩
  refine wpIn_rangeFunc_ownG rfl (by omega) (gf := 95) (lb := #[.pointer (some ⟨w.heap.size + 1, 0, none⟩)]) rfl trivial (enters_of Try.func95 (by kernel_rfl) rfl)
    (down_stops Fence.wide 3 trivial rfl (by omega) (w.heap.size + 1) (w.heap.size + 1 + 1) A m c xs hlen hc2' hc1 _ (by omega) (by simp) bN.cell hrd2) belowK_t (belowK_b (by simp)) (Below.refl _ _) (fun _ => rfl)
    (fun pre W => ((∀ p ∈ pre, xs[p.1]'p.2 = 0) ∧ W.cell? ⟨w.heap.size, 0, none⟩ = some (.int .i64 0) ∧ W.frozen? ⟨w.heap.size, 0, none⟩ = false) ∧ Below w.heap.size w W)
    (fun c pre W => (c = .ret ∧ ∃ ini last, pre = ini ++ [last] ∧ (∀ p ∈ ini, xs[p.1]'p.2 = 0) ∧ xs[last.1]'last.2 ≠ 0 ∧ W.cell? ⟨w.heap.size, 0, none⟩ = some (.int .i64 ((32 * last.1 + nbits (xs[last.1]'last.2) : Nat) : Int))) ∧ Below w.heap.size w W)
    (OwnFrom.and (Own.from (fun s A B row hs hg hr => ⟨hs.1, cell_kept hs.2.1 hg hr, (frozen_kept hs.2.1 hg hr).trans hs.2.2⟩) _) (ownFrom_below (Nat.le_refl _) (by simp; omega)))
    (fun c => OwnFrom.and (Own.from (fun s A B row hs hg hr => by obtain ⟨hc, ini, last, e1, e2, e3, e4⟩ := hs; exact ⟨hc, ini, last, e1, e2, e3, cell_kept e4 hg hr⟩) _) (ownFrom_below (Nat.le_refl _) (by simp; omega)))
    ⟨⟨by simp, (bR.alloc _).cell, (bR.alloc _).frozen⟩, hB0⟩
    (fun x => { tmps := #[.slice A m c, undef, .pointer (some ⟨w.heap.size, 0, none⟩), .int .i64 (x.1 : Int), .int .u32 ((xs[x.1]'x.2 : Nat) : Int), .slice A m c, .func (.func 95) #[] #[.pointer (some ⟨w.heap.size + 1, 0, none⟩)], .int .i64 (x.1 : Int), .int .u32 ((xs[x.1]'x.2 : Nat) : Int), undef, undef, undef, undef, undef, undef, undef], defers := [] }) ?assign ?body ?done ?stop
  case assign =>
    intro l x W K hK
    simp only [encW]
    gi_wp2
    exact hK
  case body =>
    rintro l pre x W ⟨⟨hp, hcr, hfr⟩, hB⟩ _
    have hx := x.2
    have hv := hlo.at_ hx
    have HP := Lib.hid hp
    clear hp
    by_cases h0 : xs[x.1]'x.2 = 0
    · rw [h0]
      have H0 := Lib.hid h0
      clear h0
      gi_wp2
      exact ⟨KeepsFrom.refl _ _, Below.refl _ _, ⟨fun p hp' => (List.mem_append.1 hp').elim (HP.out p) (fun e => by simp at e; subst e; exact H0.out), hcr, hfr⟩, hB⟩
    · have hb : (((xs[x.1]'x.2 : Nat) : Int) != 0) = true := by rw [bne_iff_ne]; omega
      have hn32 := nbits_le_of (k := 32) hv
      have H0 := Lib.hid h0
      clear h0
      gi_wp2_with (refine ⟨trivial, ?_⟩; gi_at_call 88; refine (CallsIn.inRound l (callsIn_wide.2 (Len32_calls (xs[x.1]'x.2) hv _))).mono ?_; rintro e w' ⟨rfl, rfl⟩)
      refine ⟨(KeepsOthers.setCell _ _ _).from _, ⟨rfl, pre, x, rfl, HP.out, H0.out, ?_⟩, hB.setCell (p := ⟨w.heap.size, 0, none⟩) (Nat.le_refl _) _⟩
      refine (World.cell?_setCell_same' _ _ _ (by rw [hcr]; rfl)).trans ?_
      simp
  case done =>
    rintro D ys W hD hys ⟨⟨hne, hcr, hfr⟩, hB⟩ hK
    have hz := Lib.hid (bits_all hys hne)
    clear hne
    gi_wp2
    have hK' := (KeepsOthers.setCell W ⟨w.heap.size, 0, none⟩ (.int .i64 0)).same D _ hK rfl
    refine ⟨by simp, .inl ⟨_, _, rfl, run_takeDeferred hK', ?_⟩⟩
    have hc5 := cell_kept (World.cell?_setCell_same' W ⟨w.heap.size, 0, none⟩ (.int .i64 0) (by rw [hcr]; rfl)) (grownBy_putObj' _ D (.deferred none)) (fun r e => by cases e; exact ⟨_, hK', rfl⟩)
    refine ⟨.int .i64 0, ?_, by rw [hz.out]; rfl, (hB.setCell (p := ⟨w.heap.size, 0, none⟩) (Nat.le_refl _) _).trans (belowK_b (w := w) (Nat.le_refl _) _ D _ _ (by simp at hD; omega) hK' rfl rfl)⟩
    simp [results, Try.f65, go_sem, hc5]
  case stop =>
    rintro D c pre W hD ⟨k, hk, hd⟩ ⟨⟨rfl, ini, last, e1, e2, e3, hcr⟩, hB⟩ hK
    subst e1
    have hz := Lib.hid (bits_at hlo hk hd e2 e3)
    clear e2 e3 hd
    gi_wp2
    refine ⟨by simp, .inl ⟨_, _, rfl, run_takeDeferred hK, ?_⟩⟩
    have hc5 := cell_kept hcr (grownBy_putObj' _ D (.deferred none)) (fun r e => by cases e; exact ⟨_, hK, rfl⟩)
    refine ⟨.int .i64 ((32 * last.1 + nbits (xs[last.1]'last.2) : Nat) : Int), ?_, by rw [hz.out], hB.trans (belowK_b (w := w) (Nat.le_refl _) W D _ _ (by simp at hD; omega) hK rfl rfl)⟩
    simp [results, Try.f65, go_sem, hc5]
end Go.Proofs.Ytjbnoamoadaknaa
end

/- nat.long, nat.Bytes, nat.Read. -/
section
namespace Go.Proofs.Ytjbnoamoadaknaa
open Go.RowKit

/-- How many bytes a number has; its bytes. -/
def nlen (N : Nat) : Nat := (nbits N + 7) / 8
def bytesN (N : Nat) : List UInt8 := be (nlen N) N

set_option maxRecDepth 100000 in
set_option maxHeartbeats 1600000 in
theorem long_nat_calls {A : Option Addr} {m c : Nat} {xs : List Nat} {w : World} (h : Nr w .u32 A m c xs) (hlo : Lo 4294967296 xs) (hm : m ≤ 1000000) :
    Calls Try.prog 84 #[.slice A m c] w fun e w' => e = .returned (.int .i64 (nlen (num 4294967296 xs) : Nat)) ∧ Below w.heap.size w w' := by
  have hb := nbits_le_of (k := 32 * m) (by have := num_lt (by decide : 0 < 4294967296) hlo; rw [h.2, pow32] at this; exact this)
  have hl := Lib.hid (show (nlen (num 4294967296 xs) : Int) = ((nbits (num 4294967296 xs) : Nat) + 7) / 8 by unfold nlen; omega)
  go_enter Try.func84, Try.ntmps84
  go_wp2_with (go_at_call 65; refine (Bits_calls h hlo hm).mono ?_; rintro e w' ⟨rfl, hb1⟩)
  go_ret
  rw [hl.out]
  exact ⟨by first | rfl | simp, hb1⟩

theorem nlen_le {xs : List Nat} {m : Nat} (hlo : Lo 4294967296 xs) (hm : xs.length = m) : nlen (num 4294967296 xs) ≤ 4 * m := by
  have hb := nbits_le_of (k := 32 * m) (by have := num_lt (by decide : 0 < 4294967296) hlo; rw [hm, pow32] at this; exact this)
  unfold nlen
  omega

set_option maxRecDepth 100000 in
set_option maxHeartbeats 1600000 in
theorem Bytes_calls {A : Option Addr} {m c : Nat} {xs : List Nat} {w : World} (h : Nr w .u32 A m c xs) (hlo : Lo 4294967296 xs) (hm : m ≤ 200000) :
    Calls Try.prog 62 #[.slice A m c] w fun e w' => ∃ A' n' c', e = .returned (.slice A' n' c') ∧ Own w' w.heap.size A' n' c' (bytesN (num 4294967296 xs)) ∧ Below w.heap.size w w' := by
  have hl := nlen_le hlo h.2
  go_enter Try.func62, Try.ntmps62
  go_wp2_with (first
    | (go_at_call 84; refine (long_nat_calls h hlo (by omega)).mono ?_; rintro e w1 ⟨rfl, hb1⟩; go_must (have h1 := h.below hb1))
    | (go_at_call 83; refine (lay_calls h1 hlo (nlen (num 4294967296 xs)) (by omega) _ rfl).mono ?_; rintro e w2 ⟨A2, c2, rfl, ho2, hb2⟩))
  go_ret
  exact ⟨_, _, _, rfl, ho2.lower hb1.size, below_then hb1 hb1.size hb2⟩
end Go.Proofs.Ytjbnoamoadaknaa
end

/- nat.Read. -/
section
namespace Go.Proofs.Ytjbnoamoadaknaa
open Go.RowKit

theorem pow_split (q : Nat) : 256 ^ q = 4294967296 ^ (q / 4) * 256 ^ (q % 4) := by
  rw [← pow4, ← Nat.pow_mul, ← Nat.pow_add]
  congr 1
  omega
theorem or_word {N y r x : Nat} (hd : N * (256 ^ r * 256) % 4294967296 = y) (hr : r < 4) (hx : x < 256) :
    bits BinOp.or .u32 (y : Int) (IntKind.u32.wrap ((x : Int) * 2 ^ min (8 * r) 32)) = ((y + x * 256 ^ r : Nat) : Int) ∧ y + x * 256 ^ r < 4294967296 := by
  rw [IntKind.wrap_u32]
  rcases (by omega : r = 0 ∨ r = 1 ∨ r = 2 ∨ r = 3) with rfl | rfl | rfl | rfl
  · have hd' : N * 256 % 4294967296 = y := hd
    have e : (2 : Int) ^ min (8 * 0) 32 = 1 := by decide
    have e' : 256 ^ 0 = 1 := by decide
    rw [e, e', u32_or _ _ (by omega) (by omega) (by omega) (by omega), nat_join 8 _ _ (by omega) (by omega)]
    omega
  · have hd' : N * 65536 % 4294967296 = y := hd
    have e : (2 : Int) ^ min (8 * 1) 32 = 256 := by decide
    have e' : 256 ^ 1 = 256 := by decide
    rw [e, e', u32_or _ _ (by omega) (by omega) (by omega) (by omega), nat_join 16 _ _ (by omega) (by omega)]
    omega
  · have hd' : N * 16777216 % 4294967296 = y := hd
    have e : (2 : Int) ^ min (8 * 2) 32 = 65536 := by decide
    have e' : 256 ^ 2 = 65536 := by decide
    rw [e, e', u32_or _ _ (by omega) (by omega) (by omega) (by omega), nat_join 24 _ _ (by omega) (by omega)]
    omega
  · have hd' : N * 4294967296 % 4294967296 = y := hd
    have e : (2 : Int) ^ min (8 * 3) 32 = 16777216 := by decide
    have e' : 256 ^ 3 = 16777216 := by decide
    rw [e, e', u32_or _ _ (by omega) (by omega) (by omega) (by omega), nat_join 32 _ _ (by omega) (by omega)]
    omega
/-- One byte more. -/
theorem read_step {xs : List Nat} {N i n q p r s x : Nat} (hlo : Lo 4294967296 xs) (hv : num 4294967296 xs = N * 256 ^ (n - i)) (hi : i < n) (hq : q = n - 1 - i ∧ p = q / 4 ∧ r = q % 4 ∧ s = 8 * r) (hp : p < xs.length) (hx : x < 256) :
    bits BinOp.or .u32 (xs[p] : Int) (IntKind.u32.wrap ((x : Int) * 2 ^ min s 32)) = ((xs[p] + x * 256 ^ r : Nat) : Int) ∧ Lo 4294967296 (xs.set p (xs[p] + x * 256 ^ r)) ∧
      num 4294967296 (xs.set p (xs[p] + x * 256 ^ r)) = (N * 256 + x) * 256 ^ (n - (i + 1)) := by
  obtain ⟨hq, rfl, rfl, rfl⟩ := hq
  have e1 : n - i = q + 1 := by omega
  have e2 : n - (i + 1) = q := by omega
  have hB := pow_split q
  have hs := num_set (β := 4294967296) (xs := xs) (k := q / 4) (xs[q / 4] + x * 256 ^ (q % 4)) hp
  have hd := num_digit (by decide : 0 < 4294967296) (q / 4) hlo
  have hl := hlo.at_ hp
  rw [List.getD_eq_getElem?_getD, List.getElem?_eq_getElem hp, Option.getD_some] at hd
  rw [e1, Nat.pow_succ, hB] at hv
  rw [e2]
  have hP : 0 < 4294967296 ^ (q / 4) := Nat.pow_pos (by decide)
  have hv2 : num 4294967296 xs = N * (256 ^ (q % 4) * 256) * 4294967296 ^ (q / 4) := by
    rw [hv]
    simp only [Nat.mul_assoc, Nat.mul_comm]
  rw [hv2, Nat.mul_div_cancel _ hP] at hd
  have hr : q % 4 < 4 := Nat.mod_lt _ (by decide)
  have key : bits BinOp.or .u32 (xs[q / 4] : Int) (IntKind.u32.wrap ((x : Int) * 2 ^ min (8 * (q % 4)) 32)) = ((xs[q / 4] + x * 256 ^ (q % 4) : Nat) : Int) ∧ xs[q / 4] + x * 256 ^ (q % 4) < 4294967296 := by
    exact or_word hd hr hx
  refine ⟨key.1, hlo.set key.2, ?_⟩
  rw [Nat.mul_add, hv] at hs
  rw [hB, Nat.add_mul]
  have e3 : N * 256 * (4294967296 ^ (q / 4) * 256 ^ (q % 4)) = N * (4294967296 ^ (q / 4) * 256 ^ (q % 4) * 256) := by
    simp only [Nat.mul_assoc, Nat.mul_comm]
  have e4 : x * (4294967296 ^ (q / 4) * 256 ^ (q % 4)) = 4294967296 ^ (q / 4) * (x * 256 ^ (q % 4)) := by
    simp only [Nat.mul_assoc, Nat.mul_comm]
  rw [e3, e4]
  omega

set_option maxRecDepth 100000 in
set_option maxHeartbeats 3200000 in
theorem Read_calls {A : Option Addr} {n c : Nat} {l : List UInt8} {w : World} (h : Bs w A n c l) (hn : n ≤ 100000) :
    Calls Try.prog 37 #[.slice A n c] w fun e w' => ∃ A' m xs, e = .returned (.slice A' m m) ∧ Nr w' .u32 A' m m xs ∧ Lo 4294967296 xs ∧ Trim xs ∧ num 4294967296 xs = nb l ∧ (∀ ad, A' = some ad → w.heap.size ≤ ad.block) ∧ m ≤ n + 1 ∧ Below w.heap.size w w' := by
  obtain rfl := h.2
  obtain ⟨m, hmm⟩ : ∃ m, m = (l.length + 3) / 4 := ⟨_, rfl⟩
  have HM := Lib.hid hmm
  have hm := run_makeN (P := Try.prog) (S := 59) (T := 64) (k := .u32) (bytes := 4) Try.underlying59 (by kernel_rfl) (by omega) m (by omega) (((l.length : Int) + 3) / 4) (by omega)
  have hown0 := OwnN.made w 64 .u32 w.heap.size m (Nat.le_refl _) (by omega)
  have hb0 := (Below.refl w.heap.size w).alloc (Nat.le_refl _) (.cells (ncells .u32 m) 64)
  have hr0 := h.below hb0
  clear hmm
  go_enter Try.func37, Try.ntmps37
  go_wp2_with fail
  generalize w.alloc (.cells (ncells .u32 m) 64) = w0 at hown0 hb0 hr0 ⊢
  go_loopw [14] (fun v wr => ∃ (i : Nat) (xs : List Nat), v = .int .i64 i ∧ i ≤ l.length ∧ OwnN wr w.heap.size 64 .u32 (some ⟨w.heap.size, 0, none⟩) m m xs ∧ Hid (Lo 4294967296 xs ∧ num 4294967296 xs = nb (l.take i) * 256 ^ (l.length - i)) ∧ Below w.heap.size w wr) (fun v _ => l.length - (intOf v).toNat)
  case atStart => exact ⟨0, _, rfl, Nat.zero_le _, hown0, Lib.hid ⟨Lo.zeros (by decide) _, by rw [num_zeros]; simp [nb]⟩, hb0⟩
  case round =>
    obtain ⟨i, xs, rfl, hi, hown, hv, hbr⟩ := hrel
    clear hown0 hb0 hr0 hm
    by_cases hlt : i < l.length
    · have hr := h.below hbr
      obtain ⟨b, off, rfl, hbl, hcell⟩ := hr.byte hlt
      have hlx := hown.2
      obtain ⟨q, hq⟩ : ∃ q, q = l.length - 1 - i := ⟨_, rfl⟩
      obtain ⟨p, hp⟩ : ∃ p, p = q / 4 := ⟨_, rfl⟩
      obtain ⟨r, hr4⟩ : ∃ r, r = q % 4 := ⟨_, rfl⟩
      obtain ⟨s, hs⟩ : ∃ s, s = 8 * r := ⟨_, rfl⟩
      have hp4 : p < xs.length := by have := HM.out; omega
      have hp5 : p < m := by have := HM.out; omega
      have hp6 : (p : Int) < (m : Int) := by omega
      have hp7 : (0 : Int) ≤ (p : Int) := by omega
      have hs7 : (0 : Int) ≤ (s : Int) := by omega
      obtain ⟨g, hg, hBg, hgl, hcg, hfr, hset⟩ := hown.at_ hp4
      injection hg with hg
      injection hg with hg
      subst hg
      have HS := Lib.hid hset
      have hj : (l.length : Int) - 1 - (i : Int) = (q : Int) := by omega
      have e1 : IntKind.i64.wrap ((q : Int) / 4) = (p : Int) := by rw [IntWalk.i64_in _ (by omega)]; omega
      have e2 : (q : Int).tmod 4 = (r : Int) := by rw [Int.tmod_eq_emod_of_nonneg (by omega)]; omega
      have hx := (l[i]).toNat_lt
      have e4 : IntKind.u32.wrap ((l[i]).toNat : Int) = ((l[i]).toNat : Int) := by rw [IntKind.wrap_u32]; omega
      have e3 : IntKind.i64.wrap (8 * (r : Int)) = (s : Int) := by rw [IntWalk.i64_in _ (by omega)]; omega
      have HQ := Lib.hid (show q = l.length - 1 - i ∧ p = q / 4 ∧ r = q % 4 ∧ s = 8 * r from ⟨hq, hp, hr4, hs⟩)
      clear hset hq hp hr4 hs
      go_wp2_with fail
      go_still_tail 13, (by kernel_rfl)
      change wpList _ _ _ _ _ wr.drew
      have hst := Lib.hid (read_step (x := (l[i]).toNat) hv.out.1 hv.out.2 hlt HQ.out hp4 hx)
      have hts := Lib.hid (take_snoc l i hlt)
      clear e1 e2 e3 e4 hj
      have hcg' : wr.drew.cell? ⟨w.heap.size, p, none⟩ = some (.int .u32 (xs[p] : Int)) := hcg
      have hfr' : wr.drew.frozen? ⟨w.heap.size, p, none⟩ = false := hfr
      go_wp2
      go_roundw
      case rel =>
        refine ⟨i + 1, _, by go_num, by omega, ?_, Lib.hid ⟨hst.out.2.1, ?_⟩, ?_⟩
        · rw [← IntKind.wrap_u32, hst.out.1]
          exact HS.out _
        · rw [hst.out.2.2, hts.out, nb_snoc]
        · exact hbr.drew.setCell (p := ⟨w.heap.size, p, none⟩) (Nat.le_refl _) _
      case measure => simp [intOf]; omega
    · have hke : i = l.length := by omega
      subst hke
      go_wp2_with (go_at_call 66; refine (trim_calls hown.nr).mono ?_; rintro e w1 ⟨⟨k, rfl, hk, ht, hnum⟩, rfl⟩)
      go_ret
      refine ⟨_, k, xs.take k, rfl, (hown.nr.upto (by rw [← hown.2]; exact hk)).clip, hv.out.1.take, ht, ?_, fun ad e => (hown.blk ad e).1, by have := HM.out; have := hown.2; omega, hbr⟩
      rw [hnum, hv.out.2]
      simp
end Go.Proofs.Ytjbnoamoadaknaa
end

/- The document's numbers: trim, Digits. -/
section
namespace Go.Proofs.Ytjbnoamoadaknaa
open Go.RowKit

theorem E64 : El Try.prog 91 38 1 8 := El.mk_ Try.underlying91 (z := .int .u64 0) (by kernel_rfl) rfl (by omega)
theorem E32 : El Try.prog 59 64 1 4 := El.mk_ Try.underlying59 (z := .int .u32 0) (by kernel_rfl) rfl (by omega)

/-- append(v, x..) of numbers, as a step of a region that draws its order. -/
theorem step_appN {P : Program} {W : World} {ops : Array Oper} {o : Oper} {a : Act} {K : Act → World → Prop} {Q : Exit → Act → World → Prop} {E : Prop} (s x : Operand) (hgd : o.guard = none) {S : TypeId}
    (ho : o.op = .call { callee := .builtin .append, args := #[s, x], argTypes := #[S, S] }) {T : TypeId} {bytes : Nat} (EE : El P S T 1 bytes) (h8 : bytes ≤ 8) {k : IntKind}
    {B : Nat} {A0 : Option Addr} {n0 c0 : Nat} {xs : List Nat} (hs : a.eval s = .slice A0 n0 c0) (hown : OwnN W B T k A0 n0 c0 xs)
    {g : Nat} (l : List Nat) {cs : Array Value} (hcs : cs.toList = nvs k l) (m : Nat) (hm : l.length = m) (hx : a.eval x = .slice (some ⟨g, 0, none⟩) m m) (hnew : W.heap[g]? = some (.cells cs T (0, 0))) (hb : n0 + m ≤ 1000000) (hbase : B ≤ W.heap.size)
    (h : ∀ A' c' w', OwnN w' B T k A' (n0 + m) c' (xs ++ l) → W.grownBy w' (A0.map (·.block)) → K (a.put o.dst (.slice A' (n0 + m) c')) w') :
    if Region.wanted o (yielded ops a.tmps) = true then Oper.wp P o a W K Q else E := by
  have hw : Region.wanted o (yielded ops a.tmps) = true := by simp [Region.wanted, hgd]
  rw [if_pos hw]
  obtain ⟨v', w', hrun, g1, g2, g3⟩ := run_app EE B o.type (.slice A0 n0 c0) n0 (nvs k xs) hown.1.own (some ⟨g, 0, none⟩) m m (nvs k l) (by simp [hm]) (fun _ => ⟨_, rfl, fun j u hu => by
    have he : (⟨g, 0, none⟩ : Addr).add j = ⟨g, j, none⟩ := by
      unfold Addr.add; split
      · rename_i h0; rw [h0]
      · simp
    rw [he, cell_of_row _ _ j _ _ _ hnew, ← Array.getElem?_toList, hcs]
    exact hu⟩) (fun u hu => by
      simp only [List.mem_map] at hu
      obtain ⟨b, _, rfl⟩ := hu
      rfl) (Nat.le_trans (Nat.mul_le_mul_left _ h8) (by omega)) (by omega) hbase
  rw [show nvs k xs ++ nvs k l = nvs k (xs ++ l) by simp [nvs]] at g1
  obtain ⟨A', c', rfl, g4⟩ := OwnN.of g1
  have hg : W.grownBy w' (A0.map (·.block)) := by cases A0 <;> exact g2
  unfold Oper.wp execOp
  simp only [ho, resolve, invoke, builtin, Sem.run_bind, Sem.run_pure, Result.andThen_ok, List.map_toArray, List.map_cons, List.map_nil, hs, hx, hrun]
  exact h A' c' w' g4 hg

/-- What trimming answers: the first m words, which are the number, without noughts at the end. -/
def RTrimSaid (A : Option Addr) (c : Nat) (xs : List Nat) (e : Ending) : Prop := ∃ m, e = .returned (.slice A m c) ∧ m ≤ xs.length ∧ Trim (xs.take m) ∧ ∀ β, num β (xs.take m) = num β xs
set_option maxRecDepth 100000 in
set_option maxHeartbeats 1600000 in
theorem rtrim_calls {A : Option Addr} {n c : Nat} {xs : List Nat} {w : World} (h : Nr w .u64 A n c xs) :
    Calls Try.prog 91 #[.slice A n c] w fun e w' => RTrimSaid A c xs e ∧ w = w' := by
  obtain ⟨hc1, hc2⟩ := h.cap
  obtain rfl := h.2
  go_enter Try.func91, Try.ntmps91
  go_wp2_with fail
  go_loop [3] (fun i => ∃ k : Nat, i = .int .i64 k ∧ k ≤ xs.length ∧ Hid (∀ j (hj : j < xs.length), k ≤ j → xs[j] = 0)) (fun i => (intOf i).toNat)
  case atStart => exact ⟨_, rfl, Nat.le_refl _, Lib.hid (fun j hj h => by omega)⟩
  case round =>
    obtain ⟨k, rfl, hk, hz⟩ := hrel
    rcases Nat.eq_zero_or_pos k with rfl | hp
    · go_wp2
      go_ret
      exact ⟨⟨0, by first | rfl | simp, Nat.zero_le _, trim_take (Nat.zero_le _) (.inl rfl), fun β => num_take_zeros (fun j hj h => hz.out j hj h)⟩, rfl⟩
    · obtain ⟨j, rfl⟩ : ∃ j, k = j + 1 := ⟨k - 1, by omega⟩
      obtain ⟨b, off, rfl, hbl, hcell⟩ := h.at_ (j := j) (by omega)
      have e1 : (((j + 1 : Nat) : Int)) - 1 = (j : Int) := by omega
      by_cases h0 : xs[j] = 0
      · rw [h0] at hcell
        go_wp2
        go_round
        case rel => exact ⟨j, by go_num, by omega, Lib.hid (fun i hi hij => by
          by_cases e : i = j
          · subst e; exact h0
          · exact hz.out i hi (by omega))⟩
        case measure => simp [intOf]
      · have hne : ((xs[j] : Int) == 0) = false := by rw [beq_eq_false_iff_ne]; omega
        have H0 := Lib.hid h0
        clear h0
        go_wp2
        go_ret
        exact ⟨⟨j + 1, by first | rfl | simp, hk, trim_take hk (.inr ⟨by omega, H0.out⟩), fun β => num_take_zeros (fun i hi h => hz.out i hi h)⟩, rfl⟩

theorem sq65536 : (65536 : Nat) ^ 2 = 4294967296 := by decide
theorem digits_step {ds xs : List Nat} {k x : Nat} (hd : num 65536 ds = num 4294967296 (xs.take k)) (hk : k < xs.length) (hx : xs[k] = x) (hl : ds.length = 2 * k) :
    num 65536 (ds ++ [x % 65536, x / 65536]) = num 4294967296 (xs.take (k + 1)) := by
  rw [num_append, take_snoc xs k hk, num_append, hd, hl, Nat.pow_mul, sq65536, List.length_take, Nat.min_eq_left (by omega), hx]
  simp only [num, Nat.mul_zero, Nat.add_zero]
  congr 2
  omega

set_option maxRecDepth 100000 in
set_option maxHeartbeats 3200000 in
theorem Digits_calls {A : Option Addr} {n c : Nat} {xs : List Nat} {w : World} (h : Nr w .u32 A n c xs) (hlo : Lo 4294967296 xs) (hn : n ≤ 100000) :
    Calls Try.prog 89 #[.slice A n c] w fun e w' => ∃ A' m c' ds, e = .returned (.slice A' m c') ∧ Nr w' .u64 A' m c' ds ∧ Lo 65536 ds ∧ Trim ds ∧ num 65536 ds = num 4294967296 xs ∧ m ≤ 2 * n ∧ Below w.heap.size w w' := by
  obtain rfl := h.2
  have hem := ownN_empty w 38 .u64
  have hbe := (Below.refl w.heap.size w).alloc (Nat.le_refl _) (.cells #[] 38)
  go_enter Try.func89, Try.ntmps89
  go_wp2_with fail
  generalize w.alloc (.cells #[] 38) = w0 at hem hbe ⊢
  generalize some { block := w.heap.size, off := 0 : Addr } = A0 at hem ⊢
  go_loopw [3, 4] (fun o i wr => ∃ (k : Nat) (Ao : Option Addr) (mo co : Nat) (ds : List Nat), k ≤ xs.length ∧ i = .int .i64 k ∧ o = .slice Ao mo co ∧ OwnN wr w.heap.size 38 .u64 Ao mo co ds ∧ Below w.heap.size w wr ∧ Hid (ds.length = 2 * k ∧ Lo 65536 ds ∧ num 65536 ds = num 4294967296 (xs.take k))) (fun _ i _ => xs.length - (intOf i).toNat)
  case atStart => exact ⟨0, _, 0, 0, [], Nat.zero_le _, rfl, rfl, hem, hbe, Lib.hid ⟨rfl, Lo.nil _, rfl⟩⟩
  case round =>
    obtain ⟨k, Ao, mo, co, ds, hk, rfl, rfl, hown, hbr, hv⟩ := hrel
    clear hem hbe
    by_cases hlt : k < xs.length
    · obtain ⟨b, off, rfl, hbl, hcell⟩ := h.at_ hlt
      have hx := hlo.at_ hlt
      have hst := digits_step hv.out.2.2 hlt rfl hv.out.1
      have hmo := hown.2
      have hmo2 : mo ≤ 400000 := by have := hv.out.1; omega
      have HS := Lib.hid hst
      generalize xs[k] = x at hcell hx HS
      have q0 : wr.drew.cell? ⟨b, off + k, none⟩ = some (.int .u32 (x : Int)) := (hbr.cell (p := ⟨b, off + k, none⟩) hbl).trans hcell
      obtain ⟨y, hy⟩ : ∃ y, y = x % 65536 := ⟨_, rfl⟩
      obtain ⟨z, hz⟩ : ∃ z, z = x / 65536 := ⟨_, rfl⟩
      have e1 : (x : Int).tmod 65536 = (y : Int) := by rw [Int.tmod_eq_emod_of_nonneg (by omega)]; omega
      have e2 : IntKind.u64.wrap (y : Int) = (y : Int) := by rw [IntKind.wrap_u64]; omega
      have e3 : IntKind.u32.wrap ((x : Int) / 65536) = (z : Int) := by rw [IntKind.wrap_u32]; omega
      have e4 : IntKind.u64.wrap (z : Int) = (z : Int) := by rw [IntKind.wrap_u64]; omega
      have hi0 : (0 : Int) ≤ (k : Int) := by omega
      have hi1 : (k : Int) < (xs.length : Int) := by omega
      have HY := Lib.hid (show y = x % 65536 ∧ z = x / 65536 from ⟨hy, hz⟩)
      have hbd := hbr.drew
      have hod : OwnN wr.drew w.heap.size 38 .u64 Ao mo co ds := hown
      have hcell0 := Lib.hid hcell
      clear hst hy hz hcell
      have hnX := heap_alloc_new wr.drew (.cells #[.int .u64 (y : Int), .int .u64 (z : Int)] 38)
      have hba := (Below.refl wr.drew.heap.size wr.drew).alloc (Nat.le_refl _) (.cells #[.int .u64 (y : Int), .int .u64 (z : Int)] 38)
      have hbX := below_then hbd hbd.size hba
      have hoX := hod.below hba
      have q1 := (hba.cell (p := ⟨b, off + k, none⟩) (Nat.lt_of_lt_of_le hbl hbd.size)).trans q0
      go_wp2_with fail
      go_region_held_law (fun w' => w'.cell? ⟨b, off + k, none⟩ = some (.int .u32 (x : Int))) (first | exact q0 | exact q1 | exact q2) ((refine step_appN (.tmp 12) (.tmp 25) (by rfl) (by rfl) E64 (by omega) (by rfl) hoX [y, z] (by rfl) 2 (by rfl) (by rfl) hnX (by omega) hbX.size ?_; intro A2 c2 w2 hown2 hg2; have hb2 := hoX.grew hbX hbX.size hg2; have q2 := (hb2.cell (p := ⟨b, off + k, none⟩) hbl).trans hcell0.out))
      clear e1 e2 e3 e4
      go_wp2
      have hyz : Lo 65536 (ds ++ [y, z]) := by
        obtain ⟨e5, e6⟩ := HY.out
        have h0 := (hv.out.2.1.snoc (x := y) (by omega)).snoc (x := z) (by omega)
        simpa using h0
      have HV := Lib.hid (show (ds ++ [y, z]).length = 2 * (k + 1) ∧ Lo 65536 (ds ++ [y, z]) ∧ num 65536 (ds ++ [y, z]) = num 4294967296 (xs.take (k + 1)) from ⟨by simp [hv.out.1]; omega, hyz, by rw [HY.out.1, HY.out.2]; exact HS.out⟩)
      clear hyz
      go_roundw
      case rel => exact ⟨k + 1, A2, _, c2, _, by omega, by go_num, rfl, hown2, hb2, HV⟩
      case measure => simp [intOf]; omega
    · have hke : k = xs.length := by omega
      subst hke
      have hmo := hown.2
      go_wp2_with (go_at_call 91; refine (rtrim_calls hown.nr).mono ?_; rintro e w1 ⟨⟨q, rfl, hq, ht, hnum⟩, rfl⟩)
      go_ret
      refine ⟨_, q, co, ds.take q, rfl, hown.nr.upto (by rw [← hown.2]; exact hq), hv.out.2.1.take, ht, ?_, ?_, hbr⟩
      · rw [hnum, hv.out.2.2]
        simp
      · have := hv.out.1; omega
end Go.Proofs.Ytjbnoamoadaknaa
end
