/- nat.Bits. -/
import Derived.Test.YtcakdlfhmdkocaaNd
import Derived.RangeFuncCalls
namespace Go.Proofs.Ytcakdlfhmdkocaa
open Go.RowKit Go.Shelf
attribute [local go_sem] Oper.semAt_some

theorem mem_downs {n k j : Nat} (hk : k ≤ n) : j ∈ downs n k ↔ j < n ∧ n ≤ j + k := by
  simp only [downs, List.mem_map, List.mem_range]
  constructor
  · rintro ⟨a, ha, rfl⟩; omega
  · rintro ⟨h1, h2⟩; exact ⟨n - 1 - j, by omega, by omega⟩
theorem zero_at {xs : List Nat} {ys : List { i : Nat // i < xs.length }} {k : Nat} (hk : k ≤ xs.length) (hd : ys.map Subtype.val = downs xs.length k) (h0 : ∀ p ∈ ys, xs[p.1]'p.2 = 0) {j : Nat} (hj : j < xs.length) (h : xs.length ≤ j + k) : xs[j] = 0 := by
  have hm : j ∈ ys.map Subtype.val := by rw [hd]; exact (mem_downs hk).2 ⟨hj, h⟩
  obtain ⟨p, hp, rfl⟩ := List.mem_map.1 hm
  exact h0 p hp
theorem bits_all {xs : List Nat} {ys : List { i : Nat // i < xs.length }} (hd : ys.map Subtype.val = downs xs.length xs.length) (h0 : ∀ p ∈ ys, xs[p.1]'p.2 = 0) : nbits (num 4294967296 xs) = 0 := by
  have h := num_take_zeros (β := 4294967296) (n := 0) (xs := xs) (fun j hj _ => zero_at (Nat.le_refl _) hd h0 hj (by omega))
  rw [← h]
  rfl
theorem last_down {xs : List Nat} {ini : List { i : Nat // i < xs.length }} {last : { i : Nat // i < xs.length }} {k : Nat} (hd : (ini ++ [last]).map Subtype.val = downs xs.length k) : ∃ k', k = k' + 1 ∧ ini.map Subtype.val = downs xs.length k' ∧ last.1 = xs.length - 1 - k' := by
  cases k with
  | zero => simp [downs] at hd
  | succ k' =>
    rw [downs_succ, List.map_append] at hd
    obtain ⟨h1, h2⟩ := List.append_inj' hd rfl
    exact ⟨k', rfl, h1, by simpa using h2⟩
theorem pow32 (q : Nat) : 4294967296 ^ q = 2 ^ (32 * q) := by rw [show (4294967296 : Nat) = 2 ^ 32 from rfl, ← Nat.pow_mul]
/-- A number whose words behind q are 0. -/
theorem num_top {xs : List Nat} {q : Nat} (hq : q < xs.length) (h0 : ∀ j (hj : j < xs.length), q < j → xs[j] = 0) : num 4294967296 xs = num 4294967296 (xs.take q) + 2 ^ (32 * q) * xs[q] := by
  have h := num_take_zeros (β := 4294967296) (n := q + 1) (xs := xs) (fun j hj h => h0 j hj (by omega))
  rw [← h, take_snoc xs q hq, num_append, List.length_take, Nat.min_eq_left (by omega), pow32]
  simp [num]
theorem bits_at {xs : List Nat} (hlo : Lo 4294967296 xs) {ini : List { i : Nat // i < xs.length }} {last : { i : Nat // i < xs.length }} {k : Nat} (hk : k ≤ xs.length) (hd : (ini ++ [last]).map Subtype.val = downs xs.length k)
    (h0 : ∀ p ∈ ini, xs[p.1]'p.2 = 0) (h1 : xs[last.1]'last.2 ≠ 0) : nbits (num 4294967296 xs) = 32 * last.1 + nbits (xs[last.1]'last.2) := by
  obtain ⟨k', rfl, hi, hl⟩ := last_down hd
  rw [num_top last.2 (fun j hj h => zero_at (k := k') (by omega) hi h0 hj (by omega))]
  refine nbits_top h1 ?_
  have := num_lt (by decide : 0 < 4294967296) (hlo.take (k := last.1))
  rw [List.length_take, Nat.min_eq_left (by omega), pow32] at this
  exact this

set_option maxRecDepth 100000 in
set_option maxHeartbeats 4000000 in
theorem Bits_calls {A : Option Addr} {m c : Nat} {xs : List Nat} {w : World} (h : Nr w .u32 A m c xs) (hlo : Lo 4294967296 xs) (hm : m ≤ 1000000) :
    Calls Try.prog 30 #[.slice A m c] w fun e w' => e = .returned (.int .i64 (nbits (num 4294967296 xs) : Nat)) ∧ Below w.heap.size w w' := by
  obtain ⟨hc1, hc2⟩ := h.cap
  have hrd := h.rdw
  have hlen := h.2
  have hc2' : m ≤ 9223372036854775807 := by omega
  refine (callsIn_wide (n := 4)).1 ?_
  refine callsIn_of_wp_marks Try.func30 rfl trivial ?_ rfl
  simp only [Try.ntmps30, List.size_toArray, List.length_cons, List.length_nil, Nat.reduceAdd, Nat.reduceSub, Array.replicate_succ, Array.replicate_zero, List.push_toArray, List.append_toArray, List.nil_append, List.cons_append]
  gi_wp2_with (refine ⟨trivial, ?_⟩; gi_at_call 58; refine (down_in Fence.wide 3 trivial rfl _ _ _ _).mono ?_; rintro e w' ⟨rfl, rfl⟩)
  have bR := Boxed.new w 3 (.int .i64 0)
  have bN := Boxed.new (w.alloc (.cells #[.int .i64 0] 3)) 24 (.slice A m c)
  rw [World.size_alloc] at bN
  have hB0 : Below w.heap.size w ((w.alloc (.cells #[.int .i64 0] 3)).alloc (.cells #[.slice A m c] 24)) := ((Below.refl _ w).alloc (Nat.le_refl _) _).alloc (by simp) _
  have hrd2 : Rdw (w.heap.size + 1 + 1) ((w.alloc (.cells #[.int .i64 0] 3)).alloc (.cells #[.slice A m c] 24)) A xs := fun hne => by
    obtain ⟨b, off, e, hb, hc⟩ := hrd.below hB0 hne
    exact ⟨b, off, e, by omega, hc⟩
  refine wpIn_rangeFunc_ownG rfl (by omega) (gf := 76) (lb := #[.pointer (some ⟨w.heap.size + 1, 0, none⟩)]) rfl trivial (enters_of Try.func76 (by kernel_rfl) rfl)
    (down_stops Fence.wide 3 trivial rfl (by omega) (w.heap.size + 1) (w.heap.size + 1 + 1) A m c xs hlen hc2' hc1 _ (by omega) (by simp) bN.cell hrd2) belowK_t (belowK_b (by simp)) (Below.refl _ _) (fun _ => rfl)
    (fun pre W => ((∀ p ∈ pre, xs[p.1]'p.2 = 0) ∧ W.cell? ⟨w.heap.size, 0, none⟩ = some (.int .i64 0) ∧ W.frozen? ⟨w.heap.size, 0, none⟩ = false) ∧ Below w.heap.size w W)
    (fun c pre W => (c = .ret ∧ ∃ ini last, pre = ini ++ [last] ∧ (∀ p ∈ ini, xs[p.1]'p.2 = 0) ∧ xs[last.1]'last.2 ≠ 0 ∧ W.cell? ⟨w.heap.size, 0, none⟩ = some (.int .i64 ((32 * last.1 + nbits (xs[last.1]'last.2) : Nat) : Int))) ∧ Below w.heap.size w W)
    (OwnFrom.and (Own.from (fun s A B row hs hg hr => ⟨hs.1, cell_kept hs.2.1 hg hr, (frozen_kept hs.2.1 hg hr).trans hs.2.2⟩) _) (ownFrom_below (Nat.le_refl _) (by simp; omega)))
    (fun c => OwnFrom.and (Own.from (fun s A B row hs hg hr => by obtain ⟨hc, ini, last, e1, e2, e3, e4⟩ := hs; exact ⟨hc, ini, last, e1, e2, e3, cell_kept e4 hg hr⟩) _) (ownFrom_below (Nat.le_refl _) (by simp; omega)))
    ⟨⟨by simp, (bR.alloc _).cell, (bR.alloc _).frozen⟩, hB0⟩
    (fun x => { tmps := #[.slice A m c, undef, .pointer (some ⟨w.heap.size, 0, none⟩), .int .i64 (x.1 : Int), .int .u32 ((xs[x.1]'x.2 : Nat) : Int), .slice A m c, .func (.func 76) #[] #[.pointer (some ⟨w.heap.size + 1, 0, none⟩)], .int .i64 (x.1 : Int), .int .u32 ((xs[x.1]'x.2 : Nat) : Int), undef, undef, undef, undef, undef, undef, undef], defers := [] }) ?assign ?body ?done ?stop
  case assign =>
    intro l x W K hK
    simp only [encW]
    gi_wp2
    exact hK
  case body =>
    rintro l pre x W ⟨⟨hp, hcr, hfr⟩, hB⟩ _
    have hx := x.2
    have hv := hlo.at_ hx
    have HP := Lib.hid hp
    clear hp
    by_cases h0 : xs[x.1]'x.2 = 0
    · rw [h0]
      have H0 := Lib.hid h0
      clear h0
      gi_wp2
      exact ⟨KeepsFrom.refl _ _, Below.refl _ _, ⟨fun p hp' => (List.mem_append.1 hp').elim (HP.out p) (fun e => by simp at e; subst e; exact H0.out), hcr, hfr⟩, hB⟩
    · have hb : (((xs[x.1]'x.2 : Nat) : Int) != 0) = true := by rw [bne_iff_ne]; omega
      have hn32 := nbits_le_of (k := 32) hv
      have H0 := Lib.hid h0
      clear h0
      gi_wp2_with (refine ⟨trivial, ?_⟩; gi_at_call 59; refine (CallsIn.inRound l (callsIn_wide.2 (Len32_calls (xs[x.1]'x.2) hv _))).mono ?_; rintro e w' ⟨rfl, rfl⟩)
      refine ⟨(KeepsOthers.setCell _ _ _).from _, ⟨rfl, pre, x, rfl, HP.out, H0.out, ?_⟩, hB.setCell (p := ⟨w.heap.size, 0, none⟩) (Nat.le_refl _) _⟩
      refine (World.cell?_setCell_same' _ _ _ (by rw [hcr]; rfl)).trans ?_
      simp
  case done =>
    rintro D ys W hD hys ⟨⟨hne, hcr, hfr⟩, hB⟩ hK
    have hz := Lib.hid (bits_all hys hne)
    clear hne
    gi_wp2
    have hK' := (KeepsOthers.setCell W ⟨w.heap.size, 0, none⟩ (.int .i64 0)).same D _ hK rfl
    refine ⟨by simp, .inl ⟨_, _, rfl, run_takeDeferred hK', ?_⟩⟩
    have hc5 := cell_kept (World.cell?_setCell_same' W ⟨w.heap.size, 0, none⟩ (.int .i64 0) (by rw [hcr]; rfl)) (grownBy_putObj' _ D (.deferred none)) (fun r e => by cases e; exact ⟨_, hK', rfl⟩)
    refine ⟨.int .i64 0, ?_, by rw [hz.out]; rfl, (hB.setCell (p := ⟨w.heap.size, 0, none⟩) (Nat.le_refl _) _).trans (belowK_b (w := w) (Nat.le_refl _) _ D _ _ (by simp at hD; omega) hK' rfl rfl)⟩
    simp [results, Try.f30, go_sem, hc5]
  case stop =>
    rintro D c pre W hD ⟨k, hk, hd⟩ ⟨⟨rfl, ini, last, e1, e2, e3, hcr⟩, hB⟩ hK
    subst e1
    have hz := Lib.hid (bits_at hlo hk hd e2 e3)
    clear e2 e3 hd
    gi_wp2
    refine ⟨by simp, .inl ⟨_, _, rfl, run_takeDeferred hK, ?_⟩⟩
    have hc5 := cell_kept hcr (grownBy_putObj' _ D (.deferred none)) (fun r e => by cases e; exact ⟨_, hK, rfl⟩)
    refine ⟨.int .i64 ((32 * last.1 + nbits (xs[last.1]'last.2) : Nat) : Int), ?_, by rw [hz.out], hB.trans (belowK_b (w := w) (Nat.le_refl _) W D _ _ (by simp at hD; omega) hK rfl rfl)⟩
    simp [results, Try.f30, go_sem, hc5]
end Go.Proofs.Ytcakdlfhmdkocaa
