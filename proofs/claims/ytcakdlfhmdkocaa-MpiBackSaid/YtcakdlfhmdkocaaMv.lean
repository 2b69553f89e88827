/- nat.Cmp of two that are the same number. -/
import Derived.RangeFuncCalls
import Derived.Stop.RegionWithIn
import Derived.Test.YtcakdlfhmdkocaaNe
namespace Go.Proofs.Ytcakdlfhmdkocaa
open Go.RowKit Go.Shelf
attribute [local go_sem] Oper.semAt_some

theorem trim_ex {xs : List Nat} : ∀ k, k ≤ xs.length → (∀ j (hj : j < xs.length), k ≤ j → xs[j] = 0) → ∃ m, m ≤ xs.length ∧ Trim (xs.take m) ∧ ∀ β, num β (xs.take m) = num β xs
  | 0, hk, hz => ⟨0, Nat.zero_le _, trim_take (Nat.zero_le _) (.inl rfl), fun β => num_take_zeros (fun j hj h => hz j hj h)⟩
  | k + 1, hk, hz => by
    by_cases h0 : xs[k]'(by omega) = 0
    · exact trim_ex k (by omega) (fun j hj hjk => by
        by_cases e : j = k
        · subst e; exact h0
        · exact hz j hj (by omega))
    · exact ⟨k + 1, hk, trim_take hk (.inr ⟨by omega, h0⟩), fun β => num_take_zeros (fun j hj h => hz j hj h)⟩
/-- How many words are left by trimming. -/
theorem trim_fn {xs : List Nat} (hlo : Lo 4294967296 xs) : ∃ t, t ≤ xs.length ∧ Trim (xs.take t) ∧ num 4294967296 (xs.take t) = num 4294967296 xs ∧ ∀ (A : Option Addr) (n c : Nat) (w : World), Nr w .u32 A n c xs → Calls Try.prog 60 #[.slice A n c] w fun e w' => e = .returned (.slice A t t) ∧ w = w' := by
  obtain ⟨t, h1, h2, h3⟩ := trim_ex (xs := xs) xs.length (Nat.le_refl _) (fun j hj h => by omega)
  refine ⟨t, h1, h2, h3 _, fun A n c w h => (trim_calls h).mono ?_⟩
  rintro e w' ⟨⟨m, rfl, g1, g2, g3⟩, rfl⟩
  have e2 := trim_unique (by decide) hlo.take hlo.take g2 h2 ((g3 4294967296).trans (h3 4294967296).symm)
  have e3 := congrArg List.length e2
  rw [List.length_take, List.length_take, Nat.min_eq_left g1, Nat.min_eq_left h1] at e3
  subst e3
  exact ⟨rfl, rfl⟩

/-- What holds behind the first statement of nat.Cmp. -/
def CmpMid (w : World) (A D : Option Addr) (m c n d t : Nat) (a : Act) (W : World) : Prop :=
  a = { tmps := #[.slice A t t, .slice D n d, undef, .pointer (some ⟨w.heap.size, 0, none⟩), .pointer (some ⟨w.heap.size + 1, 0, none⟩), undef, undef, .slice A m c, .slice A t t, .slice D n d, .slice D t t, undef, undef, undef, undef, undef, undef, undef, undef, undef, undef, undef, undef, undef, undef, undef, undef, undef, undef, undef, undef, undef, undef, undef, undef, undef, undef, undef, undef, undef, undef], defers := [] } ∧
    W = ((w.alloc (.cells #[.slice D t t] 24)).alloc (.cells #[.int .i64 0] 3)).drew

set_option maxRecDepth 100000 in
set_option maxHeartbeats 4000000 in
theorem Cmp_calls {A D : Option Addr} {m c n d : Nat} {xs ys : List Nat} {w : World} (h : Nr w .u32 A m c xs) (hlo : Lo 4294967296 xs) (h2 : Nr w .u32 D n d ys) (hlo2 : Lo 4294967296 ys) (he : num 4294967296 xs = num 4294967296 ys) (hm : m ≤ 1000000) :
    Calls Try.prog 31 #[.slice A m c, .slice D n d] w fun e w' => e = .returned (.int .i64 0) ∧ Below w.heap.size w w' := by
  obtain ⟨t, ht1, ht2, ht3, ht4⟩ := trim_fn hlo
  obtain ⟨u, hu1, hu2, hu3, hu4⟩ := trim_fn hlo2
  have hxy := trim_unique (by decide) hlo.take hlo2.take ht2 hu2 ((ht3.trans he).trans hu3.symm)
  have hlen := congrArg List.length hxy
  rw [List.length_take, List.length_take, Nat.min_eq_left ht1, Nat.min_eq_left hu1] at hlen
  subst hlen
  have TT := Lib.hid (show ∀ (a : Option Addr) (p q : Nat) (W : World), (Nr W .u32 a p q xs ∨ Nr W .u32 a p q ys) → Calls Try.prog 60 #[.slice a p q] W fun e w' => e = .returned (.slice a t t) ∧ W = w' from fun a p q W hh => hh.elim (ht4 a p q W) (hu4 a p q W))
  clear ht4 hu4
  have hB0 : Below w.heap.size w ((w.alloc (.cells #[.slice D n d] 24)).alloc (.cells #[.int .i64 0] 3)) := ((Below.refl _ w).alloc (Nat.le_refl _) _).alloc (by simp) _
  have hx0 := h.below hB0.drew
  have hy0 := h2.below hB0.drew
  refine (callsIn_wide (n := 4)).1 ?_
  refine callsIn_of_wp_marks Try.func31 rfl trivial ?_ rfl
  simp only [Try.ntmps31, List.size_toArray, List.length_cons, List.length_nil, Nat.reduceAdd, Nat.reduceSub, Array.replicate_succ, Array.replicate_zero, List.push_toArray, List.append_toArray, List.nil_append, List.cons_append]
  gi_wp2
  refine Code.wpIn_mono (Q := Exit.then (CmpMid w A D m c n d t) (fun _ _ _ => False)) (fun e a W hmid => ?_) ?_
  rotate_left
  focus
    gi_region_with ((refine ⟨trivial, ?_⟩; gi_at_call 60; refine (callsIn_wide.2 (TT.out _ _ _ _ (by first | exact .inl hx0 | exact .inr hy0))).mono ?_; rintro e w' ⟨rfl, rfl⟩))
    all_goals exact ⟨rfl, rfl⟩
  cases e
  case normal =>
    obtain ⟨rfl, rfl⟩ := hmid
    have hBm : Below w.heap.size w ((w.alloc (.cells #[.slice D t t] 24)).alloc (.cells #[.int .i64 0] 3)).drew := (((Below.refl _ w).alloc (Nat.le_refl _) _).alloc (by simp) _).drew
    have hx1 := (h.below hBm).upto (j := t) (by have := h.2; omega)
    have hy1 := (h2.below hBm).upto (j := t) (by have := h2.2; omega)
    have n0 : ((w.alloc (.cells #[.slice D t t] 24)).alloc (.cells #[.int .i64 0] 3)).drew.heap[w.heap.size]? = some (.cells #[.slice D t t] 24 (0, 0)) :=
      (((Below.refl (w.heap.size + 1) (w.alloc (.cells #[.slice D t t] 24))).alloc (by simp) (.cells #[.int .i64 0] 3)).block w.heap.size (by omega)).trans (heap_alloc_new w _)
    have n1 : ((w.alloc (.cells #[.slice D t t] 24)).alloc (.cells #[.int .i64 0] 3)).drew.heap[w.heap.size + 1]? = some (.cells #[.int .i64 0] 3 (0, 0)) := by
      have := heap_alloc_new (w.alloc (.cells #[.slice D t t] 24)) (.cells #[.int .i64 0] 3)
      rw [World.size_alloc] at this
      exact this
    have nsz : ((w.alloc (.cells #[.slice D t t] 24)).alloc (.cells #[.int .i64 0] 3)).drew.heap.size = w.heap.size + 1 + 1 := by show ((w.alloc (.cells #[.slice D t t] 24)).alloc (.cells #[.int .i64 0] 3)).heap.size = _; simp
    dsimp only
    clear hx0 hy0 hB0
    generalize ((w.alloc (.cells #[.slice D t t] 24)).alloc (.cells #[.int .i64 0] 3)).drew = W at hBm hx1 hy1 n0 n1 nsz ⊢
    have k0 := blk_cell n0 0
    have k1 := blk_cell n1 0
    have f1 := blk_frozen n1 0
    simp only [List.getElem?_toArray, List.getElem?_cons_zero] at k0 k1
    have NSZ := Lib.hid nsz
    clear nsz
    gi_wp2_with (refine ⟨trivial, ?_⟩; gi_at_call 58; refine (down_in Fence.wide 3 trivial rfl _ _ _ _).mono ?_; rintro e w' ⟨rfl, rfl⟩)
    have hrd := (h2.upto (j := t) (by have := h2.2; omega)).rdw
    have hxr := hx1.rdw
    rw [hxy] at hxr
    have hzl : (ys.take t).length = t := by rw [List.length_take]; omega
    have hzlo := hlo2.take (k := t)
    have hct : t ≤ 9223372036854775807 := by have := h.cap; have := h.2; omega
    generalize ys.take t = zs at hrd hxr hzl hzlo
    have bN := Boxed.new W 24 (.slice A t t)
    have hB1 : Below w.heap.size w (W.alloc (.cells #[.slice A t t] 24)) := hBm.alloc hBm.size _
    have hb1 : Below W.heap.size W (W.alloc (.cells #[.slice A t t] 24)) := (Below.refl _ W).alloc (Nat.le_refl _) _
    have hrd2 : Rdw (W.heap.size + 1) (W.alloc (.cells #[.slice A t t] 24)) A zs := fun hne => by
      obtain ⟨b, off, e, hb, hc⟩ := hxr.below hb1 hne
      exact ⟨b, off, e, by omega, hc⟩
    have hW2 := NSZ.out
    have k0' := (hb1.cell (p := ⟨w.heap.size, 0, none⟩) (by show w.heap.size < W.heap.size; omega)).trans k0
    have k1' := (hb1.cell (p := ⟨w.heap.size + 1, 0, none⟩) (by show w.heap.size + 1 < W.heap.size; omega)).trans k1
    have f1' := (hb1.frozen (p := ⟨w.heap.size + 1, 0, none⟩) (by show w.heap.size + 1 < W.heap.size; omega)).trans f1
    clear k0 k1 f1 n0 n1 hx1 hy1 hxr
    refine wpIn_rangeFunc_ownG rfl (by omega) (gf := 76) (lb := #[.pointer (some ⟨W.heap.size, 0, none⟩)]) rfl trivial (enters_of Try.func76 (by kernel_rfl) rfl)
      (down_stops Fence.wide 3 trivial rfl (by omega) W.heap.size (W.heap.size + 1) A t t zs hzl hct (Nat.le_refl _) _ (by omega) (by simp) bN.cell hrd2) belowK_t (belowK_b (by simp)) (Below.refl _ _) (fun _ => rfl)
      (fun pre W' => (W'.cell? ⟨w.heap.size, 0, none⟩ = some (.slice D t t) ∧ W'.cell? ⟨w.heap.size + 1, 0, none⟩ = some (.int .i64 0) ∧ W'.frozen? ⟨w.heap.size + 1, 0, none⟩ = false) ∧ Below w.heap.size w W')
      (fun _ _ _ => False)
      (OwnFrom.and (Own.from (fun s A B row hs hg hr => ⟨cell_kept hs.1 hg hr, cell_kept hs.2.1 hg hr, (frozen_kept hs.2.1 hg hr).trans hs.2.2⟩) _) (ownFrom_below (Nat.le_refl _) (by simp; omega)))
      (fun _ _ _ _ _ hs _ _ => hs)
      ⟨⟨k0', k1', f1'⟩, hB1⟩
      (fun x => { tmps := #[.slice A t t, .slice D n d, undef, .pointer (some ⟨w.heap.size, 0, none⟩), .pointer (some ⟨w.heap.size + 1, 0, none⟩), .int .i64 (x.1 : Int), .int .u32 ((zs[x.1]'x.2 : Nat) : Int), .slice A m c, .slice A t t, .slice D n d, .slice D t t, .bool false, .slice A t t, .int .i64 t, .slice D t t, .int .i64 t, .bool false, .bool false, .slice A t t, .int .i64 t, .slice D t t, .int .i64 t, .bool false, .slice A t t, .func (.func 76) #[] #[.pointer (some ⟨W.heap.size, 0, none⟩)], .int .i64 (x.1 : Int), .int .u32 ((zs[x.1]'x.2 : Nat) : Int), undef, undef, undef, undef, undef, undef, undef, undef, undef, undef, undef, undef, undef, undef], defers := [] }) ?assign ?body ?done ?stop
    case assign =>
      clear hW2
      intro l x W' K hK
      simp only [encW]
      gi_wp2
      exact hK
    case body =>
      clear hW2
      rintro l pre x W' ⟨⟨hc0, hc1, hf1⟩, hB⟩ _
      have hx := x.2
      obtain ⟨b, off, rfl, hbl, hcs⟩ := hrd.below hB (List.ne_nil_of_length_pos (by omega))
      have hcx := hcs x.1 hx
      have hxt : x.1 < t := by omega
      have HI := Lib.hid (show ((zs[x.1]'x.2 : Nat) : Int) = zs[x.1]'x.2 from rfl)
      generalize ((zs[x.1]'x.2 : Nat) : Int) = v at hcx ⊢
      have hlt1 : ¬ v < v := by omega
      clear hcs
      gi_wp2
      exact ⟨KeepsFrom.refl _ _, Below.refl _ _, ⟨hc0, hc1, hf1⟩, hB⟩
    case done =>
      rintro Db zs' W' hD hys ⟨⟨hc0, hcr, hfr⟩, hB⟩ hK
      clear hys hW2
      gi_wp2
      have hK' := (KeepsOthers.setCell W' ⟨w.heap.size + 1, 0, none⟩ (.int .i64 0)).same Db _ hK rfl
      refine ⟨by simp, .inl ⟨_, _, rfl, run_takeDeferred hK', ?_⟩⟩
      have hc5 := cell_kept (World.cell?_setCell_same' W' ⟨w.heap.size + 1, 0, none⟩ (.int .i64 0) (by rw [hcr]; rfl)) (grownBy_putObj' _ Db (.deferred none)) (fun r e => by cases e; exact ⟨_, hK', rfl⟩)
      refine ⟨.int .i64 0, ?_, rfl, (hB.setCell (p := ⟨w.heap.size + 1, 0, none⟩) (by show w.heap.size ≤ w.heap.size + 1; omega) _).trans (belowK_b (w := w) (Nat.le_refl _) _ Db _ _ (by have := hBm.size; simp at hD; omega) hK' rfl rfl)⟩
      simp [results, Try.f31, go_sem, hc5]
    case stop =>
      rintro Db c' pre W' _ _ hh _
      exact hh.elim
  all_goals exact hmid.elim
end Go.Proofs.Ytcakdlfhmdkocaa
