import Derived.Test.YtjbnoamoadaknaaYSigBack4
import Derived.ChangeMaps5
import Derived.Test.YtjbnoamoadaknaaYSigBack3
import Derived.Lib.ItoaWalk
import Derived.Deep.Cut
import Derived.Test.YtjbnoamoadaknaaYSigBack2
/- What a statement's row opens: a signature. -/
section
namespace Go.Proofs.Ytjbnoamoadaknaa
open Go.ChangeShapes Go.WideShapes Go.ChangeAt Go.RowKit
set_option maxRecDepth 100000
theorem cells_subs {H : Type} {enc : TypeId × Value → H} {W : World} {t : TypeId} {B fuel : Nat} {cs0 : List Value} {x0 : DataW H × List MemPlace} (ht : Try.prog.underlying t = some (.slice 70)) (hf : DataW.trod enc Try.prog W 0 (fun _ => true) true fuel t cs0 = some x0) (hB : ∀ q ∈ x0.1.weights Try.prog t, q ≤ B) :
    ∃ (A : Option Addr) (n c : Nat) (ss : List SubV), cs0 = [.slice A n c] ∧ Ss W A n ss ∧ n ≤ 9223372036854775807 ∧ ∀ s ∈ ss, s.2.2.length ≤ B := by
  obtain ⟨f0, f1, f2, hs, o0, o1, o2, c0, c1, c2, u0, u1, u2⟩ := sub_fields
  have ce : Try.prog.cellsOf 70 = 3 := by kernel_rfl
  rcases Go.Deep.open_slice ht hf with ⟨hcs, _⟩ | ⟨a, len0, cap0, m, n, D, Pl, hcs, _, hl, hm, hmm, hd, hx⟩
  · exact ⟨none, 0, 0, [], hcs, ⟨rfl, fun k hk => by simp at hk⟩, by omega, fun s hs => by cases hs⟩
  · subst hcs
    have hmc : m = cap0 := by simpa using hmm
    obtain ⟨x1, x2⟩ := x0
    simp only [Prod.mk.injEq] at hd hB
    have hi : ∀ i, ∃ s : SubV, i < len0 → s.2.2.length ≤ B ∧ ∃ Ak nk ck, W.cell? (a.add (i * 3)) = some (.int .i64 s.1) ∧ W.cell? (a.add (i * 3 + 1)) = some (.bool s.2.1) ∧ W.cell? (a.add (i * 3 + 2)) = some (.slice Ak nk ck) ∧ Bs W Ak nk ck s.2.2 := fun i => by
      by_cases hi : i < len0
      · obtain ⟨cs', h1, h2⟩ := hx i (by omega)
        rw [ce] at h1
        obtain ⟨_, hlen, hcell⟩ := World.cells?_some h1
        obtain ⟨xs, k, hk, hxy, _, hxl, hfl⟩ := DataW.trod_struct hs h2
        match xs, hxl, cs', hlen with
        | [y0, y1, y2], _, [v0, v1, v2], _ =>
          have g0 := hfl 0 f0 rfl
          have g1 := hfl 1 f1 rfl
          have g2 := hfl 2 f2 rfl
          simp [o0, o1, o2, c0, c1, c2] at g0 g1 g2
          have e0 := hcell 0 (by omega)
          have e1 := hcell 1 (by omega)
          have e2 := hcell 2 (by omega)
          rw [Go.Deep.add_add] at e0 e1 e2
          simp only [Prod.mk.injEq] at hxy
          obtain ⟨z, hz0, _⟩ := DataW.trod_int u0 g0
          obtain ⟨bb, hb0, _⟩ := DataW.trod_bool u1 g1
          obtain ⟨Ak, nk, ck, l, hy0, hb, hw⟩ := cells_bytes u2 g2
          refine ⟨(z, bb, l), fun _ => ⟨?_, Ak, nk, ck, ?_, ?_, ?_, hb⟩⟩
          · rw [hb.2]
            refine hw B fun q hq => hB q ?_
            rw [hd.1]
            have hDi : D i = .agg [y0.1, y1.1, y2.1] := by simpa using hxy.1
            have hq2 : q ∈ (D i).weights Try.prog 70 := by
              rw [hDi]
              simp only [DataW.weights, hs]
              exact DataW.weights_mem_each (j := 2) rfl rfl q hq
            simp only [DataW.weights, ht]
            refine List.mem_cons_of_mem _ (List.mem_append.2 (.inl ?_))
            exact weights_mem_all (List.mem_map.2 ⟨i, List.mem_range.2 hi, rfl⟩) q hq2
          · have e : v0 = .int .i64 z := by simpa using hz0
            rw [← e]; simpa [ce] using e0
          · have e : v1 = .bool bb := by simpa using hb0
            rw [← e]; simpa [ce] using e1
          · have e : v2 = .slice Ak nk ck := by simpa using hy0
            rw [← e]; simpa [ce] using e2
      · exact ⟨(0, false, []), fun h => absurd h hi⟩
    obtain ⟨q, hq⟩ := Classical.axiomOfChoice hi
    refine ⟨some a, len0, cap0, (List.range len0).map q, rfl, ⟨by simp, fun k hk => ?_⟩, by unfold maxLen at hm; omega, fun s hs => ?_⟩
    · have hk' : k < len0 := by simpa using hk
      obtain ⟨_, Ak, nk, ck, q0, q1, q2, hb1⟩ := hq k hk'
      obtain ⟨_, _, _, _, p0, _⟩ := hq 0 (by omega)
      obtain ⟨b, off, spot⟩ := a
      have hsp : spot = none := by simpa [Addr.add] using World.cell?_spot p0
      subst hsp
      have hb : b < W.heap.size := World.block_lt_of_cell? W _ (by simpa [Addr.add] using p0)
      have ad : ∀ j, (⟨b, off, none⟩ : Addr).add j = ⟨b, off + j, none⟩ := fun j => by
        unfold Addr.add; split
        · rename_i h0; rw [h0]; rfl
        · rfl
      rw [ad] at q0 q1 q2
      refine ⟨b, off, Ak, nk, ck, rfl, hb, ?_, ?_, ?_, ?_⟩
      · simpa using q0
      · rw [Nat.add_assoc]; simpa using q1
      · rw [Nat.add_assoc]; simpa using q2
      · simpa using hb1
    · obtain ⟨i, hi2, rfl⟩ := List.mem_map.1 hs
      exact (hq i (List.mem_range.1 hi2)).1

/-- Two bytes that lie at a field. -/
theorem cells_arr2 {H : Type} {enc : TypeId × Value → H} {W : World} {t e : TypeId} {fuel : Nat} {cs : List Value} {x : DataW H × List MemPlace} (ht : Try.prog.underlying t = some (.array 2 e)) (he : Try.prog.underlying e = some (.int .u8)) (hc1 : Try.prog.cellsOf e = 1) (hf : DataW.trod enc Try.prog W 0 (fun _ => true) true fuel t cs = some x) (hsz : cs.length = 2) :
    ∃ a b : UInt8, cs = [.int .u8 (a.toNat : Int), .int .u8 (b.toNat : Int)] := by
  obtain ⟨xs, m, _, _, hl, hxl, hg⟩ := DataW.trod_array ht hf
  have one : ∀ i, (hi : i < 2) → ∃ b : UInt8, cs[i]? = some (.int .u8 (b.toNat : Int)) := by
    intro i hi
    have h1 := hg i hi
    rw [hc1] at h1
    have hi2 : i < cs.length := by omega
    have hx : xs[i]? = some (xs[i]'(by omega)) := List.getElem?_eq_getElem (by omega)
    rw [hx] at h1
    obtain ⟨n, hn, _, w⟩ := DataW.trod_int he h1
    have hw := bounds_u8 w
    obtain ⟨k, rfl⟩ := Int.eq_ofNat_of_zero_le hw.1
    refine ⟨UInt8.ofNat k, ?_⟩
    simp only [Nat.mul_one] at hn
    have e1 : (cs.drop i).take 1 = [cs[i]] := by
      rw [List.drop_eq_getElem_cons hi2, List.take_succ_cons, List.take_zero]
    rw [e1] at hn
    rw [UInt8.toNat_ofNat_of_lt' (by simp [UInt8.size]; omega), List.getElem?_eq_getElem hi2]
    simpa using hn
  obtain ⟨a, ha⟩ := one 0 (by omega)
  obtain ⟨b, hb⟩ := one 1 (by omega)
  obtain ⟨u, v, rfl⟩ : ∃ u v, cs = [u, v] := by
    match cs, hsz with
    | [u, v], _ => exact ⟨u, v, rfl⟩
  exact ⟨a, b, by rw [Option.some.inj (show some u = some _ from ha), Option.some.inj (show some v = some _ from hb)]⟩

/-- What a signature is. -/
structure SigV where
  ve : Int
  ty : Int
  pu : Int
  ha : Int
  hs : List SubV
  us : List SubV
  l0 : UInt8
  l1 : UInt8
  salt : List UInt8
  value : List UInt8
/-- A signature's slices: where each lies. -/
structure SigA where
  A4 : Option Addr
  n4 : Nat
  c4 : Nat
  A5 : Option Addr
  n5 : Nat
  c5 : Nat
  A8 : Option Addr
  n8 : Nat
  c8 : Nat
  A9 : Option Addr
  n9 : Nat
  c9 : Nat
/-- The cells of a signature. -/
abbrev sigC (s : SigV) (a : SigA) : Array Value := #[.int .i64 s.ve, .int .i64 s.ty, .int .i64 s.pu, .int .i64 s.ha, .slice a.A4 a.n4 a.c4, .slice a.A5 a.n5 a.c5, .int .u8 (s.l0.toNat : Int), .int .u8 (s.l1.toNat : Int), .slice a.A8 a.n8 a.c8, .slice a.A9 a.n9 a.c9]
/-- What a signature's slices read as. -/
structure SigR (w : World) (s : SigV) (a : SigA) : Prop where
  h4 : Ss w a.A4 a.n4 s.hs
  h5 : Ss w a.A5 a.n5 s.us
  h8 : Bs w a.A8 a.n8 a.c8 s.salt
  h9 : Bs w a.A9 a.n9 a.c9 s.value
theorem SigR.below {w w' : World} {s : SigV} {a : SigA} (h : SigR w s a) (hb : Below w.heap.size w w') : SigR w' s a := ⟨h.h4.below hb, h.h5.below hb, h.h8.below hb, h.h9.below hb⟩
/-- That a signature's numbers and lengths are such as memory bears. -/
structure SigB (s : SigV) (a : SigA) (B : Nat) : Prop where
  ve : -9223372036854775808 ≤ s.ve ∧ s.ve ≤ 9223372036854775807
  ty : -9223372036854775808 ≤ s.ty ∧ s.ty ≤ 9223372036854775807
  pu : -9223372036854775808 ≤ s.pu ∧ s.pu ≤ 9223372036854775807
  ha : -9223372036854775808 ≤ s.ha ∧ s.ha ≤ 9223372036854775807
  n4 : a.n4 ≤ 9223372036854775807
  n5 : a.n5 ≤ 9223372036854775807
  b4 : ∀ x ∈ s.hs, x.2.2.length ≤ B
  b5 : ∀ x ∈ s.us, x.2.2.length ≤ B

theorem sig_fields : ∃ f0 f1 f2 f3 f4 f5 f6 f7 f8 : Field, Try.prog.underlying 27 = some (.struct #[f0, f1, f2, f3, f4, f5, f6, f7, f8]) ∧
    (f0.offset = 0 ∧ f1.offset = 1 ∧ f2.offset = 2 ∧ f3.offset = 3 ∧ f4.offset = 4 ∧ f5.offset = 5 ∧ f6.offset = 6 ∧ f7.offset = 8 ∧ f8.offset = 9) ∧
    (Try.prog.cellsOf f0.type = 1 ∧ Try.prog.cellsOf f1.type = 1 ∧ Try.prog.cellsOf f2.type = 1 ∧ Try.prog.cellsOf f3.type = 1 ∧ Try.prog.cellsOf f4.type = 1 ∧ Try.prog.cellsOf f5.type = 1 ∧ Try.prog.cellsOf f6.type = 2 ∧ Try.prog.cellsOf f7.type = 1 ∧ Try.prog.cellsOf f8.type = 1) ∧
    Try.prog.underlying f0.type = some (.int .i64) ∧ Try.prog.underlying f1.type = some (.int .i64) ∧ Try.prog.underlying f2.type = some (.int .i64) ∧ Try.prog.underlying f3.type = some (.int .i64) ∧ Try.prog.underlying f4.type = some (.slice 70) ∧ Try.prog.underlying f5.type = some (.slice 70) ∧ Try.prog.underlying f6.type = some (.array 2 5) ∧ Try.prog.underlying f7.type = some (.slice 5) ∧ Try.prog.underlying f8.type = some (.slice 5) :=
  ⟨_, _, _, _, _, _, _, _, _, Try.underlying27, ⟨rfl, rfl, rfl, rfl, rfl, rfl, rfl, rfl, rfl⟩, ⟨by kernel_rfl, by kernel_rfl, by kernel_rfl, by kernel_rfl, by kernel_rfl, by kernel_rfl, by kernel_rfl, by kernel_rfl, by kernel_rfl⟩, by kernel_rfl, by kernel_rfl, by kernel_rfl, by kernel_rfl, by kernel_rfl, by kernel_rfl, by kernel_rfl, by kernel_rfl, by kernel_rfl⟩
section
variable {H : Type} {enc : TypeId × Value → H} {W : World} {base : Nat} {v : Value} {d : DataW H} {p : List MemPlace}
theorem open_sig {B : Nat} (hv : Value.okWide Try.prog W .any base 27 v) (h : DataW.Trod enc Try.prog W 0 (fun _ => true) true 27 v d p) (hB : ∀ q ∈ d.weights Try.prog 27, q ≤ B) :
    ∃ (s : SigV) (a : SigA), v = .agg (sigC s a) ∧ SigR W s a ∧ SigB s a B := by
  obtain ⟨f0, f1, f2, f3, f4, f5, f6, f7, f8, hs, ⟨o0, o1, o2, o3, o4, o5, o6, o7, o8⟩, ⟨k0, k1, k2, k3, k4, k5, k6, k7, k8⟩, u0, u1, u2, u3, u4, u5, u6, u7, u8⟩ := sig_fields
  obtain ⟨cs, rfl, hsz⟩ := okWide_struct hs hv
  have hsz7 : cs.size = 10 := hsz.trans (by kernel_rfl)
  obtain ⟨fuel, hf⟩ := h
  obtain ⟨xs, k, hk, hxy, _, hxl, hfl⟩ := DataW.trod_struct hs hf
  simp only [Prod.mk.injEq] at hxy
  have hd : d = .agg (xs.map (·.1)) := by simpa using hxy.1
  have hw : ∀ (j : Nat) (f : Field) (y : DataW H × List MemPlace), #[f0, f1, f2, f3, f4, f5, f6, f7, f8][j]? = some f → xs[j]? = some y → ∀ q ∈ y.1.weights Try.prog f.type, q ≤ B := by
    intro j f y hj hy q hq
    refine hB q ?_
    rw [hd]
    simp only [DataW.weights, hs]
    exact DataW.weights_mem_each (j := j) (by rw [List.getElem?_map, Array.getElem?_toList, hj]; rfl) (by rw [List.getElem?_map, hy]; rfl) q hq
  obtain ⟨c0, c1, c2, c3, c4, c5, c6, c7, c8, c9, rfl⟩ : ∃ c0 c1 c2 c3 c4 c5 c6 c7 c8 c9, cs = #[c0, c1, c2, c3, c4, c5, c6, c7, c8, c9] := by
    match cs, hsz7 with
    | ⟨[c0, c1, c2, c3, c4, c5, c6, c7, c8, c9]⟩, _ => exact ⟨c0, c1, c2, c3, c4, c5, c6, c7, c8, c9, rfl⟩
  obtain ⟨y0, y1, y2, y3, y4, y5, y6, y7, y8, rfl⟩ : ∃ y0 y1 y2 y3 y4 y5 y6 y7 y8, xs = [y0, y1, y2, y3, y4, y5, y6, y7, y8] := by
    match xs, hxl with
    | [y0, y1, y2, y3, y4, y5, y6, y7, y8], _ => exact ⟨y0, y1, y2, y3, y4, y5, y6, y7, y8, rfl⟩
  have g0 := hfl 0 f0 rfl
  have g1 := hfl 1 f1 rfl
  have g2 := hfl 2 f2 rfl
  have g3 := hfl 3 f3 rfl
  have g4 := hfl 4 f4 rfl
  have g5 := hfl 5 f5 rfl
  have g6 := hfl 6 f6 rfl
  have g7 := hfl 7 f7 rfl
  have g8 := hfl 8 f8 rfl
  simp [Value.cells, o0, o1, o2, o3, o4, o5, o6, o7, o8, k0, k1, k2, k3, k4, k5, k6, k7, k8] at g0 g1 g2 g3 g4 g5 g6 g7 g8
  obtain ⟨z0, e0, _, w0⟩ := DataW.trod_int u0 g0
  obtain ⟨z1, e1, _, w1⟩ := DataW.trod_int u1 g1
  obtain ⟨z2, e2, _, w2⟩ := DataW.trod_int u2 g2
  obtain ⟨z3, e3, _, w3⟩ := DataW.trod_int u3 g3
  obtain ⟨A4, n4, cc4, s4, e4, b4, m4, t4⟩ := cells_subs u4 g4 (hw 4 f4 y4 rfl rfl)
  obtain ⟨A5, n5, cc5, s5, e5, b5, m5, t5⟩ := cells_subs u5 g5 (hw 5 f5 y5 rfl rfl)
  obtain ⟨l0, l1, e6⟩ := cells_arr2 u6 Try.underlying5 (by kernel_rfl) g6 rfl
  obtain ⟨A8, n8, cc8, l8, e8, b8, _⟩ := cells_bytes u7 g7
  obtain ⟨A9, n9, cc9, l9, e9, b9, _⟩ := cells_bytes u8 g8
  have r0 := bounds_i64 w0
  have r1 := bounds_i64 w1
  have r2 := bounds_i64 w2
  have r3 := bounds_i64 w3
  obtain rfl : c0 = _ := by simpa using e0
  obtain rfl : c1 = _ := by simpa using e1
  obtain rfl : c2 = _ := by simpa using e2
  obtain rfl : c3 = _ := by simpa using e3
  obtain rfl : c4 = _ := by simpa using e4
  obtain rfl : c5 = _ := by simpa using e5
  simp only [List.cons.injEq, and_true] at e6
  obtain ⟨rfl, rfl⟩ := e6
  obtain rfl : c8 = _ := by simpa using e8
  obtain rfl : c9 = _ := by simpa using e9
  exact ⟨⟨z0, z1, z2, z3, s4, s5, l0, l1, l8, l9⟩, ⟨A4, n4, cc4, A5, n5, cc5, A8, n8, cc8, A9, n9, cc9⟩, rfl, ⟨b4, b5, b8, b9⟩, ⟨r0, r1, r2, r3, m4, m5, t4, t5⟩⟩
theorem open_str (hv : Value.okWide Try.prog W .any base 9 v) (h : DataW.Trod enc Try.prog W 0 (fun _ => true) true 9 v d p) : ∃ s : ByteArray, v = .string s ∧ s.size ≤ maxLen := by
  obtain ⟨s, e, _, _, hs⟩ := ChangeMaps.open_string Try.underlying9 hv h
  exact ⟨s, e, hs⟩
end
end Go.Proofs.Ytjbnoamoadaknaa
end

/- A struct that was handed by value and lies in a block of the call's own, the first one laid. -/
section
namespace Go.Proofs.Ytjbnoamoadaknaa
open Go.RowKit

/-- Block w.heap.size of W holds vs; what lay at w is as it was. -/
structure Box (w W : World) (T : TypeId) (vs : Array Value) : Prop where
  blk : W.heap[w.heap.size]? = some (.cells vs T (0, 0))
  B : Below w.heap.size w W
section
variable {w W W2 : World} {T : TypeId} {vs : Array Value}
theorem Box.mk_ (h : w.alloc (.cells vs T) = W) : Box w W T vs := by
  subst h
  exact ⟨heap_alloc_new w _, (Below.refl _ w).alloc (Nat.le_refl _) _⟩
theorem Box.lt (H : Box w W T vs) : w.heap.size < W.heap.size := blk_lt H.blk
theorem Box.cell (H : Box w W T vs) (i : Nat) : W.cell? ⟨w.heap.size, i, none⟩ = vs[i]? := blk_cell H.blk i
theorem Box.below (H : Box w W T vs) (hb : Below W.heap.size W W2) : Box w W2 T vs := ⟨(hb.block _ H.lt).trans H.blk, below_then H.B H.B.size hb⟩
theorem Box.grown (H : Box w W T vs) {row : Option Nat} (hg : W.grownBy W2 row) (hne : ∀ k, row = some k → w.heap.size < k) : Box w W2 T vs :=
  ⟨(hg.block _ H.lt (fun e => Nat.lt_irrefl _ (hne _ e.symm))).trans H.blk, H.B.grown hg H.B.size (fun k e => Nat.le_of_lt (hne k e))⟩
/-- Behind an append to a slice of the call's own, laid behind the box. -/
theorem Box.app (H : Box w W T vs) {B n c : Nat} {A : Option Addr} {l : List UInt8} (ho : Own W B A n c l) (hB : w.heap.size < B) (hg : W.grownBy W2 (A.map (·.block))) : Box w W2 T vs :=
  H.grown hg fun k e => by
    cases A with
    | none => cases e
    | some ad =>
      have e2 : ad.block = k := Option.some.inj e
      have := (ho.blk ad rfl).1
      omega
theorem Box.alloc_ (H : Box w W T vs) (o : Obj) : Box w (W.alloc o) T vs := H.below ((Below.refl _ W).alloc (Nat.le_refl _) o)
theorem Box.drewN (H : Box w W T vs) (n : Nat) : Box w (W.drewN n) T vs := ⟨H.blk, below_drewN H.B n⟩
theorem Box.drew (H : Box w W T vs) : Box w W.drew T vs := ⟨H.blk, H.B.drew⟩
theorem Box.bs (H : Box w W T vs) {A : Option Addr} {n c : Nat} {l : List UInt8} (h : Bs w A n c l) : Bs W A n c l := h.below H.B
end
end Go.Proofs.Ytjbnoamoadaknaa
end

/- Which hashes, algorithms and formats may be: what each small function of the literal's layer returns. -/
section
namespace Go.Proofs.Ytjbnoamoadaknaa
open Go.RowKit

/-- How long a hash is; zero: there is none. -/
def hashS (a : Int) : Int := if a = 2 then 20 else if a = 11 then 28 else if a = 8 then 32 else if a = 9 then 48 else if a = 10 then 64 else 0
def weakS (a : Int) : Bool := decide (a = 2) || decide (hashS a = 0)
def saltS (a : Int) : Int := if a = 11 then 16 else if a = 8 then 16 else if a = 9 then 24 else if a = 10 then 32 else 0
def mayS (a v : Int) : Bool := decide (0 < hashS a) && !(decide (v = 6) && weakS a)
def pubS (a : Int) : Bool := decide (a = 1) || decide (a = 27)
def fmtS (c : UInt8) : Bool := decide (c = 98) || decide (c = 116) || decide (c = 117)
theorem hashS_range (a : Int) : 0 ≤ hashS a ∧ hashS a ≤ 64 := by
  unfold hashS
  repeat' split
  all_goals omega
theorem saltS_range (a : Int) : 0 ≤ saltS a ∧ saltS a ≤ 32 := by
  unfold saltS
  repeat' split
  all_goals omega

set_option maxRecDepth 100000 in
theorem hashSize_calls (a : Int) (w : World) : Calls Try.prog 53 #[.int .i64 a] w fun e w' => e = .returned (.int .i64 (hashS a)) ∧ w = w' := by
  go_enter Try.func53, Try.ntmps53
  by_cases h1 : a = 2
  · subst h1; go_wp2; go_ret; exact ⟨rfl, rfl⟩
  by_cases h2 : a = 11
  · subst h2; go_wp2; go_ret; exact ⟨rfl, rfl⟩
  by_cases h3 : a = 8
  · subst h3; go_wp2; go_ret; exact ⟨rfl, rfl⟩
  by_cases h4 : a = 9
  · subst h4; go_wp2; go_ret; exact ⟨rfl, rfl⟩
  by_cases h5 : a = 10
  · subst h5; go_wp2; go_ret; exact ⟨rfl, rfl⟩
  · have HS := Lib.hid (show hashS a = 0 by rw [hashS, if_neg h1, if_neg h2, if_neg h3, if_neg h4, if_neg h5])
    go_wp2; go_ret; exact ⟨by rw [HS.out] <;> rfl, rfl⟩
set_option maxRecDepth 100000 in
theorem rhashSize_calls (a : Int) (w : World) : Calls Try.prog 72 #[.int .i64 a] w fun e w' => e = .returned (.int .i64 (hashS a)) ∧ w = w' := by
  go_enter Try.func72, Try.ntmps72
  by_cases h1 : a = 2
  · subst h1; go_wp2; go_ret; exact ⟨rfl, rfl⟩
  by_cases h2 : a = 11
  · subst h2; go_wp2; go_ret; exact ⟨rfl, rfl⟩
  by_cases h3 : a = 8
  · subst h3; go_wp2; go_ret; exact ⟨rfl, rfl⟩
  by_cases h4 : a = 9
  · subst h4; go_wp2; go_ret; exact ⟨rfl, rfl⟩
  by_cases h5 : a = 10
  · subst h5; go_wp2; go_ret; exact ⟨rfl, rfl⟩
  · have HS := Lib.hid (show hashS a = 0 by rw [hashS, if_neg h1, if_neg h2, if_neg h3, if_neg h4, if_neg h5])
    go_wp2; go_ret; exact ⟨by rw [HS.out] <;> rfl, rfl⟩
set_option maxRecDepth 100000 in
theorem SaltSize_calls (a : Int) (w : World) : Calls Try.prog 15 #[.int .i64 a] w fun e w' => e = .returned (.int .i64 (saltS a)) ∧ w = w' := by
  go_enter Try.func15, Try.ntmps15
  by_cases h2 : a = 11
  · subst h2; go_wp2; go_ret; exact ⟨rfl, rfl⟩
  by_cases h3 : a = 8
  · subst h3; go_wp2; go_ret; exact ⟨rfl, rfl⟩
  by_cases h4 : a = 9
  · subst h4; go_wp2; go_ret; exact ⟨rfl, rfl⟩
  by_cases h5 : a = 10
  · subst h5; go_wp2; go_ret; exact ⟨rfl, rfl⟩
  · have HS := Lib.hid (show saltS a = 0 by rw [saltS, if_neg h2, if_neg h3, if_neg h4, if_neg h5])
    go_wp2; go_ret; exact ⟨by rw [HS.out] <;> rfl, rfl⟩
set_option maxRecDepth 100000 in
theorem rSaltSize_calls (a : Int) (w : World) : Calls Try.prog 16 #[.int .i64 a] w fun e w' => e = .returned (.int .i64 (saltS a)) ∧ w = w' := by
  go_enter Try.func16, Try.ntmps16
  by_cases h2 : a = 11
  · subst h2; go_wp2; go_ret; exact ⟨rfl, rfl⟩
  by_cases h3 : a = 8
  · subst h3; go_wp2; go_ret; exact ⟨rfl, rfl⟩
  by_cases h4 : a = 9
  · subst h4; go_wp2; go_ret; exact ⟨rfl, rfl⟩
  by_cases h5 : a = 10
  · subst h5; go_wp2; go_ret; exact ⟨rfl, rfl⟩
  · have HS := Lib.hid (show saltS a = 0 by rw [saltS, if_neg h2, if_neg h3, if_neg h4, if_neg h5])
    go_wp2; go_ret; exact ⟨by rw [HS.out] <;> rfl, rfl⟩

set_option maxRecDepth 100000 in
theorem Weak_calls (a : Int) (w : World) : Calls Try.prog 54 #[.int .i64 a] w fun e w' => e = .returned (.bool (weakS a)) ∧ w = w' := by
  have HC := Lib.hid (hashSize_calls a w)
  have HW := Lib.hid (show weakS a = (decide (a = 2) || decide (hashS a = 0)) from rfl)
  generalize hashS a = s at HC HW
  go_enter Try.func54, Try.ntmps54
  by_cases h1 : a = 2
  · subst h1; go_wp2; go_ret; exact ⟨rfl, rfl⟩
  by_cases h2 : s = 0
  · subst h2
    go_wp2_with (go_at_call 53; refine HC.out.mono ?_; rintro e w1 ⟨rfl, rfl⟩); go_ret; exact ⟨by rw [HW.out]; simp, rfl⟩
  · go_wp2_with (go_at_call 53; refine HC.out.mono ?_; rintro e w1 ⟨rfl, rfl⟩); go_ret; exact ⟨by rw [HW.out]; simp [h1, h2], rfl⟩
set_option maxRecDepth 100000 in
theorem rWeak_calls (a : Int) (w : World) : Calls Try.prog 73 #[.int .i64 a] w fun e w' => e = .returned (.bool (weakS a)) ∧ w = w' := by
  have HC := Lib.hid (rhashSize_calls a w)
  have HW := Lib.hid (show weakS a = (decide (a = 2) || decide (hashS a = 0)) from rfl)
  generalize hashS a = s at HC HW
  go_enter Try.func73, Try.ntmps73
  by_cases h1 : a = 2
  · subst h1; go_wp2; go_ret; exact ⟨rfl, rfl⟩
  by_cases h2 : s = 0
  · subst h2
    go_wp2_with (go_at_call 72; refine HC.out.mono ?_; rintro e w1 ⟨rfl, rfl⟩); go_ret; exact ⟨by rw [HW.out]; simp, rfl⟩
  · go_wp2_with (go_at_call 72; refine HC.out.mono ?_; rintro e w1 ⟨rfl, rfl⟩); go_ret; exact ⟨by rw [HW.out]; simp [h1, h2], rfl⟩

theorem fmt_eq (c k : UInt8) : ((c.toNat : Int) == (k.toNat : Int)) = decide (c = k) := by
  by_cases h : c = k
  · subst h; simp
  · simp only [h, decide_false, beq_eq_false_iff_ne]
    intro e
    exact h (UInt8.toNat_inj.1 (by omega))
/-- How many bytes a one-pass packet's salt and issuer have, by its version. -/
def sizeS (v a : Int) : Int × Int × Bool := if v = 3 then (0, 8, true) else if v = 6 then (saltS a, 32, true) else (0, 0, false)
end Go.Proofs.Ytjbnoamoadaknaa
end
