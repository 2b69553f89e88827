/- What a statement's row opens: subpackets, each body within what memory bears. -/
import Derived.Test.YtegbncngencfnaaOp
import Derived.Test.YtegbncngencfnaaSk
import Derived.Deep.Slices
import Derived.SizedLaws
namespace Go.Proofs.Ytegbncngencfnaa
open Go.ChangeShapes Go.WideShapes Go.ChangeAt Go.RowKit
set_option maxRecDepth 100000
theorem sub_fields : ∃ f0 f1 f2 : Field, Try.prog.underlying 78 = some (.struct #[f0, f1, f2]) ∧ f0.offset = 0 ∧ f1.offset = 1 ∧ f2.offset = 2 ∧ Try.prog.cellsOf f0.type = 1 ∧ Try.prog.cellsOf f1.type = 1 ∧ Try.prog.cellsOf f2.type = 1 ∧
    Try.prog.underlying f0.type = some (.int .i64) ∧ Try.prog.underlying f1.type = some .bool ∧ Try.prog.underlying f2.type = some (.slice 5) :=
  ⟨_, _, _, Try.underlying78, rfl, rfl, rfl, by kernel_rfl, by kernel_rfl, by kernel_rfl, by kernel_rfl, by kernel_rfl, by kernel_rfl⟩
/-- The bytes that lie at a field, and the datum they read as. -/
theorem cells_bytes {H : Type} {enc : TypeId × Value → H} {W : World} {t : TypeId} {fuel : Nat} {cs : List Value} {x : DataW H × List MemPlace} (ht : Try.prog.underlying t = some (.slice 5)) (hf : DataW.trod enc Try.prog W 0 (fun _ => true) true fuel t cs = some x) :
    ∃ (A : Option Addr) (n c : Nat) (l : List UInt8), cs = [.slice A n c] ∧ Bs W A n c l ∧ ∀ B, (∀ q ∈ DataW.weights Try.prog t x.1, q ≤ B) → n ≤ B := by
  rcases open_ints ht Try.underlying5 (by kernel_rfl) hf with ⟨hcs, _⟩ | ⟨x, l, c, zs, hcs, _, hl, hm, hz, hx, hcell, hwz⟩
  · exact ⟨none, 0, 0, [], hcs, Bs.nil_ W, fun B _ => Nat.zero_le B⟩
  · have hzl : zs.length = c := by simpa using hz
    have hlen : (zs.take l).length = l := by rw [List.length_take]; omega
    refine ⟨some x, l, c, (zs.take l).map fun z => UInt8.ofNat z.toNat, hcs, ⟨?_, by simpa using hlen⟩, fun B hB => ?_⟩
    · have e : bvs ((zs.take l).map fun z => UInt8.ofNat z.toNat) = (zs.take l).map (Value.int .u8) := by
        simp only [bvs, List.map_map]
        refine List.map_congr_left fun z hz => ?_
        have hb := bounds_u8 (hwz z (List.mem_of_mem_take hz))
        obtain ⟨n, rfl⟩ := Int.eq_ofNat_of_zero_le hb.1
        simp only [Function.comp, bv, Int.toNat_natCast]
        rw [UInt8.toNat_ofNat_of_lt' (by simp [UInt8.size]; omega)]
      rw [e]
      refine ⟨by simp; omega, hm, fun hn => ⟨x, rfl, ?_, fun j u hu => ?_⟩⟩
      · have h0 : 0 < zs.length := by simp at hn; omega
        exact World.block_lt_of_cell? W x (by simpa [Addr.add] using hcell 0 h0)
      · rw [List.getElem?_map, List.getElem?_take] at hu
        split at hu
        · rename_i hj
          have hjz : j < zs.length := by omega
          rw [List.getElem?_eq_getElem hjz] at hu
          simp only [Option.map_some, Option.some.injEq] at hu
          rw [hcell j hjz, ← hu]
          simp [List.getD, List.getElem?_eq_getElem hjz]
        · simp at hu
    · have hby : Try.prog.bytesOf 5 = 1 := by kernel_rfl
      rw [hx] at hB
      have := hB ((zs.take l).length + (zs.drop l).length) (by simp [DataW.weights, ht, hby, lits])
      omega

theorem weights_mem_all {H : Type} {P : Program} {e : TypeId} : ∀ {ds : List (DataW H)} {d : DataW H}, d ∈ ds → ∀ n ∈ d.weights P e, n ∈ DataW.weightsAll P e ds
  | d0 :: ds, d, hd, n, hn => by
    simp only [DataW.weightsAll, List.mem_append]
    rcases List.mem_cons.1 hd with rfl | hd
    · exact .inl hn
    · exact .inr (weights_mem_all hd n hn)

theorem open_subs {H : Type} {enc : TypeId × Value → H} {W : World} {base : Nat} {v : Value} {d : DataW H} {p : List MemPlace} {t : TypeId} {B : Nat} (ht : Try.prog.underlying t = some (.slice 78)) (hv : Value.okWide Try.prog W .any base t v) (h : DataW.Trod enc Try.prog W 0 (fun _ => true) true t v d p) (hB : ∀ q ∈ d.weights Try.prog t, q ≤ B) :
    ∃ (A : Option Addr) (n c : Nat) (ss : List SubV), v = .slice A n c ∧ Ss W A n ss ∧ n ≤ 9223372036854775807 ∧ ∀ s ∈ ss, s.2.2.length ≤ B := by
  obtain ⟨f0, f1, f2, hs, o0, o1, o2, c0, c1, c2, u0, u1, u2⟩ := sub_fields
  have ce : Try.prog.cellsOf 78 = 3 := by kernel_rfl
  obtain ⟨a0, len0, cap0, rfl⟩ := okWide_slice ht hv
  obtain ⟨fuel, hf⟩ := h
  rcases Go.Deep.open_slice ht hf with ⟨hcs, _⟩ | ⟨a, len, cap, m, n, D, Pl, hcs, _, hl, hm, hmm, hd, hx⟩
  · simp [Value.cells] at hcs
    obtain ⟨rfl, rfl, rfl⟩ := hcs
    exact ⟨none, 0, 0, [], rfl, ⟨rfl, fun k hk => by simp at hk⟩, by omega, fun s hs => by cases hs⟩
  · simp [Value.cells] at hcs
    obtain ⟨rfl, rfl, rfl⟩ := hcs
    have hmc : m = cap0 := by simpa using hmm
    simp only [Prod.mk.injEq] at hd
    have hi : ∀ i, ∃ s : SubV, i < len0 → s.2.2.length ≤ B ∧ ∃ Ak nk ck, W.cell? (a.add (i * 3)) = some (.int .i64 s.1) ∧ W.cell? (a.add (i * 3 + 1)) = some (.bool s.2.1) ∧ W.cell? (a.add (i * 3 + 2)) = some (.slice Ak nk ck) ∧ Bs W Ak nk ck s.2.2 := fun i => by
      by_cases hi : i < len0
      · obtain ⟨cs', h1, h2⟩ := hx i (by omega)
        rw [ce] at h1
        obtain ⟨_, hlen, hcell⟩ := World.cells?_some h1
        obtain ⟨xs, k, hk, hxy, _, hxl, hfl⟩ := DataW.trod_struct hs h2
        match xs, hxl, cs', hlen with
        | [y0, y1, y2], _, [v0, v1, v2], _ =>
          have g0 := hfl 0 f0 rfl
          have g1 := hfl 1 f1 rfl
          have g2 := hfl 2 f2 rfl
          simp [o0, o1, o2, c0, c1, c2] at g0 g1 g2
          have e0 := hcell 0 (by omega)
          have e1 := hcell 1 (by omega)
          have e2 := hcell 2 (by omega)
          rw [Go.Deep.add_add] at e0 e1 e2
          simp only [Prod.mk.injEq] at hxy
          obtain ⟨z, hz0, _⟩ := DataW.trod_int u0 g0
          obtain ⟨bb, hb0, _⟩ := DataW.trod_bool u1 g1
          obtain ⟨Ak, nk, ck, l, hy0, hb, hw⟩ := cells_bytes u2 g2
          refine ⟨(z, bb, l), fun _ => ⟨?_, Ak, nk, ck, ?_, ?_, ?_, hb⟩⟩
          · rw [hb.2]
            refine hw B fun q hq => hB q ?_
            rw [hd.1]
            have hDi : D i = .agg [y0.1, y1.1, y2.1] := by simpa using hxy.1
            have hq2 : q ∈ (D i).weights Try.prog 78 := by
              rw [hDi]
              simp only [DataW.weights, hs]
              exact DataW.weights_mem_each (j := 2) rfl rfl q hq
            simp only [DataW.weights, ht]
            refine List.mem_cons_of_mem _ (List.mem_append.2 (.inl ?_))
            exact weights_mem_all (List.mem_map.2 ⟨i, List.mem_range.2 hi, rfl⟩) q hq2
          · have e : v0 = .int .i64 z := by simpa using hz0
            rw [← e]; simpa [ce] using e0
          · have e : v1 = .bool bb := by simpa using hb0
            rw [← e]; simpa [ce] using e1
          · have e : v2 = .slice Ak nk ck := by simpa using hy0
            rw [← e]; simpa [ce] using e2
      · exact ⟨(0, false, []), fun h => absurd h hi⟩
    obtain ⟨q, hq⟩ := Classical.axiomOfChoice hi
    refine ⟨some a, len0, cap0, (List.range len0).map q, rfl, ⟨by simp, fun k hk => ?_⟩, by unfold maxLen at hm; omega, fun s hs => ?_⟩
    · have hk' : k < len0 := by simpa using hk
      obtain ⟨_, Ak, nk, ck, q0, q1, q2, hb1⟩ := hq k hk'
      obtain ⟨_, _, _, _, p0, _⟩ := hq 0 (by omega)
      obtain ⟨b, off, spot⟩ := a
      have hsp : spot = none := by simpa [Addr.add] using World.cell?_spot p0
      subst hsp
      have hb : b < W.heap.size := World.block_lt_of_cell? W _ (by simpa [Addr.add] using p0)
      have ad : ∀ j, (⟨b, off, none⟩ : Addr).add j = ⟨b, off + j, none⟩ := fun j => by
        unfold Addr.add; split
        · rename_i h0; rw [h0]; rfl
        · rfl
      rw [ad] at q0 q1 q2
      refine ⟨b, off, Ak, nk, ck, rfl, hb, ?_, ?_, ?_, ?_⟩
      · simpa using q0
      · rw [Nat.add_assoc]; simpa using q1
      · rw [Nat.add_assoc]; simpa using q2
      · simpa using hb1
    · obtain ⟨i, hi2, rfl⟩ := List.mem_map.1 hs
      exact (hq i (List.mem_range.1 hi2)).1
end Go.Proofs.Ytegbncngencfnaa
