/- What a statement's row opens: packets. -/
import Derived.Test.YtcakdlfhmdkocaaOp
import Derived.Test.YtcakdlfhmdkocaaPk
import Derived.Deep.SlicePairs
namespace Go.Proofs.Ytcakdlfhmdkocaa
open Go.ChangeShapes Go.WideShapes Go.ChangeAt Go.RowKit
set_option maxRecDepth 100000
theorem packet_fields : ∃ f0 f1 : Field, Try.prog.underlying 61 = some (.struct #[f0, f1]) ∧ f0.offset = 0 ∧ f1.offset = 1 ∧ Try.prog.cellsOf f0.type = 1 ∧ Try.prog.cellsOf f1.type = 1 ∧ Try.prog.underlying f0.type = some (.int .i64) ∧ Try.prog.underlying f1.type = some (.slice 5) :=
  ⟨_, _, Try.underlying61, rfl, rfl, by kernel_rfl, by kernel_rfl, by kernel_rfl, by kernel_rfl⟩
/-- The bytes that lie at a field. -/
theorem cells_bytes {H : Type} {enc : TypeId × Value → H} {W : World} {t : TypeId} {fuel : Nat} {cs : List Value} {x : DataW H × List MemPlace} (ht : Try.prog.underlying t = some (.slice 5)) (hf : DataW.trod enc Try.prog W 0 (fun _ => true) true fuel t cs = some x) :
    ∃ (A : Option Addr) (n c : Nat) (l : List UInt8), cs = [.slice A n c] ∧ Bs W A n c l := by
  have lt0 := DataW.trod_lt fuel _ _ _ hf
  rcases open_ints ht Try.underlying5 (by kernel_rfl) hf with ⟨hcs, _⟩ | ⟨x, l, c, zs, hcs, _, hl, hm, hz, hx, hcell, hwz⟩
  · exact ⟨none, 0, 0, [], hcs, Bs.nil_ W⟩
  · have hzl : zs.length = c := by simpa using hz
    have hlen : (zs.take l).length = l := by rw [List.length_take]; omega
    refine ⟨some x, l, c, (zs.take l).map fun z => UInt8.ofNat z.toNat, hcs, ?_, by simpa using hlen⟩
    have e : bvs ((zs.take l).map fun z => UInt8.ofNat z.toNat) = (zs.take l).map (Value.int .u8) := by
      simp only [bvs, List.map_map]
      refine List.map_congr_left fun z hz => ?_
      have hb := bounds_u8 (hwz z (List.mem_of_mem_take hz))
      obtain ⟨n, rfl⟩ := Int.eq_ofNat_of_zero_le hb.1
      simp only [Function.comp, bv, Int.toNat_natCast]
      rw [UInt8.toNat_ofNat_of_lt' (by simp [UInt8.size]; omega)]
    rw [e]
    refine ⟨by simp; omega, hm, fun hn => ⟨x, rfl, ?_, fun j u hu => ?_⟩⟩
    · have h0 : 0 < zs.length := by simp at hn; omega
      exact World.block_lt_of_cell? W x (by simpa [Addr.add] using hcell 0 h0)
    · rw [List.getElem?_map, List.getElem?_take] at hu
      split at hu
      · rename_i hj
        have hjz : j < zs.length := by omega
        rw [List.getElem?_eq_getElem hjz] at hu
        simp only [Option.map_some, Option.some.injEq] at hu
        rw [hcell j hjz, ← hu]
        simp [List.getD, List.getElem?_eq_getElem hjz]
      · simp at hu
theorem open_packets {H : Type} {enc : TypeId × Value → H} {W : World} {base : Nat} {v : Value} {d : DataW H} {p : List MemPlace} {t : TypeId} (ht : Try.prog.underlying t = some (.slice 61)) (hv : Value.okWide Try.prog W .any base t v) (h : DataW.Trod enc Try.prog W 0 (fun _ => true) true t v d p) :
    ∃ (A : Option Addr) (n c : Nat) (ps : List (Int × List UInt8)), v = .slice A n c ∧ Ps W A n ps ∧ n ≤ 9223372036854775807 := by
  obtain ⟨f0, f1, hs, o0, o1, c0, c1, u0, u1⟩ := packet_fields
  obtain ⟨a0, len0, cap0, rfl⟩ := okWide_slice ht hv
  obtain ⟨fuel, hf⟩ := h
  rcases Go.Deep.open_slice_pairs ht hs (by kernel_rfl) o0 o1 c0 c1 hf with ⟨hcs, _⟩ | ⟨a, len, cap, m, n, V0, V1, D0, D1, P0, P1, hcs, _, hl, hm, hmm, _, hx⟩
  · simp [Value.cells] at hcs
    obtain ⟨rfl, rfl, rfl⟩ := hcs
    exact ⟨none, 0, 0, [], rfl, ⟨rfl, fun k hk => by simp at hk⟩, by omega⟩
  · simp [Value.cells] at hcs
    obtain ⟨rfl, rfl, rfl⟩ := hcs
    have hmc : m = cap0 := by simpa using hmm
    have hi : ∀ i, ∃ q : Int × List UInt8, i < len0 → V0 i = .int .i64 q.1 ∧ ∃ Ak nk ck, V1 i = .slice Ak nk ck ∧ Bs W Ak nk ck q.2 := fun i => by
      by_cases hi : i < len0
      · obtain ⟨_, _, h0, h1⟩ := hx i (by omega)
        obtain ⟨x, hx0, _⟩ := DataW.trod_int u0 h0
        obtain ⟨Ak, nk, ck, l, hy0, hb⟩ := cells_bytes u1 h1
        exact ⟨(x, l), fun _ => ⟨by simpa using hx0, Ak, nk, ck, by simpa using hy0, hb⟩⟩
      · exact ⟨(0, []), fun h => absurd h hi⟩
    obtain ⟨q, hq⟩ := Classical.axiomOfChoice hi
    refine ⟨some a, len0, cap0, (List.range len0).map q, rfl, ⟨by simp, fun k hk => ?_⟩, by unfold maxLen at hm; omega⟩
    have hk' : k < len0 := by simpa using hk
    obtain ⟨e0, Ak, nk, ck, e1, hb1⟩ := hq k hk'
    obtain ⟨q0, q1, _, _⟩ := hx k (by omega)
    obtain ⟨q2, _, _, _⟩ := hx 0 (by omega)
    obtain ⟨b, off, spot⟩ := a
    have hsp : spot = none := by simpa [Addr.add] using World.cell?_spot q2
    subst hsp
    have hb : b < W.heap.size := World.block_lt_of_cell? W _ (by simpa [Addr.add] using q2)
    have ad : ∀ j, (⟨b, off, none⟩ : Addr).add j = ⟨b, off + j, none⟩ := fun j => by
      unfold Addr.add; split
      · rename_i h0; rw [h0]; rfl
      · rfl
    rw [ad] at q0 q1
    refine ⟨b, off, Ak, nk, ck, rfl, hb, ?_, ?_, ?_⟩
    · rw [q0, e0]; simp
    · rw [Nat.add_assoc, q1, e1]
    · simpa using hb1
end Go.Proofs.Ytcakdlfhmdkocaa
