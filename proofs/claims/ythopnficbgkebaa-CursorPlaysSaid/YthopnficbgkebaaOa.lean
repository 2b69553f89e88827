/- What a statement's row opens: a script of acts. -/
import Derived.Test.YthopnficbgkebaaOp
import Derived.Test.YthopnficbgkebaaLw1e
import Derived.Deep.SlicePairs
namespace Go.Proofs.Ythopnficbgkebaa
open Go.ChangeShapes Go.WideShapes Go.ChangeAt Go.RowKit
set_option maxRecDepth 100000
theorem act_fields : ∃ f0 f1 : Field, Try.prog.underlying 55 = some (.struct #[f0, f1]) ∧ f0.offset = 0 ∧ f1.offset = 1 ∧ Try.prog.cellsOf f0.type = 1 ∧ Try.prog.cellsOf f1.type = 1 ∧ Try.prog.underlying f0.type = some (.int .i64) ∧ Try.prog.underlying f1.type = some (.int .i64) :=
  ⟨_, _, Try.underlying55, rfl, rfl, by kernel_rfl, by kernel_rfl, by kernel_rfl, by kernel_rfl⟩
theorem open_acts {H : Type} {enc : TypeId × Value → H} {W : World} {base : Nat} {v : Value} {d : DataW H} {p : List MemPlace} {t : TypeId} (ht : Try.prog.underlying t = some (.slice 55)) (hv : Value.okWide Try.prog W .any base t v) (h : DataW.Trod enc Try.prog W 0 (fun _ => true) true t v d p) :
    ∃ (A : Option Addr) (n c : Nat) (zs : List (Int × Int)), v = .slice A n c ∧ As W A n zs ∧ n ≤ 9223372036854775807 := by
  obtain ⟨f0, f1, hs, o0, o1, c0, c1, u0, u1⟩ := act_fields
  obtain ⟨a0, len0, cap0, rfl⟩ := okWide_slice ht hv
  obtain ⟨fuel, hf⟩ := h
  rcases Go.Deep.open_slice_pairs ht hs (by kernel_rfl) o0 o1 c0 c1 hf with ⟨hcs, _⟩ | ⟨a, len, cap, m, n, V0, V1, D0, D1, P0, P1, hcs, _, hl, hm, hmm, _, hx⟩
  · simp [Value.cells] at hcs
    obtain ⟨rfl, rfl, rfl⟩ := hcs
    exact ⟨none, 0, 0, [], rfl, ⟨rfl, fun k hk => by simp at hk⟩, by omega⟩
  · simp [Value.cells] at hcs
    obtain ⟨rfl, rfl, rfl⟩ := hcs
    have hmc : m = cap0 := by simpa using hmm
    have hi : ∀ i, i < len0 → ∃ x y : Int, V0 i = .int .i64 x ∧ V1 i = .int .i64 y := fun i hi => by
      obtain ⟨_, _, h0, h1⟩ := hx i (by omega)
      obtain ⟨x, hx0, _⟩ := DataW.trod_int u0 h0
      obtain ⟨y, hy0, _⟩ := DataW.trod_int u1 h1
      exact ⟨x, y, by simpa using hx0, by simpa using hy0⟩
    refine ⟨some a, len0, cap0, (List.range len0).map fun i => (intOf (V0 i), intOf (V1 i)), rfl, ⟨by simp, fun k hk => ?_⟩, by unfold maxLen at hm; omega⟩
    have hk' : k < len0 := by simpa using hk
    obtain ⟨x, y, e0, e1⟩ := hi k hk'
    obtain ⟨q0, q1, _, _⟩ := hx k (by omega)
    obtain ⟨q2, _, _, _⟩ := hx 0 (by omega)
    obtain ⟨b, off, spot⟩ := a
    have hsp : spot = none := by simpa [Addr.add] using World.cell?_spot q2
    subst hsp
    have hb : b < W.heap.size := World.block_lt_of_cell? W _ (by simpa [Addr.add] using q2)
    have ad : ∀ j, (⟨b, off, none⟩ : Addr).add j = ⟨b, off + j, none⟩ := fun j => by
      unfold Addr.add; split
      · rename_i h0; rw [h0]; rfl
      · rfl
    rw [ad] at q0 q1
    refine ⟨b, off, rfl, hb, ?_, ?_⟩
    · rw [q0, e0]; simp [intOf, e0]
    · rw [Nat.add_assoc, q1, e1]; simp [intOf, e1]
end Go.Proofs.Ythopnficbgkebaa
