/- A slice of a slice of bytes, its address under one name. -/
import Derived.Test.YtegbncngencfnaaCur
namespace Go.Proofs.Ytegbncngencfnaa
open Go.RowKit

/-- A slice of a slice, its address under one name. -/
theorem slice_mid (A : Option Addr) (n c i j : Nat) (hij : i ≤ j) (hj : j ≤ c) (x y : Int) (hx : x = i) (hy : y = j) (W : World) :
    (Instr.sliceAt 22 (.slice A n c) (some (.int .i64 x)) (some (.int .i64 y)) none).run Try.prog W = .ok (.slice (if c = i then A else A.map (·.add i)) (j - i) (c - i)) W := by
  subst hx; subst hy
  rw [run_sliceAt_slice W 22 _ _ _ _ (by kernel_rfl), run_slice_lh W 22 A n c (by kernel_rfl) .i64 .i64 i j (by omega) (by omega) (by omega)]
  have hz : ∀ w, (sizeOf (Try.prog.elem 22)).run Try.prog w = .ok 1 w := fun w => by kernel_rfl
  rw [hz]
  simp [Result.andThen, sliced]
theorem slice_from (A : Option Addr) (n c i : Nat) (hi : i ≤ n) (x : Int) (hx : x = i) (W : World) :
    (Instr.sliceAt 22 (.slice A n c) (some (.int .i64 x)) none none).run Try.prog W = .ok (.slice (if c = i then A else A.map (·.add i)) (n - i) (c - i)) W := by
  subst hx
  rw [run_sliceAt_slice W 22 _ _ _ _ (by kernel_rfl), run_slice_l W 22 A n c (by kernel_rfl) .i64 i (by omega) (by omega)]
  have hz : ∀ w, (sizeOf (Try.prog.elem 22)).run Try.prog w = .ok 1 w := fun w => by kernel_rfl
  rw [hz]
  simp [Result.andThen, sliced]

/-- Where such an address lies. -/
theorem map_blk {A a2 : Option Addr} {P : Prop} [Decidable P] {k : Nat} (h : a2 = if P then A else A.map (·.add k)) : ∀ x, a2 = some x → ∃ a1, A = some a1 ∧ x.block = a1.block := fun x e => by
  rw [h] at e
  split at e
  · exact ⟨x, e, rfl⟩
  · cases A with
    | none => cases e
    | some a1 =>
      injection e with e
      exact ⟨a1, rfl, by rw [← e, block_of_add]⟩
end Go.Proofs.Ytegbncngencfnaa
