/- A struct that was handed by value and lies in a block of the call's own, the first one laid. -/
import Derived.Test.YtegbncngencfnaaCur
import Derived.Lib.ItoaWalk
import Derived.Deep.Cut
namespace Go.Proofs.Ytegbncngencfnaa
open Go.RowKit

/-- Block w.heap.size of W holds vs; what lay at w is as it was. -/
structure Box (w W : World) (T : TypeId) (vs : Array Value) : Prop where
  blk : W.heap[w.heap.size]? = some (.cells vs T (0, 0))
  B : Below w.heap.size w W
section
variable {w W W2 : World} {T : TypeId} {vs : Array Value}
theorem Box.mk_ (h : w.alloc (.cells vs T) = W) : Box w W T vs := by
  subst h
  exact ⟨heap_alloc_new w _, (Below.refl _ w).alloc (Nat.le_refl _) _⟩
theorem Box.lt (H : Box w W T vs) : w.heap.size < W.heap.size := blk_lt H.blk
theorem Box.cell (H : Box w W T vs) (i : Nat) : W.cell? ⟨w.heap.size, i, none⟩ = vs[i]? := blk_cell H.blk i
theorem Box.below (H : Box w W T vs) (hb : Below W.heap.size W W2) : Box w W2 T vs := ⟨(hb.block _ H.lt).trans H.blk, below_then H.B H.B.size hb⟩
theorem Box.grown (H : Box w W T vs) {row : Option Nat} (hg : W.grownBy W2 row) (hne : ∀ k, row = some k → w.heap.size < k) : Box w W2 T vs :=
  ⟨(hg.block _ H.lt (fun e => Nat.lt_irrefl _ (hne _ e.symm))).trans H.blk, H.B.grown hg H.B.size (fun k e => Nat.le_of_lt (hne k e))⟩
/-- Behind an append to a slice of the call's own, laid behind the box. -/
theorem Box.app (H : Box w W T vs) {B n c : Nat} {A : Option Addr} {l : List UInt8} (ho : Own W B A n c l) (hB : w.heap.size < B) (hg : W.grownBy W2 (A.map (·.block))) : Box w W2 T vs :=
  H.grown hg fun k e => by
    cases A with
    | none => cases e
    | some ad =>
      have e2 : ad.block = k := Option.some.inj e
      have := (ho.blk ad rfl).1
      omega
theorem Box.alloc_ (H : Box w W T vs) (o : Obj) : Box w (W.alloc o) T vs := H.below ((Below.refl _ W).alloc (Nat.le_refl _) o)
theorem Box.drewN (H : Box w W T vs) (n : Nat) : Box w (W.drewN n) T vs := ⟨H.blk, below_drewN H.B n⟩
theorem Box.drew (H : Box w W T vs) : Box w W.drew T vs := ⟨H.blk, H.B.drew⟩
theorem Box.bs (H : Box w W T vs) {A : Option Addr} {n c : Nat} {l : List UInt8} (h : Bs w A n c l) : Bs W A n c l := h.below H.B
end
end Go.Proofs.Ytegbncngencfnaa
