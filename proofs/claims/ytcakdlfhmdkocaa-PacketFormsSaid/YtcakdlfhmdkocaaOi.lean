/- What a statement's row opens: slices of ints. -/
import Derived.Test.YtcakdlfhmdkocaaOp
import Derived.Test.YtcakdlfhmdkocaaIw
namespace Go.Proofs.Ytcakdlfhmdkocaa
open Go.ChangeShapes Go.WideShapes Go.ChangeAt Go.RowKit
set_option maxRecDepth 100000
theorem open_is {H : Type} {enc : TypeId × Value → H} {W : World} {base : Nat} {v : Value} {d : DataW H} {p : List MemPlace} {t : TypeId} (ht : Try.prog.underlying t = some (.slice 3)) (hv : Value.okWide Try.prog W .any base t v) (h : DataW.Trod enc Try.prog W 0 (fun _ => true) true t v d p) :
    ∃ (A : Option Addr) (n c : Nat) (zs : List Int), v = .slice A n c ∧ Is W A n c zs ∧ ∀ z ∈ zs, -9223372036854775808 ≤ z ∧ z ≤ 9223372036854775807 := by
  obtain ⟨A, c, zs, rfl, hr, hw⟩ := open_nums ht Try.underlying3 (by kernel_rfl) hv h
  exact ⟨A, _, c, zs, rfl, ⟨hr, rfl⟩, fun z hz => bounds_i64 (hw z hz)⟩
end Go.Proofs.Ytcakdlfhmdkocaa
