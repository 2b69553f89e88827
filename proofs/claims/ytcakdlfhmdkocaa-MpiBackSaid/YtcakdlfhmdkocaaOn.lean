/- What a statement's row opens: numbers. -/
import Derived.Test.YtcakdlfhmdkocaaOp
import Derived.Test.YtcakdlfhmdkocaaNm
namespace Go.Proofs.Ytcakdlfhmdkocaa
open Go.ChangeShapes Go.WideShapes Go.ChangeAt Go.RowKit
set_option maxRecDepth 100000
theorem open_nat {H : Type} {enc : TypeId × Value → H} {W : World} {base : Nat} {v : Value} {d : DataW H} {p : List MemPlace} {t : TypeId} (ht : Try.prog.underlying t = some (.slice 63)) (hv : Value.okWide Try.prog W .any base t v) (h : DataW.Trod enc Try.prog W 0 (fun _ => true) true t v d p) :
    ∃ (A : Option Addr) (n c : Nat) (xs : List Nat), v = .slice A n c ∧ Nr W .u32 A n c xs ∧ Lo 4294967296 xs := by
  obtain ⟨A, c, zs, rfl, hr, hw⟩ := open_nums ht Try.underlying63 (by kernel_rfl) hv h
  have e : nvs .u32 (zs.map Int.toNat) = zs.map (Value.int .u32) := by
    simp only [nvs, List.map_map]
    refine List.map_congr_left fun z hz => ?_
    have hb := bounds_u32 (hw z hz)
    simp only [Function.comp]
    rw [Int.toNat_of_nonneg hb.1]
  refine ⟨A, _, c, zs.map Int.toNat, rfl, ⟨by rw [e]; exact hr, by simp⟩, fun x hx => ?_⟩
  obtain ⟨z, hz, rfl⟩ := List.mem_map.1 hx
  have hb := bounds_u32 (hw z hz)
  omega
end Go.Proofs.Ytcakdlfhmdkocaa
