/- What a row opens: an array of three bytes. -/
import Derived.Test.YthopnficbgkebaaOp
namespace Go.Proofs.Ythopnficbgkebaa
open Go.ChangeShapes Go.WideShapes Go.ChangeAt Go.RowKit

theorem open_arr3 {H : Type} {enc : TypeId × Value → H} {W : World} {base : Nat} {v : Value} {d : DataW H} {p : List MemPlace} {t e : TypeId} (ht : Try.prog.underlying t = some (.array 3 e)) (he : Try.prog.underlying e = some (.int .u8)) (hc : Try.prog.cellsOf t = 3) (hc1 : Try.prog.cellsOf e = 1)
    (hv : Value.okWide Try.prog W .any base t v) (h : DataW.Trod enc Try.prog W 0 (fun _ => true) true t v d p) : ∃ a b c : UInt8, v = .agg #[.int .u8 (a.toNat : Int), .int .u8 (b.toNat : Int), .int .u8 (c.toNat : Int)] := by
  simp only [Value.okWide, ht] at hv
  obtain ⟨cs, rfl, hsz, _⟩ := hv
  rw [hc] at hsz
  obtain ⟨fuel, hf⟩ := h
  obtain ⟨xs, m, _, _, hl, hxl, hg⟩ := DataW.trod_array ht hf
  have one : ∀ i, i < 3 → ∃ b : UInt8, cs[i]? = some (.int .u8 (b.toNat : Int)) := by
    intro i hi
    have h1 := hg i hi
    rw [hc1] at h1
    have hi2 : i < cs.size := by omega
    have hx : xs[i]? = some (xs[i]'(by omega)) := List.getElem?_eq_getElem (by omega)
    rw [hx] at h1
    obtain ⟨n, hn, _, w⟩ := DataW.trod_int he h1
    have hw := bounds_u8 w
    obtain ⟨k, rfl⟩ := Int.eq_ofNat_of_zero_le hw.1
    refine ⟨UInt8.ofNat k, ?_⟩
    simp only [Nat.mul_one, Value.cells] at hn
    have e1 : (cs.toList.drop i).take 1 = [cs[i]] := by
      rw [List.drop_eq_getElem_cons (by simpa using hi2)]
      simp
    rw [e1] at hn
    rw [UInt8.toNat_ofNat_of_lt' (by simp [UInt8.size]; omega), Array.getElem?_eq_getElem hi2]
    simpa using hn
  obtain ⟨a, ha⟩ := one 0 (by omega)
  obtain ⟨b, hb⟩ := one 1 (by omega)
  obtain ⟨c, hc'⟩ := one 2 (by omega)
  refine ⟨a, b, c, ?_⟩
  congr 1
  apply Array.ext (by simpa using hsz)
  intro i h1 h2
  match i, h2 with
  | 0, _ => rw [Array.getElem?_eq_getElem h1] at ha; simpa using ha
  | 1, _ => rw [Array.getElem?_eq_getElem h1] at hb; simpa using hb
  | 2, _ => rw [Array.getElem?_eq_getElem h1] at hc'; simpa using hc'
end Go.Proofs.Ythopnficbgkebaa
