/- What a statement's row opens: a literal, a one-pass packet. -/
import Derived.Test.YtegbncngencfnaaOu
import Derived.Lib.SmallJoins
namespace Go.Proofs.Ytegbncngencfnaa
open Go.Joins Go.ChangeShapes Go.WideShapes Go.ChangeAt Go.RowKit
set_option maxRecDepth 100000
section
variable {H : Type} {enc : TypeId × Value → H} {W : World} {base : Nat} {v : Value} {d : DataW H} {p : List MemPlace}
theorem open_lit (hv : Value.okWide Try.prog W .any base 35 v) (h : DataW.Trod enc Try.prog W 0 (fun _ => true) true 35 v d p) :
    ∃ (x : UInt8) (An : Option Addr) (nn cn dd : Nat) (Ad : Option Addr) (nd cd : Nat) (name data : List UInt8), v = .agg #[.int .u8 (x.toNat : Int), .slice An nn cn, .int .u32 (dd : Int), .slice Ad nd cd] ∧ Bs W An nn cn name ∧ dd < 4294967296 ∧ Bs W Ad nd cd data := by
  obtain ⟨f0, f1, f2, f3, hs, hone, u0, u1, u2, u3⟩ : ∃ f0 f1 f2 f3 : Field, Try.prog.underlying 35 = some (.struct #[f0, f1, f2, f3]) ∧ Go.Deep.oneCellFields Try.prog #[f0, f1, f2, f3] = true ∧ Try.prog.underlying f0.type = some (.int .u8) ∧ Try.prog.underlying f1.type = some (.slice 5) ∧ Try.prog.underlying f2.type = some (.int .u32) ∧ Try.prog.underlying f3.type = some (.slice 5) :=
    ⟨_, _, _, _, Try.underlying35, by kernel_rfl, by kernel_rfl, by kernel_rfl, by kernel_rfl, by kernel_rfl⟩
  obtain ⟨v0, v1, v2, v3, y0, y1, y2, y3, n, rfl, _, _, g0, g1, g2, g3⟩ := Go.Joins.open_agg4 hs hone (by kernel_rfl) hv h
  obtain ⟨z0, e0, _, w0⟩ := DataW.trod_int u0 g0
  obtain ⟨A1, n1, c1, l1, e1, b1, _⟩ := cells_bytes u1 g1
  obtain ⟨z2, e2, _, w2⟩ := DataW.trod_int u2 g2
  obtain ⟨A3, n3, c3, l3, e3, b3, _⟩ := cells_bytes u3 g3
  have hb0 := bounds_u8 w0
  have hb2 := bounds_u32 w2
  obtain ⟨k0, rfl⟩ := Int.eq_ofNat_of_zero_le hb0.1
  obtain ⟨k2, rfl⟩ := Int.eq_ofNat_of_zero_le hb2.1
  obtain rfl : v0 = _ := by simpa using e0
  obtain rfl : v1 = _ := by simpa using e1
  obtain rfl : v2 = _ := by simpa using e2
  obtain rfl : v3 = _ := by simpa using e3
  exact ⟨UInt8.ofNat k0, A1, n1, c1, k2, A3, n3, c3, l1, l3, by rw [UInt8.toNat_ofNat_of_lt' (by simp [UInt8.size]; omega)], b1, by omega, b3⟩
end
end Go.Proofs.Ytegbncngencfnaa
