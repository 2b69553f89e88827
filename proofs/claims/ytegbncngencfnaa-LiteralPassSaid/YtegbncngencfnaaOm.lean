/- What a statement's row opens: a one-pass packet. -/
import Derived.Test.YtegbncngencfnaaOl
namespace Go.Proofs.Ytegbncngencfnaa
open Go.Joins Go.ChangeShapes Go.WideShapes Go.ChangeAt Go.RowKit
set_option maxRecDepth 100000
theorem pass_fields : ∃ f0 f1 f2 f3 f4 f5 f6 : Field, Try.prog.underlying 42 = some (.struct #[f0, f1, f2, f3, f4, f5, f6]) ∧
    (f0.offset = 0 ∧ f1.offset = 1 ∧ f2.offset = 2 ∧ f3.offset = 3 ∧ f4.offset = 4 ∧ f5.offset = 5 ∧ f6.offset = 6) ∧
    (Try.prog.cellsOf f0.type = 1 ∧ Try.prog.cellsOf f1.type = 1 ∧ Try.prog.cellsOf f2.type = 1 ∧ Try.prog.cellsOf f3.type = 1 ∧ Try.prog.cellsOf f4.type = 1 ∧ Try.prog.cellsOf f5.type = 1 ∧ Try.prog.cellsOf f6.type = 1) ∧
    Try.prog.underlying f0.type = some (.int .i64) ∧ Try.prog.underlying f1.type = some (.int .i64) ∧ Try.prog.underlying f2.type = some (.int .i64) ∧ Try.prog.underlying f3.type = some (.int .i64) ∧ Try.prog.underlying f4.type = some (.slice 5) ∧ Try.prog.underlying f5.type = some (.slice 5) ∧ Try.prog.underlying f6.type = some .bool :=
  ⟨_, _, _, _, _, _, _, Try.underlying42, ⟨rfl, rfl, rfl, rfl, rfl, rfl, rfl⟩, ⟨by kernel_rfl, by kernel_rfl, by kernel_rfl, by kernel_rfl, by kernel_rfl, by kernel_rfl, by kernel_rfl⟩, by kernel_rfl, by kernel_rfl, by kernel_rfl, by kernel_rfl, by kernel_rfl, by kernel_rfl, by kernel_rfl⟩
section
variable {H : Type} {enc : TypeId × Value → H} {W : World} {base : Nat} {v : Value} {d : DataW H} {p : List MemPlace}
theorem open_pass (hv : Value.okWide Try.prog W .any base 42 v) (h : DataW.Trod enc Try.prog W 0 (fun _ => true) true 42 v d p) :
    ∃ (ve ty ha pu : Int) (As : Option Addr) (ns cs : Nat) (Ai : Option Addr) (ni ci : Nat) (la : Bool) (salt iss : List UInt8), v = .agg #[.int .i64 ve, .int .i64 ty, .int .i64 ha, .int .i64 pu, .slice As ns cs, .slice Ai ni ci, .bool la] ∧ Bs W As ns cs salt ∧ Bs W Ai ni ci iss ∧
      (-9223372036854775808 ≤ ve ∧ ve ≤ 9223372036854775807 ∧ -9223372036854775808 ≤ ty ∧ ty ≤ 9223372036854775807 ∧ -9223372036854775808 ≤ ha ∧ ha ≤ 9223372036854775807 ∧ -9223372036854775808 ≤ pu ∧ pu ≤ 9223372036854775807) := by
  obtain ⟨f0, f1, f2, f3, f4, f5, f6, hs, ⟨o0, o1, o2, o3, o4, o5, o6⟩, ⟨k0, k1, k2, k3, k4, k5, k6⟩, u0, u1, u2, u3, u4, u5, u6⟩ := pass_fields
  obtain ⟨cs, rfl, hsz⟩ := okWide_struct hs hv
  have hsz7 : cs.size = 7 := hsz.trans (by kernel_rfl)
  obtain ⟨fuel, hf⟩ := h
  obtain ⟨xs, k, hk, hxy, _, hxl, hfl⟩ := DataW.trod_struct hs hf
  match cs, hsz7, xs, hxl with
  | ⟨[c0, c1, c2, c3, c4, c5, c6]⟩, _, [y0, y1, y2, y3, y4, y5, y6], _ =>
    have g0 := hfl 0 f0 rfl
    have g1 := hfl 1 f1 rfl
    have g2 := hfl 2 f2 rfl
    have g3 := hfl 3 f3 rfl
    have g4 := hfl 4 f4 rfl
    have g5 := hfl 5 f5 rfl
    have g6 := hfl 6 f6 rfl
    simp [Value.cells, o0, o1, o2, o3, o4, o5, o6, k0, k1, k2, k3, k4, k5, k6] at g0 g1 g2 g3 g4 g5 g6
    obtain ⟨z0, e0, _, w0⟩ := DataW.trod_int u0 g0
    obtain ⟨z1, e1, _, w1⟩ := DataW.trod_int u1 g1
    obtain ⟨z2, e2, _, w2⟩ := DataW.trod_int u2 g2
    obtain ⟨z3, e3, _, w3⟩ := DataW.trod_int u3 g3
    obtain ⟨A4, n4, cc4, l4, e4, b4, _⟩ := cells_bytes u4 g4
    obtain ⟨A5, n5, cc5, l5, e5, b5, _⟩ := cells_bytes u5 g5
    obtain ⟨z6, e6, _⟩ := DataW.trod_bool u6 g6
    have r0 := bounds_i64 w0
    have r1 := bounds_i64 w1
    have r2 := bounds_i64 w2
    have r3 := bounds_i64 w3
    obtain rfl : c0 = _ := by simpa using e0
    obtain rfl : c1 = _ := by simpa using e1
    obtain rfl : c2 = _ := by simpa using e2
    obtain rfl : c3 = _ := by simpa using e3
    obtain rfl : c4 = _ := by simpa using e4
    obtain rfl : c5 = _ := by simpa using e5
    obtain rfl : c6 = _ := by simpa using e6
    exact ⟨z0, z1, z2, z3, A4, n4, cc4, A5, n5, cc5, z6, l4, l5, rfl, b4, b5, r0.1, r0.2, r1.1, r1.2, r2.1, r2.2, r3.1, r3.2⟩
end
end Go.Proofs.Ytegbncngencfnaa
