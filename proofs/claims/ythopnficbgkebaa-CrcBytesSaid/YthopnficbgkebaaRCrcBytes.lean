/- For every input the law CrcBytes returns true, and each argument reads afterwards as before; no condition. -/
import Derived.Test.YthopnficbgkebaaOp
import Derived.Test.YthopnficbgkebaaLw3b
import Derived.Test.YthopnficbgkebaaOq
namespace Go.Proofs.Ythopnficbgkebaa.crcBytes
open Go.ChangeShapes Go.WideShapes Go.ChangeAt Go.RowKit
set_option linter.unusedVariables false
set_option maxRecDepth 100000 in
theorem lifted (os : Os) (started : os.Started) (H : Type) (enc : TypeId × Value → H) :
    ReturnsInHanded {} Try.checked os 5 .any (Rows.crcBytesSpec.pre6 enc Try.prog Try.f5 Rows.crcBytesRow.domain false) (Rows.crcBytesSpec.post enc Try.prog Try.f5 false true false false) := by
  refine returnsInHanded_of_change (C := Try.checked) own_ started (by kernel_rfl) Try.func5
    (ChangeSpec.witness6 (enc := enc) (C := Try.checked) false ⟨#[], #[.int .u32 0, .agg #[.int .u8 0, .int .u8 0, .int .u8 0]], []⟩ 8 (by kernel_rfl) (by kernel_rfl) (by kernel_rfl) (by kernel_rfl)) ?_
  intro W base args ds gs before hval0 hW hcnd _
  have hval : ∀ (j : Nat) t v, Try.f5.params[j]? = some t → args[j]? = some v → Value.okWide Try.prog W .any base t v := hval0
  have hW' := hW
  obtain ⟨p, q, hA0, hV, rfl, hfz, hnd⟩ := hW
  have hA : DataW.TrodAll enc Try.prog W 0 (fun _ => true) true Try.f5.params.toList args.toList ds p := hA0
  rw [Try.params5] at hA hval
  obtain ⟨v0, vs0, d0, ds0, p0, q0, hargs, rfl, rfl, h0, r0⟩ := trodAll_cons hA
  obtain ⟨v1, vs1, d1, ds1, p1, q1, rfl, rfl, rfl, h1, r1⟩ := trodAll_cons r0
  obtain ⟨rfl, rfl, rfl⟩ := trodAll_nil r1
  obtain rfl : args = #[v0, v1] := by cases args; simp_all
  obtain ⟨rfl, rfl⟩ := trodVars_none hV
  obtain ⟨x0, rfl, hi0⟩ := open_u32 Try.underlying29 (hval 0 29 v0 rfl rfl) h0
  obtain ⟨p1, q1, r1, rfl⟩ := open_arr3 Try.underlying33 Try.underlying5 (by kernel_rfl) (by kernel_rfl) (hval 1 33 v1 rfl rfl) h1
  clear hA0 hval0 hval
  refine (CrcBytes_walk x0 hi0 _ _ _ W).mono fun e W' ⟨he, bel⟩ => ?_
  subst he
  exact ⟨_, rfl, _, _, _, [], _, [], hW', trodAll_mk1 (shut_bool Try.underlying4 _), (trodAll_cons_mk (below_trod h0 (by kernel_rfl) (of_decide_eq_true (by kernel_rfl)) bel) (trodAll_cons_mk (below_trod h1 (by kernel_rfl) (of_decide_eq_true (by kernel_rfl)) bel) trodAll_mk0)), rfl, bel.frame _, fun h => by cases h⟩

theorem over : Rows.crcBytesRow.holds Try.pinned (OpenSpec.ofChange Rows.crcBytesSpec) :=
  OpenClaim.holds_of_wide 5 Try.f5 rfl rfl rfl rfl rfl rfl rfl ⟨rfl, rfl, rfl, rfl, rfl⟩ rfl rfl rfl rfl rfl (by kernel_rfl) Try.func5 (by kernel_rfl)
    (of_decide_eq_true (by kernel_rfl)) (by unfold Func.isWrapper; first | (rw [if_pos (by decide +kernel)]; kernel_rfl) | (rw [if_neg (by decide +kernel)]; exact ⟨rfl, rfl⟩))
    (fun os started H enc _ => lifted os started H enc)

theorem proved : Rows.CrcBytesSaid := over
#print axioms proved
end Go.Proofs.Ythopnficbgkebaa.crcBytes
