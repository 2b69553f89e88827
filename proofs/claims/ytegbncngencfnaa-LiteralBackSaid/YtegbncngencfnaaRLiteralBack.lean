/- For every input the law LiteralBack returns true, and each argument reads afterwards as before; no condition. -/
import Derived.Test.YtegbncngencfnaaOp
import Derived.Test.YtegbncngencfnaaLw24c
import Derived.Test.YtegbncngencfnaaOm
namespace Go.Proofs.Ytegbncngencfnaa.literalBack
open Go.ChangeShapes Go.WideShapes Go.ChangeAt Go.RowKit
set_option linter.unusedVariables false
set_option maxRecDepth 100000 in
theorem lifted (os : Os) (started : os.Started) (H : Type) (enc : TypeId × Value → H) :
    ReturnsInHanded {} Try.checked os 8 .any (Rows.literalBackSpec.pre6 enc Try.prog Try.f8 Rows.literalBackRow.domain false) (Rows.literalBackSpec.post enc Try.prog Try.f8 false true false false) := by
  refine returnsInHanded_of_change (C := Try.checked) own_ started (by kernel_rfl) Try.func8
    (ChangeSpec.witness6 (enc := enc) (C := Try.checked) false ⟨#[], #[.agg #[.int .u8 0, .slice none 0 0, .int .u32 0, .slice none 0 0], .agg #[.int .i64 0, .int .i64 0, .int .i64 0, .int .i64 0, .slice none 0 0, .slice none 0 0, .bool false]], []⟩ 8 (by kernel_rfl) (by kernel_rfl) (by kernel_rfl) (by kernel_rfl)) ?_
  intro W base args ds gs before hval0 hW hcnd _
  have hval : ∀ (j : Nat) t v, Try.f8.params[j]? = some t → args[j]? = some v → Value.okWide Try.prog W .any base t v := hval0
  have hW' := hW
  obtain ⟨p, q, hA0, hV, rfl, hfz, hnd⟩ := hW
  have hA : DataW.TrodAll enc Try.prog W 0 (fun _ => true) true Try.f8.params.toList args.toList ds p := hA0
  rw [Try.params8] at hA hval
  obtain ⟨v0, vs0, d0, ds0, p0, q0, hargs, rfl, rfl, h0, r0⟩ := trodAll_cons hA
  obtain ⟨v1, vs1, d1, ds1, p1, q1, rfl, rfl, rfl, h1, r1⟩ := trodAll_cons r0
  obtain ⟨rfl, rfl, rfl⟩ := trodAll_nil r1
  obtain rfl : args = #[v0, v1] := by cases args; simp_all
  obtain ⟨rfl, rfl⟩ := trodVars_none hV
  obtain ⟨x0, An0, nn0, cn0, d0, Ad0, nd0, cd0, nm0, dt0, rfl, bn0, hd0, bd0⟩ := open_lit (hval 0 35 v0 rfl rfl) h0
  obtain ⟨v1, ty1, ha1, pu1, As1, ns1, cs1, Ai1, ni1, ci1, la1, sa1, is1, rfl, bs1, bi1, rv1⟩ := open_pass (hval 1 42 v1 rfl rfl) h1
  clear hA0 hval0 hval
  refine ((LiteralBack_walk x0 v1 ty1 ha1 pu1 la1 bn0 hd0 bd0 bs1 bi1)).mono fun e W' ⟨he, bel⟩ => ?_
  subst he
  exact ⟨_, rfl, _, _, _, [], _, [], hW', trodAll_mk1 (shut_bool Try.underlying4 _), (trodAll_cons_mk (below_trod h0 (by kernel_rfl) (of_decide_eq_true (by kernel_rfl)) bel) (trodAll_cons_mk (below_trod h1 (by kernel_rfl) (of_decide_eq_true (by kernel_rfl)) bel) trodAll_mk0)), rfl, bel.frame _, fun h => by cases h⟩

theorem over : Rows.literalBackRow.holds Try.pinned (OpenSpec.ofChange Rows.literalBackSpec) :=
  OpenClaim.holds_of_wide 8 Try.f8 rfl rfl rfl rfl rfl rfl rfl ⟨rfl, rfl, rfl, rfl, rfl⟩ rfl rfl rfl rfl rfl (by kernel_rfl) Try.func8 (by kernel_rfl)
    (of_decide_eq_true (by kernel_rfl)) (by unfold Func.isWrapper; first | (rw [if_pos (by decide +kernel)]; kernel_rfl) | (rw [if_neg (by decide +kernel)]; exact ⟨rfl, rfl⟩))
    (fun os started H enc _ => lifted os started H enc)

theorem proved : Rows.LiteralBackSaid := over
#print axioms proved
end Go.Proofs.Ytegbncngencfnaa.literalBack
