/- For every input the law LiteralPass returns true, and each argument reads afterwards as before; no condition. -/
import Derived.Test.YtegbncngencfnaaOp
import Derived.Test.YtegbncngencfnaaLw24e
import Derived.Test.YtegbncngencfnaaOm
import Derived.Test.YtegbncngencfnaaOv
namespace Go.Proofs.Ytegbncngencfnaa.literalPass
open Go.ChangeShapes Go.WideShapes Go.ChangeAt Go.RowKit
set_option linter.unusedVariables false
set_option maxRecDepth 100000 in
theorem lifted (os : Os) (started : os.Started) (H : Type) (enc : TypeId × Value → H) :
    ReturnsInHanded {} Try.checked os 11 .any (Rows.literalPassSpec.pre6 enc Try.prog Try.f11 Rows.literalPassRow.domain false) (Rows.literalPassSpec.post enc Try.prog Try.f11 false true false false) := by
  refine returnsInHanded_of_change_sized (C := Try.checked) own_ started (by kernel_rfl) Try.func11
    (ChangeSpec.witness6 (enc := enc) (C := Try.checked) false ⟨#[], #[.agg #[.int .i64 0, .int .i64 0, .int .i64 0, .int .i64 0, .slice none 0 0, .slice none 0 0, .bool false], .agg #[.int .i64 0, .int .i64 0, .int .i64 0, .int .i64 0, .slice none 0 0, .slice none 0 0, .int .u8 0, .int .u8 0, .slice none 0 0, .slice none 0 0], .string ByteArray.empty], []⟩ 8 (by kernel_rfl) (by kernel_rfl) (by kernel_rfl) (by kernel_rfl)) ?_
  intro W base args ds gs before hval0 hW hcnd hsz0 _
  have hval : ∀ (j : Nat) t v, Try.f11.params[j]? = some t → args[j]? = some v → Value.okWide Try.prog W .any base t v := hval0
  have hW' := hW
  obtain ⟨p, q, hA0, hV, rfl, hfz, hnd⟩ := hW
  have hA : DataW.TrodAll enc Try.prog W 0 (fun _ => true) true Try.f11.params.toList args.toList ds p := hA0
  rw [Try.params11] at hA hval
  have hsz := fun (j : Nat) t d (h1 : (Try.f11.params.toList ++ Rows.literalPassSpec.plain.varTypes Try.prog)[j]? = some t) (h2 : (ds ++ gs)[j]? = some d) => fun q hq => of_decide_eq_true (List.all_eq_true.1 hsz0 q (DataW.weights_mem_each h1 h2 q hq))
  obtain ⟨v0, vs0, d0, ds0, p0, q0, hargs, rfl, rfl, h0, r0⟩ := trodAll_cons hA
  obtain ⟨v1, vs1, d1, ds1, p1, q1, rfl, rfl, rfl, h1, r1⟩ := trodAll_cons r0
  obtain ⟨v2, vs2, d2, ds2, p2, q2, rfl, rfl, rfl, h2, r2⟩ := trodAll_cons r1
  obtain ⟨rfl, rfl, rfl⟩ := trodAll_nil r2
  obtain rfl : args = #[v0, v1, v2] := by cases args; simp_all
  obtain ⟨rfl, rfl⟩ := trodVars_none hV
  obtain ⟨v0, ty0, ha0, pu0, As0, ns0, cs0, Ai0, ni0, ci0, la0, sa0, is0, rfl, bs0, bi0, rv0⟩ := open_pass (hval 0 42 v0 rfl rfl) h0
  obtain ⟨s1, a1, rfl, sr1, sb1⟩ := open_sig (hval 1 70 v1 rfl rfl) h1 (hsz 1 70 d1 rfl rfl)
  obtain ⟨s2, rfl, sz2⟩ := open_str (hval 2 9 v2 rfl rfl) h2
  clear hA0 hval0 hval
  refine ((LiteralPass_walk v0 ty0 ha0 pu0 la0 s2 bs0 bi0 sr1 (SigB.mk sb1.ve sb1.ty sb1.pu sb1.ha sb1.n4 sb1.n5 (fun x hx => Nat.le_trans (sb1.b4 x hx) (by decide)) (fun x hx => Nat.le_trans (sb1.b5 x hx) (by decide))))).mono fun e W' ⟨he, bel⟩ => ?_
  subst he
  exact ⟨_, rfl, _, _, _, [], _, [], hW', trodAll_mk1 (shut_bool Try.underlying4 _), (trodAll_cons_mk (below_trod h0 (by kernel_rfl) (of_decide_eq_true (by kernel_rfl)) bel) (trodAll_cons_mk (below_trod h1 (by kernel_rfl) (of_decide_eq_true (by kernel_rfl)) bel) (trodAll_cons_mk (below_trod h2 (by kernel_rfl) (of_decide_eq_true (by kernel_rfl)) bel) trodAll_mk0))), rfl, bel.frame _, fun h => by cases h⟩

theorem over : Rows.literalPassRow.holds Try.pinned (OpenSpec.ofChange Rows.literalPassSpec) :=
  OpenClaim.holds_of_wide 11 Try.f11 rfl rfl rfl rfl rfl rfl rfl ⟨rfl, rfl, rfl, rfl, rfl⟩ rfl rfl rfl rfl rfl (by kernel_rfl) Try.func11 (by kernel_rfl)
    (of_decide_eq_true (by kernel_rfl)) (by unfold Func.isWrapper; first | (rw [if_pos (by decide +kernel)]; kernel_rfl) | (rw [if_neg (by decide +kernel)]; exact ⟨rfl, rfl⟩))
    (fun os started H enc _ => lifted os started H enc)

theorem proved : Rows.LiteralPassSaid := over
#print axioms proved
end Go.Proofs.Ytegbncngencfnaa.literalPass
