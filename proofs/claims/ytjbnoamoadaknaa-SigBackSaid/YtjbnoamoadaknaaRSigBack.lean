import Derived.Test.YtjbnoamoadaknaaYSigBack2
import Derived.Test.YtjbnoamoadaknaaYSigBack27
import Derived.Test.YtjbnoamoadaknaaYSigBack5
/- For every input the law SigBack returns true, and each argument reads afterwards as before; no condition. -/
namespace Go.Proofs.Ytjbnoamoadaknaa.sigBack
open Go.ChangeShapes Go.WideShapes Go.ChangeAt Go.RowKit
set_option linter.unusedVariables false
set_option maxRecDepth 100000 in
theorem lifted (os : Os) (started : os.Started) (H : Type) (enc : TypeId × Value → H) :
    ReturnsInHanded {} Try.checked os 5 .any (Rows.sigBackSpec.pre6 enc Try.prog Try.f5 Rows.sigBackRow.domain false) (Rows.sigBackSpec.post enc Try.prog Try.f5 false true false false) := by
  refine returnsInHanded_of_change_sized (C := Try.checked) own_ started (by kernel_rfl) Try.func5
    (ChangeSpec.witness6 (enc := enc) (C := Try.checked) false ⟨#[], #[.agg #[.int .i64 0, .int .i64 0, .int .i64 0, .int .i64 0, .slice none 0 0, .slice none 0 0, .int .u8 0, .int .u8 0, .slice none 0 0, .slice none 0 0]], []⟩ 8 (by kernel_rfl) (by kernel_rfl) (by kernel_rfl) (by kernel_rfl)) ?_
  intro W base args ds gs before hval0 hW hcnd hsz0 _
  have hval : ∀ (j : Nat) t v, Try.f5.params[j]? = some t → args[j]? = some v → Value.okWide Try.prog W .any base t v := hval0
  have hW' := hW
  obtain ⟨p, q, hA0, hV, rfl, hfz, hnd⟩ := hW
  have hA : DataW.TrodAll enc Try.prog W 0 (fun _ => true) true Try.f5.params.toList args.toList ds p := hA0
  rw [Try.params5] at hA hval
  have hsz := fun (j : Nat) t d (h1 : (Try.f5.params.toList ++ Rows.sigBackSpec.plain.varTypes Try.prog)[j]? = some t) (h2 : (ds ++ gs)[j]? = some d) => fun q hq => of_decide_eq_true (List.all_eq_true.1 hsz0 q (DataW.weights_mem_each h1 h2 q hq))
  obtain ⟨v0, vs0, d0, ds0, p0, q0, hargs, rfl, rfl, h0, r0⟩ := trodAll_cons hA
  obtain ⟨rfl, rfl, rfl⟩ := trodAll_nil r0
  obtain rfl : args = #[v0] := by cases args; simp_all
  obtain ⟨rfl, rfl⟩ := trodVars_none hV
  obtain ⟨s0, a0, rfl, sr0, sb0⟩ := open_sig (hval 0 27 v0 rfl rfl) h0 (hsz 0 27 d0 rfl rfl)
  clear hA0 hval0 hval
  refine ((SigBack_walk sr0 (SigB.mk sb0.ve sb0.ty sb0.pu sb0.ha sb0.n4 sb0.n5 (fun x hx => Nat.le_trans (sb0.b4 x hx) (by decide)) (fun x hx => Nat.le_trans (sb0.b5 x hx) (by decide))))).mono fun e W' ⟨he, bel⟩ => ?_
  subst he
  exact ⟨_, rfl, _, _, _, [], _, [], hW', trodAll_mk1 (shut_bool Try.underlying4 _), (trodAll_cons_mk (below_trod h0 (by kernel_rfl) (of_decide_eq_true (by kernel_rfl)) bel) trodAll_mk0), rfl, bel.frame _, fun h => by cases h⟩

theorem over : Rows.sigBackRow.holds Try.pinned (OpenSpec.ofChange Rows.sigBackSpec) :=
  OpenClaim.holds_of_wide 5 Try.f5 rfl rfl rfl rfl rfl rfl rfl ⟨rfl, rfl, rfl, rfl, rfl⟩ rfl rfl rfl rfl rfl (by kernel_rfl) Try.func5 (by kernel_rfl)
    (of_decide_eq_true (by kernel_rfl)) (by unfold Func.isWrapper; first | (rw [if_pos (by decide +kernel)]; kernel_rfl) | (rw [if_neg (by decide +kernel)]; exact ⟨rfl, rfl⟩))
    (fun os started H enc _ => lifted os started H enc)

theorem proved : Rows.SigBackSaid := over
#print axioms proved
end Go.Proofs.Ytjbnoamoadaknaa.sigBack
