/- append of bytes as a step of a region that draws its order. -/
import Derived.Test.YtegbncngencfnaaBy
import Derived.Deep.RegionHeldLaw
namespace Go.Proofs.Ytegbncngencfnaa
open Go.RowKit

theorem step_app8 {w : World} {ops : Array Oper} {o : Oper} {a : Act} {K : Act → World → Prop} {Q : Exit → Act → World → Prop} {E : Prop} (s x : Operand) (hgd : o.guard = none)
    (ho : o.op = .call { callee := .builtin .append, args := #[s, x], argTypes := #[22, 22] })
    {B : Nat} {A0 : Option Addr} {n0 c0 : Nat} {l0 : List UInt8} (hs : a.eval s = .slice A0 n0 c0) (hown : Own w B A0 n0 c0 l0)
    {A : Option Addr} {m c : Nat} {l : List UInt8} (hx : a.eval x = .slice A m c) (hr : Bs w A m c l) (hb : n0 + m ≤ 140737488355328) (hbase : B ≤ w.heap.size)
    (h : ∀ A' c' w', Own w' B A' (n0 + m) c' (l0 ++ l) → w.grownBy w' (A0.map (·.block)) → (∀ ad, A' = some ad → (A0.map (·.block) = some ad.block ∨ ad.block = w.heap.size)) → K (a.put o.dst (.slice A' (n0 + m) c')) w') :
    if Region.wanted o (yielded ops a.tmps) = true then Oper.wp Try.prog o a w K Q else E := by
  have hw : Region.wanted o (yielded ops a.tmps) = true := by simp [Region.wanted, hgd]
  rw [if_pos hw]
  have hl : m = (bvs l).length := by simp [hr.2]
  obtain ⟨v', w', hrun, h1, h2, h3⟩ := run_app E8 B o.type (.slice A0 n0 c0) n0 (bvs l0) hown.1 A m c (bvs l) (by omega) (fun hm => by obtain ⟨ad, e, _, hc⟩ := hr.1.2.2 (by omega); exact ⟨ad, e, hc⟩) (bvs_one l) (by omega) hb hbase
  rw [show bvs l0 ++ bvs l = bvs (l0 ++ l) by simp [bvs]] at h1
  obtain ⟨A', c', rfl, ho'⟩ := Own.of h1
  unfold Oper.wp execOp
  simp only [ho, resolve, invoke, builtin, Sem.run_bind, Sem.run_pure, Result.andThen_ok, List.map_toArray, List.map_cons, List.map_nil, hs, hx, hrun]
  refine h A' c' w' ho' ?_ ?_
  · cases A0 <;> exact h2
  · intro ad e
    subst e
    cases A0 with
    | none => rcases h3 with h3 | h3 <;> simp [Value.ownBlock] at h3; exact .inr h3
    | some a0 => rcases h3 with h3 | h3 <;> simp [Value.ownBlock] at h3 <;> simp [h3]
/-- Behind an append to a row of one's own. -/
theorem Own.grew {w0 w w' : World} {B : Nat} {A : Option Addr} {n c : Nat} {l : List UInt8} (hown : Own w B A n c l) (h : Below B w0 w) (hB : B ≤ w.heap.size) (hg : w.grownBy w' (A.map (·.block))) : Below B w0 w' :=
  h.grown hg hB (fun i e => by
    cases A with
    | none => cases e
    | some ad => cases e; exact (hown.blk _ rfl).1)
end Go.Proofs.Ytegbncngencfnaa
