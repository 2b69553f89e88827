/- The packets that count. -/
import Derived.Test.YtcakdlfhmdkocaaPc
import Derived.Test.YtcakdlfhmdkocaaCur
import Derived.Deep.RegionHeldLaw
namespace Go.Proofs.Ytcakdlfhmdkocaa
open Go.RowKit

/-- append(v, p) of packets, as a step of a region that draws its order. -/
theorem stepPk {W : World} {ops : Array Oper} {o : Oper} {a : Act} {K : Act → World → Prop} {Q : Exit → Act → World → Prop} {E : Prop} (s x : Operand) (hgd : o.guard = none)
    (ho : o.op = .call { callee := .builtin .append, args := #[s, x], argTypes := #[52, 52] })
    {B : Nat} {A0 : Option Addr} {n0 c0 : Nat} {ps : List (Int × List UInt8)} (hs : a.eval s = .slice A0 n0 c0) (hown : OwnPs W B A0 n0 c0 ps)
    {g : Nat} {tag : Int} {Ak : Option Addr} {nk ck : Nat} {body : List UInt8} (hx : a.eval x = .slice (some ⟨g, 0, none⟩) 1 1) (hnew : W.heap[g]? = some (.cells #[.int .i64 tag, .slice Ak nk ck] 61 (0, 0))) (hr : Bs W Ak nk ck body)
    (hne : body ≠ [] → ∀ ad, Ak = some ad → some ad.block ≠ A0.map (·.block)) (hb : n0 ≤ 1000000) (hbase : B ≤ W.heap.size)
    (h : ∀ A' c' w', OwnPs w' B A' (n0 + 1) c' (ps ++ [(tag, body)]) → W.grownBy w' (A0.map (·.block)) → (∀ ad, A' = some ad → (A0.map (·.block) = some ad.block ∨ W.heap.size ≤ ad.block)) → K (a.put o.dst (.slice A' (n0 + 1) c')) w') :
    if Region.wanted o (yielded ops a.tmps) = true then Oper.wp Try.prog o a W K Q else E := by
  have hw : Region.wanted o (yielded ops a.tmps) = true := by simp [Region.wanted, hgd]
  rw [if_pos hw]
  obtain ⟨cs, h1, h2, h3⟩ := hown
  obtain ⟨v', w', hrun, g1, g2, g3⟩ := run_app EP B o.type (.slice A0 n0 c0) n0 cs h1.own (some ⟨g, 0, none⟩) 1 1 [.int .i64 tag, .slice Ak nk ck] rfl (fun _ => ⟨_, rfl, fun j u hu => by
    have he : (⟨g, 0, none⟩ : Addr).add j = ⟨g, j, none⟩ := by
      unfold Addr.add; split
      · rename_i h0; rw [h0]
      · simp
    rw [he, cell_of_row _ _ j _ _ _ hnew, ← Array.getElem?_toList]
    exact hu⟩) (by simp [Value.oneCell']) (by omega) (by omega) hbase
  obtain ⟨A', c', rfl, g4⟩ := OwnR.of g1
  have hg : W.grownBy w' (A0.map (·.block)) := by cases A0 <;> exact g2
  have hA : A'.map (·.block) = A0.map (·.block) ∨ A'.map (·.block) = some W.heap.size := by
    cases A' <;> cases A0 <;> exact g3
  unfold Oper.wp execOp
  simp only [ho, resolve, invoke, builtin, Sem.run_bind, Sem.run_pure, Result.andThen_ok, List.map_toArray, List.map_cons, List.map_nil, hs, hx, hrun]
  refine h A' c' w' ⟨_, g4, (h2.snoc hr hne).grown hg hA, by simp [h3]⟩ hg (fun ad e => ?_)
  subst e
  rcases hA with hA | hA
  · exact .inl hA.symm
  · right
    have : ad.block = W.heap.size := by simpa using hA
    omega
end Go.Proofs.Ytcakdlfhmdkocaa
