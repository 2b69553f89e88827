/- A row of packets of the call's own. -/
import Derived.Test.YtcakdlfhmdkocaaPk
namespace Go.Proofs.Ytcakdlfhmdkocaa
open Go.RowKit

theorem Bs.grown' {w w' : World} {A : Option Addr} {n c : Nat} {l : List UInt8} (h : Bs w A n c l) {row : Option Nat} (hg : w.grownBy w' row) (hne : l ≠ [] → ∀ ad, A = some ad → some ad.block ≠ row) : Bs w' A n c l := by
  by_cases hl : l = []
  · subst hl
    exact ⟨Rd.nil_ w' A c h.1.2.1, h.2⟩
  · exact h.grown hg (hne hl)
theorem Bs.lt {w : World} {A : Option Addr} {n c : Nat} {l : List UInt8} (h : Bs w A n c l) (hl : l ≠ []) : ∀ ad, A = some ad → ad.block < w.heap.size := fun ad e => by
  have hp : 0 < l.length := List.length_pos_iff.2 hl
  obtain ⟨b, off, e2, hb, _⟩ := h.byte hp
  rw [e] at e2
  injection e2 with e2
  rw [e2]
  exact hb

/-- The cells of packets whose bodies read, and lie in no block R. -/
def PkCells (w : World) (R : Option Nat) : List (Int × List UInt8) → List Value → Prop
  | [], cs => cs = []
  | p :: ps, cs => ∃ Ak nk ck rest, cs = .int .i64 p.1 :: .slice Ak nk ck :: rest ∧ Bs w Ak nk ck p.2 ∧ (p.2 ≠ [] → ∀ ad, Ak = some ad → some ad.block ≠ R) ∧ PkCells w R ps rest
theorem PkCells.grown {w w' : World} {R R' : Option Nat} (hg : w.grownBy w' R) (hR : R' = R ∨ R' = some w.heap.size) : ∀ {ps : List (Int × List UInt8)} {cs : List Value}, PkCells w R ps cs → PkCells w' R' ps cs
  | [], _, h => h
  | _ :: _, _, ⟨Ak, nk, ck, rest, e, hb, hn, ht⟩ => ⟨Ak, nk, ck, rest, e, hb.grown' hg hn, fun hl ad ha => by
      rcases hR with rfl | rfl
      · exact hn hl ad ha
      · have := hb.lt hl ad ha
        intro e2
        injection e2 with e2
        omega, ht.grown hg hR⟩
theorem PkCells.below {w w' : World} {R : Option Nat} (hb : Below w.heap.size w w') : ∀ {ps : List (Int × List UInt8)} {cs : List Value}, PkCells w R ps cs → PkCells w' R ps cs
  | [], _, h => h
  | _ :: _, _, ⟨Ak, nk, ck, rest, e, h, hn, ht⟩ => ⟨Ak, nk, ck, rest, e, h.below hb, hn, ht.below hb⟩
theorem PkCells.snoc {w : World} {R : Option Nat} {tag : Int} {Ak : Option Addr} {nk ck : Nat} {body : List UInt8} (hb : Bs w Ak nk ck body) (hn : body ≠ [] → ∀ ad, Ak = some ad → some ad.block ≠ R) :
    ∀ {ps : List (Int × List UInt8)} {cs : List Value}, PkCells w R ps cs → PkCells w R (ps ++ [(tag, body)]) (cs ++ [.int .i64 tag, .slice Ak nk ck])
  | [], cs, h => by
    have h' : cs = [] := h
    subst h'
    exact ⟨Ak, nk, ck, [], rfl, hb, hn, rfl⟩
  | p :: ps, cs, ⟨A1, n1, c1, rest, e, h, hn1, ht⟩ => by
    subst e
    exact ⟨A1, n1, c1, _, rfl, h, hn1, ht.snoc hb hn⟩
theorem PkCells.len {w : World} {R : Option Nat} : ∀ {ps : List (Int × List UInt8)} {cs : List Value}, PkCells w R ps cs → cs.length = ps.length * 2
  | [], cs, h => by
    have h' : cs = [] := h
    subst h'; rfl
  | p :: ps, cs, ⟨A1, n1, c1, rest, e, h, hn1, ht⟩ => by
    subst e
    have := ht.len
    simp only [List.length_cons] at this ⊢
    omega
theorem PkCells.at_ {w : World} {R : Option Nat} : ∀ {ps : List (Int × List UInt8)} {cs : List Value}, PkCells w R ps cs → ∀ k (hk : k < ps.length), ∃ Ak nk ck, cs[k * 2]? = some (.int .i64 (ps[k]).1) ∧ cs[k * 2 + 1]? = some (.slice Ak nk ck) ∧ Bs w Ak nk ck (ps[k]).2
  | p :: ps, cs, ⟨A1, n1, c1, rest, e, h, hn1, ht⟩, 0, _ => by
    subst e
    exact ⟨A1, n1, c1, rfl, rfl, h⟩
  | p :: ps, cs, ⟨A1, n1, c1, rest, e, h, hn1, ht⟩, k + 1, hk => by
    subst e
    obtain ⟨Ak, nk, ck, e0, e1, e2⟩ := ht.at_ k (by simpa using hk)
    refine ⟨Ak, nk, ck, ?_, ?_, ?_⟩
    · rw [show (k + 1) * 2 = k * 2 + 2 by omega]; simpa using e0
    · rw [show (k + 1) * 2 + 1 = k * 2 + 1 + 2 by omega]; simpa using e1
    · simpa using e2

theorem EP : El Try.prog 52 61 2 32 := El.mk_ Try.underlying52 (z := .agg #[.int .i64 0, .slice none 0 0]) (by kernel_rfl) rfl (by omega)

/-- The slice (A, n, c) is the call's own row (in a block from B on) of the packets ps. -/
def OwnPs (w : World) (B : Nat) (A : Option Addr) (n c : Nat) (ps : List (Int × List UInt8)) : Prop :=
  ∃ cs, OwnR w B 61 2 A c n cs ∧ PkCells w (A.map (·.block)) ps cs ∧ ps.length = n
theorem OwnPs.nil_ (w : World) (B : Nat) : OwnPs w B none 0 0 [] := ⟨[], World.ownsRow_nil _ _ _ _, rfl, rfl⟩
theorem OwnPs.blk {w : World} {B n c : Nat} {A : Option Addr} {ps : List (Int × List UInt8)} (h : OwnPs w B A n c ps) : ∀ ad, A = some ad → B ≤ ad.block ∧ ad.block < w.heap.size := by
  obtain ⟨cs, h1, _⟩ := h
  exact h1.blk
theorem OwnPs.below {w w' : World} {B n c : Nat} {A : Option Addr} {ps : List (Int × List UInt8)} (h : OwnPs w B A n c ps) (hb : Below w.heap.size w w') : OwnPs w' B A n c ps := by
  obtain ⟨cs, h1, h2, h3⟩ := h
  exact ⟨cs, h1.below hb, h2.below hb, h3⟩
theorem OwnPs.ps {w : World} {B n c : Nat} {A : Option Addr} {ps : List (Int × List UInt8)} (h : OwnPs w B A n c ps) : Ps w A n ps := by
  obtain ⟨cs, h1, h2, h3⟩ := h
  refine ⟨h3, fun k hk => ?_⟩
  obtain ⟨Ak, nk, ck, e0, e1, e2⟩ := h2.at_ k hk
  have hl := h2.len
  rcases h1.2 with ⟨_, h0⟩ | ⟨g, cap, cur, hv, hbg, hh, hnc, hcm, hcs, htake⟩
  · rw [h0] at h3; omega
  · injection hv with hA hn' hc'
    subst hA
    have hcell : ∀ j, j < n * 2 → w.cell? ⟨g, 0 + j, none⟩ = cs[j]? := fun j hj => by
      rw [Nat.zero_add, cell_of_row w g j cur _ _ hh, ← htake, List.getElem?_take, if_pos hj, Array.getElem?_toList]
    refine ⟨g, 0, Ak, nk, ck, rfl, h1.blk _ rfl |>.2, ?_, ?_, e2⟩
    · rw [hcell _ (by omega), e0]
    · rw [Nat.add_assoc, hcell _ (by omega), e1]

/-- append(v, p), v a row of packets of one's own, p a packet: the goal's world is that behind the variadic's box. -/
theorem appPk {w : World} {ops : Array Oper} {rest : List Oper} {o : Oper} {a : Act} {Q : Exit → Act → World → Prop} (s x : Operand) (hgd : o.guard = none)
    (ho : o.op = .call { callee := .builtin .append, args := #[s, x], argTypes := #[52, 52] })
    {B : Nat} {A0 : Option Addr} {n0 c0 : Nat} {ps : List (Int × List UInt8)} (hs : a.eval s = .slice A0 n0 c0) (hown : OwnPs w B A0 n0 c0 ps)
    {tag : Int} {Ak : Option Addr} {nk ck : Nat} {body : List UInt8} (hx : a.eval x = .slice (some ⟨w.heap.size, 0, none⟩) 1 1) (hr : Bs w Ak nk ck body) (hne : body ≠ [] → ∀ ad, Ak = some ad → some ad.block ≠ A0.map (·.block)) (hb : n0 ≤ 1000000) (hbase : B ≤ w.heap.size)
    (h : ∀ A' c' w', OwnPs w' B A' (n0 + 1) c' (ps ++ [(tag, body)]) → w.grownBy w' (A0.map (·.block)) → (∀ ad, A' = some ad → (A0.map (·.block) = some ad.block ∨ w.heap.size < ad.block)) → wpList Try.prog ops Q rest (a.put o.dst (.slice A' (n0 + 1) c')) w') :
    wpList Try.prog ops Q (o :: rest) a (w.alloc (.cells #[.int .i64 tag, .slice Ak nk ck] 61)) := by
  obtain ⟨cs, h1, h2, h3⟩ := hown
  have hnew := heap_alloc_new w (.cells #[.int .i64 tag, .slice Ak nk ck] 61)
  have hba := (Below.refl w.heap.size w).alloc (Nat.le_refl _) (.cells #[.int .i64 tag, .slice Ak nk ck] 61)
  refine wpList_app hgd s x 52 ho EP B _ n0 cs hs (h1.alloc_ _) _ 1 1 [.int .i64 tag, .slice Ak nk ck] hx rfl (fun _ => ⟨_, rfl, fun j u hu => ?_⟩) (by simp [Value.oneCell']) (by omega) (by omega) (by simp; omega) ?_
  · have he : (⟨w.heap.size, 0, none⟩ : Addr).add j = ⟨w.heap.size, j, none⟩ := by
      unfold Addr.add; split
      · rename_i h0; rw [h0]
      · simp
    rw [he, cell_of_row _ _ j _ _ _ hnew, ← Array.getElem?_toList]
    exact hu
  · intro v' w' g1 g2 g3
    obtain ⟨A', c', rfl, g4⟩ := OwnR.of g1
    have hg : (w.alloc (.cells #[.int .i64 tag, .slice Ak nk ck] 61)).grownBy w' (A0.map (·.block)) := by cases A0 <;> exact g2
    have hA : A'.map (·.block) = A0.map (·.block) ∨ A'.map (·.block) = some (w.alloc (.cells #[.int .i64 tag, .slice Ak nk ck] 61)).heap.size := by
      cases A' <;> cases A0 <;> exact g3
    refine h A' c' w' ⟨_, g4, ((h2.below hba).snoc (hr.below hba) hne).grown hg hA, by simp [h3]⟩ (grown_trans (World.grownBy_alloc w _ _) hg) (fun ad e => ?_)
    subst e
    rcases hA with hA | hA
    · exact .inl hA.symm
    · right
      have : ad.block = (w.alloc (.cells #[.int .i64 tag, .slice Ak nk ck] 61)).heap.size := by simpa using hA
      rw [this]; simp
end Go.Proofs.Ytcakdlfhmdkocaa
