/- A row of numbers of the call's own. -/
import Derived.Test.YtcakdlfhmdkocaaMr
namespace Go.Proofs.Ytcakdlfhmdkocaa
open Go.RowKit

theorem NatR.grown' {w w' : World} {A : Option Addr} {m c N : Nat} (h : NatR w A m c N) {row : Option Nat} (hg : w.grownBy w' row) (hne : N ≠ 0 → ∀ ad, A = some ad → some ad.block ≠ row) : NatR w' A m c N := by
  obtain ⟨xs, h1, h2, h3, h4⟩ := h
  by_cases h0 : N = 0
  · have e := trim_zero (by decide) h3 (h4.trans h0)
    exact ⟨xs, h1.grown' hg (fun hl => absurd e hl), h2, h3, h4⟩
  · exact ⟨xs, h1.grown hg (hne h0), h2, h3, h4⟩
theorem NatR.lt {w : World} {A : Option Addr} {m c N : Nat} (h : NatR w A m c N) (h0 : N ≠ 0) : ∀ ad, A = some ad → ad.block < w.heap.size := by
  obtain ⟨xs, h1, h2, h3, h4⟩ := h
  exact h1.lt (fun e => h0 (by rw [← h4, e]; rfl))

/-- The cells of numbers that read, and lie in no block R. -/
def NtCells (w : World) (R : Option Nat) : List Nat → List Value → Prop
  | [], cs => cs = []
  | N :: Ns, cs => ∃ Ak nk ck rest, cs = .slice Ak nk ck :: rest ∧ NatR w Ak nk ck N ∧ (N ≠ 0 → ∀ ad, Ak = some ad → some ad.block ≠ R) ∧ NtCells w R Ns rest
theorem NtCells.grown {w w' : World} {R R' : Option Nat} (hg : w.grownBy w' R) (hR : R' = R ∨ R' = some w.heap.size) : ∀ {Ns : List Nat} {cs : List Value}, NtCells w R Ns cs → NtCells w' R' Ns cs
  | [], _, h => h
  | _ :: _, _, ⟨Ak, nk, ck, rest, e, hb, hn, ht⟩ => ⟨Ak, nk, ck, rest, e, hb.grown' hg hn, fun hl ad ha => by
      rcases hR with rfl | rfl
      · exact hn hl ad ha
      · have := hb.lt hl ad ha
        intro e2
        injection e2 with e2
        omega, ht.grown hg hR⟩
theorem NtCells.below {w w' : World} {R : Option Nat} (hb : Below w.heap.size w w') : ∀ {Ns : List Nat} {cs : List Value}, NtCells w R Ns cs → NtCells w' R Ns cs
  | [], _, h => h
  | _ :: _, _, ⟨Ak, nk, ck, rest, e, h, hn, ht⟩ => ⟨Ak, nk, ck, rest, e, h.below hb, hn, ht.below hb⟩
/-- What a write to another block leaves. -/
theorem NtCells.other {w w' : World} {R : Option Nat} {g : Nat} (hg : w.grownBy w' (some g)) : ∀ {Ns : List Nat} {cs : List Value}, (∀ Ak nk ck, Value.slice Ak nk ck ∈ cs → ∀ ad, Ak = some ad → ad.block ≠ g) → NtCells w R Ns cs → NtCells w' R Ns cs
  | [], _, _, h => h
  | _ :: _, _, hh, ⟨Ak, nk, ck, rest, e, h, hn, ht⟩ => by
    subst e
    refine ⟨Ak, nk, ck, rest, rfl, h.grown hg (fun ad ea e2 => ?_), hn, ht.other hg (fun A2 n2 c2 hm => hh A2 n2 c2 (by simp [hm]))⟩
    injection e2 with e2
    exact hh Ak nk ck (by simp) ad ea e2
theorem NtCells.snoc {w : World} {R : Option Nat} {Ak : Option Addr} {nk ck N : Nat} (hb : NatR w Ak nk ck N) (hn : N ≠ 0 → ∀ ad, Ak = some ad → some ad.block ≠ R) :
    ∀ {Ns : List Nat} {cs : List Value}, NtCells w R Ns cs → NtCells w R (Ns ++ [N]) (cs ++ [.slice Ak nk ck])
  | [], cs, h => by
    have h' : cs = [] := h
    subst h'
    exact ⟨Ak, nk, ck, [], rfl, hb, hn, rfl⟩
  | p :: ps, cs, ⟨A1, n1, c1, rest, e, h, hn1, ht⟩ => by
    subst e
    exact ⟨A1, n1, c1, _, rfl, h, hn1, ht.snoc hb hn⟩
theorem NtCells.len {w : World} {R : Option Nat} : ∀ {Ns : List Nat} {cs : List Value}, NtCells w R Ns cs → cs.length = Ns.length
  | [], cs, h => by
    have h' : cs = [] := h
    subst h'; rfl
  | p :: ps, cs, ⟨A1, n1, c1, rest, e, h, hn1, ht⟩ => by
    subst e
    have := ht.len
    simp only [List.length_cons] at this ⊢
    omega
theorem NtCells.at_ {w : World} {R : Option Nat} : ∀ {Ns : List Nat} {cs : List Value}, NtCells w R Ns cs → ∀ k (hk : k < Ns.length), ∃ Ak nk ck, cs[k]? = some (.slice Ak nk ck) ∧ NatR w Ak nk ck Ns[k]
  | p :: ps, cs, ⟨A1, n1, c1, rest, e, h, hn1, ht⟩, 0, _ => by
    subst e
    exact ⟨A1, n1, c1, rfl, h⟩
  | p :: ps, cs, ⟨A1, n1, c1, rest, e, h, hn1, ht⟩, k + 1, hk => by
    subst e
    obtain ⟨Ak, nk, ck, e0, e1⟩ := ht.at_ k (by simpa using hk)
    exact ⟨Ak, nk, ck, by simpa using e0, by simpa using e1⟩

theorem EN : El Try.prog 38 24 1 24 := El.mk_ Try.underlying38 (z := .slice none 0 0) (by kernel_rfl) rfl (by omega)

/-- The slice (A, n, c) is the call's own row (in a block from B on) of the numbers Ns, which lie in no block G. -/
def OwnNs (w : World) (B : Nat) (G : Option Nat) (A : Option Addr) (n c : Nat) (Ns : List Nat) : Prop :=
  ∃ cs, OwnR w B 24 1 A c n cs ∧ NtCells w (A.map (·.block)) Ns cs ∧ Ns.length = n ∧ ∀ g, G = some g → (∀ Ak nk ck, Value.slice Ak nk ck ∈ cs → ∀ ad, Ak = some ad → ad.block ≠ g) ∧ A.map (·.block) ≠ some g
theorem OwnNs.nil_ (w : World) (B : Nat) (G : Option Nat) : OwnNs w B G none 0 0 [] := ⟨[], World.ownsRow_nil _ _ _ _, rfl, rfl, fun g _ => ⟨(fun _ _ _ h => by cases h), by simp⟩⟩
theorem OwnNs.len {w : World} {B n c : Nat} {G : Option Nat} {A : Option Addr} {Ns : List Nat} (h : OwnNs w B G A n c Ns) : Ns.length = n := by
  obtain ⟨_, _, _, h, _⟩ := h
  exact h
theorem OwnNs.blk {w : World} {B n c : Nat} {G : Option Nat} {A : Option Addr} {Ns : List Nat} (h : OwnNs w B G A n c Ns) : ∀ ad, A = some ad → B ≤ ad.block ∧ ad.block < w.heap.size := by
  obtain ⟨cs, h1, _⟩ := h
  exact h1.blk
theorem OwnNs.below {w w' : World} {B n c : Nat} {G : Option Nat} {A : Option Addr} {Ns : List Nat} (h : OwnNs w B G A n c Ns) (hb : Below w.heap.size w w') : OwnNs w' B G A n c Ns := by
  obtain ⟨cs, h1, h2, h3, h4⟩ := h
  exact ⟨cs, h1.below hb, h2.below hb, h3, h4⟩
theorem OwnNs.other {w w' : World} {B n c g : Nat} {A : Option Addr} {Ns : List Nat} (h : OwnNs w B (some g) A n c Ns) (hg : w.grownBy w' (some g)) : OwnNs w' B (some g) A n c Ns := by
  obtain ⟨cs, h1, h2, h3, h4⟩ := h
  obtain ⟨h5, h6⟩ := h4 g rfl
  refine ⟨cs, h1.grown hg (fun ad e e2 => h6 ?_), h2.other hg h5, h3, h4⟩
  rw [e]
  exact e2
theorem OwnNs.free {w : World} {B n c : Nat} {G : Option Nat} {A : Option Addr} {Ns : List Nat} (h : OwnNs w B G A n c Ns) : OwnNs w B none A n c Ns := by
  obtain ⟨cs, h1, h2, h3, _⟩ := h
  exact ⟨cs, h1, h2, h3, fun g e => by cases e⟩
theorem OwnNs.lower {w : World} {B B' n c : Nat} {G : Option Nat} {A : Option Addr} {Ns : List Nat} (h : OwnNs w B G A n c Ns) (hB : B' ≤ B) : OwnNs w B' G A n c Ns := by
  obtain ⟨cs, h1, h2⟩ := h
  exact ⟨cs, h1.lower hB, h2⟩
/-- What the walk reads of a row of numbers. -/
theorem OwnNs.at_ {w : World} {B n c : Nat} {G : Option Nat} {A : Option Addr} {Ns : List Nat} (h : OwnNs w B G A n c Ns) {k : Nat} (hk : k < Ns.length) : ∃ b off Ak nk ck, A = some ⟨b, off, none⟩ ∧ b < w.heap.size ∧ w.cell? ⟨b, off + k, none⟩ = some (.slice Ak nk ck) ∧ NatR w Ak nk ck Ns[k] := by
  obtain ⟨cs, h1, h2, h3, _⟩ := h
  have hl := h2.len
  obtain ⟨Ak, nk, ck, e0, e1⟩ := h2.at_ k hk
  obtain ⟨b, off, e, hb, hc⟩ := h1.rd.at_ (k := k) (by omega)
  refine ⟨b, off, Ak, nk, ck, e, hb, ?_, e1⟩
  rw [hc, ← e0, List.getElem?_eq_getElem]

/-- append(v, a), v a row of numbers of one's own, a a number: the goal's world is that behind the variadic's box. -/
theorem appNt {w : World} {ops : Array Oper} {rest : List Oper} {o : Oper} {a : Act} {Q : Exit → Act → World → Prop} (s x : Operand) (hgd : o.guard = none)
    (ho : o.op = .call { callee := .builtin .append, args := #[s, x], argTypes := #[38, 38] })
    {B : Nat} {G : Option Nat} {A0 : Option Addr} {n0 c0 : Nat} {Ns : List Nat} (hs : a.eval s = .slice A0 n0 c0) (hown : OwnNs w B G A0 n0 c0 Ns)
    {Ak : Option Addr} {nk ck N : Nat} (hx : a.eval x = .slice (some ⟨w.heap.size, 0, none⟩) 1 1) (hr : NatR w Ak nk ck N) (hne : N ≠ 0 → ∀ ad, Ak = some ad → some ad.block ≠ A0.map (·.block)) (hG : ∀ g, G = some g → g < w.heap.size ∧ ∀ ad, Ak = some ad → ad.block ≠ g) (hb : n0 ≤ 1000000) (hbase : B ≤ w.heap.size)
    (h : ∀ A' c' w', OwnNs w' B G A' (n0 + 1) c' (Ns ++ [N]) → w.grownBy w' (A0.map (·.block)) → wpList Try.prog ops Q rest (a.put o.dst (.slice A' (n0 + 1) c')) w') :
    wpList Try.prog ops Q (o :: rest) a (w.alloc (.cells #[.slice Ak nk ck] 24)) := by
  obtain ⟨cs, h1, h2, h3, h4⟩ := hown
  have hnew := heap_alloc_new w (.cells #[.slice Ak nk ck] 24)
  have hba := (Below.refl w.heap.size w).alloc (Nat.le_refl _) (.cells #[.slice Ak nk ck] 24)
  refine wpList_app hgd s x 38 ho EN B _ n0 cs hs (h1.alloc_ _) _ 1 1 [.slice Ak nk ck] hx rfl (fun _ => ⟨_, rfl, fun j u hu => ?_⟩) (by simp [Value.oneCell']) (by omega) (by omega) (by simp; omega) ?_
  · have he : (⟨w.heap.size, 0, none⟩ : Addr).add j = ⟨w.heap.size, j, none⟩ := by
      unfold Addr.add; split
      · rename_i h0; rw [h0]
      · simp
    rw [he, cell_of_row _ _ j _ _ _ hnew, ← Array.getElem?_toList]
    exact hu
  · intro v' w' g1 g2 g3
    obtain ⟨A', c', rfl, g4⟩ := OwnR.of g1
    have hg : (w.alloc (.cells #[.slice Ak nk ck] 24)).grownBy w' (A0.map (·.block)) := by cases A0 <;> exact g2
    have hA : A'.map (·.block) = A0.map (·.block) ∨ A'.map (·.block) = some (w.alloc (.cells #[.slice Ak nk ck] 24)).heap.size := by
      cases A' <;> cases A0 <;> exact g3
    refine h A' c' w' ⟨_, g4, ((h2.below hba).snoc (hr.below hba) hne).grown hg hA, by simp [h3], fun g hgg => ?_⟩ (grown_trans (World.grownBy_alloc w _ _) hg)
    obtain ⟨h5, h6⟩ := h4 g hgg
    obtain ⟨h7, h8⟩ := hG g hgg
    refine ⟨fun A2 n2 c2 hm ad e => ?_, fun e => ?_⟩
    · rcases List.mem_append.1 hm with hm | hm
      · exact h5 A2 n2 c2 hm ad e
      · rw [List.mem_singleton] at hm
        injection hm with hm1
        subst hm1
        exact h8 ad e
    · rcases hA with hA | hA
      · exact h6 (hA.symm.trans e)
      · rw [e] at hA
        injection hA with hA
        simp at hA
        omega
end Go.Proofs.Ytcakdlfhmdkocaa
