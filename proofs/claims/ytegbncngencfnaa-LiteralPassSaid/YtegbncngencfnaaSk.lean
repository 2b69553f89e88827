/- Subpackets in memory: slices of them, and rows of the call's own. -/
import Derived.Test.YtegbncngencfnaaCuq
import Derived.Deep.RegionHeldLaw
namespace Go.Proofs.Ytegbncngencfnaa
open Go.RowKit

/-- A subpacket: its type, whether it is critical, its body. -/
abbrev SubV := Int × Bool × List UInt8
/-- A slice that reads as subpackets. -/
def Ss (w : World) (A : Option Addr) (n : Nat) (ss : List SubV) : Prop := ss.length = n ∧ ∀ k (hk : k < ss.length), ∃ b off Ak nk ck, A = some ⟨b, off, none⟩ ∧ b < w.heap.size ∧
  w.cell? ⟨b, off + k * 3, none⟩ = some (.int .i64 (ss[k]).1) ∧ w.cell? ⟨b, off + k * 3 + 1, none⟩ = some (.bool (ss[k]).2.1) ∧ w.cell? ⟨b, off + k * 3 + 2, none⟩ = some (.slice Ak nk ck) ∧ Bs w Ak nk ck (ss[k]).2.2
theorem Ss.below {w w' : World} {A : Option Addr} {n : Nat} {ss : List SubV} (h : Ss w A n ss) (hb : Below w.heap.size w w') : Ss w' A n ss := by
  refine ⟨h.1, fun k hk => ?_⟩
  obtain ⟨b, off, Ak, nk, ck, e, hl, h0, h1, h2, h3⟩ := h.2 k hk
  exact ⟨b, off, Ak, nk, ck, e, Nat.lt_of_lt_of_le hl hb.size, (hb.cell (p := ⟨b, off + k * 3, none⟩) hl).trans h0, (hb.cell (p := ⟨b, off + k * 3 + 1, none⟩) hl).trans h1, (hb.cell (p := ⟨b, off + k * 3 + 2, none⟩) hl).trans h2, h3.below hb⟩
theorem Ss.nil_ (w : World) (A : Option Addr) : Ss w A 0 [] := ⟨rfl, fun k hk => by simp at hk⟩

theorem Bs.lt8 {w : World} {A : Option Addr} {n c : Nat} {l : List UInt8} (h : Bs w A n c l) (hl : l ≠ []) : ∀ ad, A = some ad → ad.block < w.heap.size := fun ad e => by
  have hp : 0 < l.length := List.length_pos_iff.2 hl
  obtain ⟨b, off, e2, hb, _⟩ := h.byte hp
  rw [e] at e2
  injection e2 with e2
  rw [e2]
  exact hb
theorem Bs.grown8 {w w' : World} {A : Option Addr} {n c : Nat} {l : List UInt8} (h : Bs w A n c l) {row : Option Nat} (hg : w.grownBy w' row) (hne : l ≠ [] → ∀ ad, A = some ad → some ad.block ≠ row) : Bs w' A n c l := by
  by_cases hl : l = []
  · subst hl
    exact ⟨Rd.nil_ w' A c h.1.2.1, h.2⟩
  · exact h.grown hg (hne hl)

/-- The cells of subpackets whose bodies read, and lie in no block R, nor G. -/
def SkCells (w : World) (R G : Option Nat) : List SubV → List Value → Prop
  | [], cs => cs = []
  | s :: ss, cs => ∃ Ak nk ck rest, cs = .int .i64 s.1 :: .bool s.2.1 :: .slice Ak nk ck :: rest ∧ Bs w Ak nk ck s.2.2 ∧ (s.2.2 ≠ [] → ∀ ad, Ak = some ad → some ad.block ≠ R ∧ some ad.block ≠ G) ∧ SkCells w R G ss rest
theorem SkCells.grown {w w' : World} {R R' G : Option Nat} (hg : w.grownBy w' R) (hR : R' = R ∨ R' = some w.heap.size) : ∀ {ss : List SubV} {cs : List Value}, SkCells w R G ss cs → SkCells w' R' G ss cs
  | [], _, h => h
  | _ :: _, _, ⟨Ak, nk, ck, rest, e, hb, hn, ht⟩ => ⟨Ak, nk, ck, rest, e, hb.grown8 hg (fun hl ad ha => (hn hl ad ha).1), fun hl ad ha => ⟨by
      rcases hR with rfl | rfl
      · exact (hn hl ad ha).1
      · have := hb.lt8 hl ad ha
        intro e2
        injection e2 with e2
        omega, (hn hl ad ha).2⟩, ht.grown hg hR⟩
/-- What a write to the block G leaves. -/
theorem SkCells.other {w w' : World} {R G : Option Nat} (hg : w.grownBy w' G) : ∀ {ss : List SubV} {cs : List Value}, SkCells w R G ss cs → SkCells w' R G ss cs
  | [], _, h => h
  | _ :: _, _, ⟨Ak, nk, ck, rest, e, hb, hn, ht⟩ => ⟨Ak, nk, ck, rest, e, hb.grown8 hg (fun hl ad ha => (hn hl ad ha).2), hn, ht.other hg⟩
theorem SkCells.below {w w' : World} {R G : Option Nat} (hb : Below w.heap.size w w') : ∀ {ss : List SubV} {cs : List Value}, SkCells w R G ss cs → SkCells w' R G ss cs
  | [], _, h => h
  | _ :: _, _, ⟨Ak, nk, ck, rest, e, h, hn, ht⟩ => ⟨Ak, nk, ck, rest, e, h.below hb, hn, ht.below hb⟩
theorem SkCells.free {w : World} {R G : Option Nat} : ∀ {ss : List SubV} {cs : List Value}, SkCells w R G ss cs → SkCells w R none ss cs
  | [], _, h => h
  | _ :: _, _, ⟨Ak, nk, ck, rest, e, h, hn, ht⟩ => ⟨Ak, nk, ck, rest, e, h, fun hl ad ha => ⟨(hn hl ad ha).1, fun e2 => by cases e2⟩, ht.free⟩
theorem SkCells.snoc {w : World} {R G : Option Nat} {s : SubV} {Ak : Option Addr} {nk ck : Nat} (hb : Bs w Ak nk ck s.2.2) (hn : s.2.2 ≠ [] → ∀ ad, Ak = some ad → some ad.block ≠ R ∧ some ad.block ≠ G) :
    ∀ {ss : List SubV} {cs : List Value}, SkCells w R G ss cs → SkCells w R G (ss ++ [s]) (cs ++ [.int .i64 s.1, .bool s.2.1, .slice Ak nk ck])
  | [], cs, h => by
    have h' : cs = [] := h
    subst h'
    exact ⟨Ak, nk, ck, [], rfl, hb, hn, rfl⟩
  | p :: ps, cs, ⟨A1, n1, c1, rest, e, h, hn1, ht⟩ => by
    subst e
    exact ⟨A1, n1, c1, _, rfl, h, hn1, ht.snoc hb hn⟩
theorem SkCells.len {w : World} {R G : Option Nat} : ∀ {ss : List SubV} {cs : List Value}, SkCells w R G ss cs → cs.length = ss.length * 3
  | [], cs, h => by
    have h' : cs = [] := h
    subst h'; rfl
  | p :: ps, cs, ⟨A1, n1, c1, rest, e, h, hn1, ht⟩ => by
    subst e
    have := ht.len
    simp only [List.length_cons] at this ⊢
    omega
theorem SkCells.at_ {w : World} {R G : Option Nat} : ∀ {ss : List SubV} {cs : List Value}, SkCells w R G ss cs → ∀ k (hk : k < ss.length), ∃ Ak nk ck, cs[k * 3]? = some (.int .i64 (ss[k]).1) ∧ cs[k * 3 + 1]? = some (.bool (ss[k]).2.1) ∧ cs[k * 3 + 2]? = some (.slice Ak nk ck) ∧ Bs w Ak nk ck (ss[k]).2.2
  | p :: ps, cs, ⟨A1, n1, c1, rest, e, h, hn1, ht⟩, 0, _ => by
    subst e
    exact ⟨A1, n1, c1, rfl, rfl, rfl, h⟩
  | p :: ps, cs, ⟨A1, n1, c1, rest, e, h, hn1, ht⟩, k + 1, hk => by
    subst e
    obtain ⟨Ak, nk, ck, e0, e1, e2, e3⟩ := ht.at_ k (by simpa using hk)
    refine ⟨Ak, nk, ck, ?_, ?_, ?_, ?_⟩
    · rw [show (k + 1) * 3 = k * 3 + 3 by omega]; simpa using e0
    · rw [show (k + 1) * 3 + 1 = k * 3 + 1 + 3 by omega]; simpa using e1
    · rw [show (k + 1) * 3 + 2 = k * 3 + 2 + 3 by omega]; simpa using e2
    · simpa using e3

theorem ES : El Try.prog 24 78 3 40 := El.mk_ Try.underlying24 (z := .agg #[.int .i64 0, .bool false, .slice none 0 0]) (by kernel_rfl) rfl (by omega)

/-- The slice (A, n, c) is the call's own row (in a block from B on) of the subpackets ss; no body lies in block G, nor the row. -/
def OwnSs (w : World) (B : Nat) (G : Option Nat) (A : Option Addr) (n c : Nat) (ss : List SubV) : Prop :=
  ∃ cs, OwnR w B 78 3 A c n cs ∧ SkCells w (A.map (·.block)) G ss cs ∧ ss.length = n ∧ ∀ g, G = some g → A.map (·.block) ≠ some g
theorem OwnSs.nil_ (w : World) (B : Nat) (G : Option Nat) : OwnSs w B G none 0 0 [] := ⟨[], World.ownsRow_nil _ _ _ _, rfl, rfl, fun g _ => by simp⟩
theorem OwnSs.len {w : World} {B n c : Nat} {G : Option Nat} {A : Option Addr} {ss : List SubV} (h : OwnSs w B G A n c ss) : ss.length = n := by
  obtain ⟨_, _, _, h, _⟩ := h
  exact h
theorem OwnSs.blk {w : World} {B n c : Nat} {G : Option Nat} {A : Option Addr} {ss : List SubV} (h : OwnSs w B G A n c ss) : ∀ ad, A = some ad → B ≤ ad.block ∧ ad.block < w.heap.size := by
  obtain ⟨cs, h1, _⟩ := h
  exact h1.blk
theorem OwnSs.below {w w' : World} {B n c : Nat} {G : Option Nat} {A : Option Addr} {ss : List SubV} (h : OwnSs w B G A n c ss) (hb : Below w.heap.size w w') : OwnSs w' B G A n c ss := by
  obtain ⟨cs, h1, h2, h3, h4⟩ := h
  exact ⟨cs, h1.below hb, h2.below hb, h3, h4⟩
theorem OwnSs.other {w w' : World} {B n c g : Nat} {A : Option Addr} {ss : List SubV} (h : OwnSs w B (some g) A n c ss) (hg : w.grownBy w' (some g)) : OwnSs w' B (some g) A n c ss := by
  obtain ⟨cs, h1, h2, h3, h4⟩ := h
  refine ⟨cs, h1.grown hg (fun ad e e2 => h4 g rfl ?_), h2.other hg, h3, h4⟩
  rw [e]
  exact e2
theorem OwnSs.free {w : World} {B n c : Nat} {G : Option Nat} {A : Option Addr} {ss : List SubV} (h : OwnSs w B G A n c ss) : OwnSs w B none A n c ss := by
  obtain ⟨cs, h1, h2, h3, _⟩ := h
  exact ⟨cs, h1, h2.free, h3, fun g e => by cases e⟩
theorem OwnSs.lower {w : World} {B B' n c : Nat} {G : Option Nat} {A : Option Addr} {ss : List SubV} (h : OwnSs w B G A n c ss) (hB : B' ≤ B) : OwnSs w B' G A n c ss := by
  obtain ⟨cs, h1, h2⟩ := h
  exact ⟨cs, h1.lower hB, h2⟩
theorem OwnSs.ss {w : World} {B n c : Nat} {G : Option Nat} {A : Option Addr} {ss : List SubV} (h : OwnSs w B G A n c ss) : Ss w A n ss := by
  obtain ⟨cs, h1, h2, h3, _⟩ := h
  refine ⟨h3, fun k hk => ?_⟩
  obtain ⟨Ak, nk, ck, e0, e1, e2, e3⟩ := h2.at_ k hk
  have hl := h2.len
  rcases h1.2 with ⟨_, h0⟩ | ⟨g, cap, cur, hv, hbg, hh, hnc, hcm, hcs, htake⟩
  · rw [h0] at h3; omega
  · injection hv with hA hn' hc'
    subst hA
    have hcell : ∀ j, j < n * 3 → w.cell? ⟨g, 0 + j, none⟩ = cs[j]? := fun j hj => by
      rw [Nat.zero_add, cell_of_row w g j cur _ _ hh, ← htake, List.getElem?_take, if_pos hj, Array.getElem?_toList]
    refine ⟨g, 0, Ak, nk, ck, rfl, h1.blk _ rfl |>.2, ?_, ?_, ?_, e3⟩
    · rw [hcell _ (by omega), e0]
    · rw [Nat.add_assoc, hcell _ (by omega), e1]
    · rw [Nat.add_assoc, hcell _ (by omega), e2]

/-- append(v, s), v a row of subpackets of one's own: what the run leaves. -/
theorem run_appSk {w : World} {B : Nat} {G : Option Nat} {A0 : Option Addr} {n0 c0 : Nat} {ss : List SubV} (hown : OwnSs w B G A0 n0 c0 ss) {g : Nat} {s : SubV} {Ak : Option Addr} {nk ck : Nat} (ty : TypeId)
    (hnew : w.heap[g]? = some (.cells #[.int .i64 s.1, .bool s.2.1, .slice Ak nk ck] 78 (0, 0))) (hr : Bs w Ak nk ck s.2.2) (hne : s.2.2 ≠ [] → ∀ ad, Ak = some ad → some ad.block ≠ A0.map (·.block) ∧ some ad.block ≠ G) (hG : ∀ k, G = some k → k < w.heap.size) (hb : n0 ≤ 1000000) (hbase : B ≤ w.heap.size) :
    ∃ A' c' w', (Builtin.append_ #[24, 24] ty #[.slice A0 n0 c0, .slice (some ⟨g, 0, none⟩) 1 1]).run Try.prog w = .ok (.slice A' (n0 + 1) c') w' ∧ OwnSs w' B G A' (n0 + 1) c' (ss ++ [s]) ∧ w.grownBy w' (A0.map (·.block)) ∧ (∀ ad, A' = some ad → (A0.map (·.block) = some ad.block ∨ w.heap.size ≤ ad.block)) := by
  obtain ⟨cs, h1, h2, h3, h4⟩ := hown
  obtain ⟨v', w', hrun, g1, g2, g3⟩ := run_app ES B ty (.slice A0 n0 c0) n0 cs h1.own (some ⟨g, 0, none⟩) 1 1 [.int .i64 s.1, .bool s.2.1, .slice Ak nk ck] rfl (fun _ => ⟨_, rfl, fun j u hu => by
    have he : (⟨g, 0, none⟩ : Addr).add j = ⟨g, j, none⟩ := by
      unfold Addr.add; split
      · rename_i h0; rw [h0]
      · simp
    rw [he, cell_of_row _ _ j _ _ _ hnew, ← Array.getElem?_toList]
    exact hu⟩) (by simp [Value.oneCell']) (by omega) (by omega) hbase
  obtain ⟨A', c', rfl, g4⟩ := OwnR.of g1
  have hg : w.grownBy w' (A0.map (·.block)) := by cases A0 <;> exact g2
  have hA : A'.map (·.block) = A0.map (·.block) ∨ A'.map (·.block) = some w.heap.size := by
    cases A' <;> cases A0 <;> exact g3
  refine ⟨A', c', w', hrun, ⟨_, g4, (h2.snoc hr hne).grown hg hA, by simp [h3], fun k hk e => ?_⟩, hg, fun ad e => ?_⟩
  · rcases hA with hA | hA
    · exact h4 k hk (hA.symm.trans e)
    · rw [e] at hA
      injection hA with hA
      have := hG k hk
      omega
  · subst e
    rcases hA with hA | hA
    · exact .inl hA.symm
    · right
      have : ad.block = w.heap.size := by simpa using hA
      omega
theorem appSk {w : World} {ops : Array Oper} {rest : List Oper} {o : Oper} {a : Act} {Q : Exit → Act → World → Prop} (s x : Operand) (hgd : o.guard = none)
    (ho : o.op = .call { callee := .builtin .append, args := #[s, x], argTypes := #[24, 24] })
    {B : Nat} {G : Option Nat} {A0 : Option Addr} {n0 c0 : Nat} {ss : List SubV} (hs : a.eval s = .slice A0 n0 c0) (hown : OwnSs w B G A0 n0 c0 ss)
    {g : Nat} (sv : SubV) {Ak : Option Addr} {nk ck : Nat} (hx : a.eval x = .slice (some ⟨g, 0, none⟩) 1 1) (hnew : w.heap[g]? = some (.cells #[.int .i64 sv.1, .bool sv.2.1, .slice Ak nk ck] 78 (0, 0))) (hr : Bs w Ak nk ck sv.2.2)
    (hne : sv.2.2 ≠ [] → ∀ ad, Ak = some ad → some ad.block ≠ A0.map (·.block) ∧ some ad.block ≠ G) (hG : ∀ k, G = some k → k < w.heap.size) (hb : n0 ≤ 1000000) (hbase : B ≤ w.heap.size)
    (h : ∀ A' c' w', OwnSs w' B G A' (n0 + 1) c' (ss ++ [sv]) → w.grownBy w' (A0.map (·.block)) → (∀ ad, A' = some ad → (A0.map (·.block) = some ad.block ∨ w.heap.size ≤ ad.block)) → wpList Try.prog ops Q rest (a.put o.dst (.slice A' (n0 + 1) c')) w') :
    wpList Try.prog ops Q (o :: rest) a w :=
  wpList_plain hgd fun _ hK => by
    obtain ⟨A', c', w', hrun, g1, g2, g3⟩ := run_appSk hown o.type hnew hr hne hG hb hbase
    unfold Oper.wp execOp
    simp only [ho, resolve, invoke, builtin, Sem.run_bind, Sem.run_pure, Result.andThen_ok, List.map_toArray, List.map_cons, List.map_nil, hs, hx, hrun]
    exact hK _ _ (h A' c' w' g1 g2 g3)
theorem stepSk {W : World} {ops : Array Oper} {o : Oper} {a : Act} {K : Act → World → Prop} {Q : Exit → Act → World → Prop} {E : Prop} (s x : Operand) (hgd : o.guard = none)
    (ho : o.op = .call { callee := .builtin .append, args := #[s, x], argTypes := #[24, 24] })
    {B : Nat} {G : Option Nat} {A0 : Option Addr} {n0 c0 : Nat} {ss : List SubV} (hs : a.eval s = .slice A0 n0 c0) (hown : OwnSs W B G A0 n0 c0 ss)
    {g : Nat} (sv : SubV) {Ak : Option Addr} {nk ck : Nat} (hx : a.eval x = .slice (some ⟨g, 0, none⟩) 1 1) (hnew : W.heap[g]? = some (.cells #[.int .i64 sv.1, .bool sv.2.1, .slice Ak nk ck] 78 (0, 0))) (hr : Bs W Ak nk ck sv.2.2)
    (hne : sv.2.2 ≠ [] → ∀ ad, Ak = some ad → some ad.block ≠ A0.map (·.block) ∧ some ad.block ≠ G) (hG : ∀ k, G = some k → k < W.heap.size) (hb : n0 ≤ 1000000) (hbase : B ≤ W.heap.size)
    (h : ∀ A' c' w', OwnSs w' B G A' (n0 + 1) c' (ss ++ [sv]) → W.grownBy w' (A0.map (·.block)) → (∀ ad, A' = some ad → (A0.map (·.block) = some ad.block ∨ W.heap.size ≤ ad.block)) → K (a.put o.dst (.slice A' (n0 + 1) c')) w') :
    if Region.wanted o (yielded ops a.tmps) = true then Oper.wp Try.prog o a W K Q else E := by
  have hw : Region.wanted o (yielded ops a.tmps) = true := by simp [Region.wanted, hgd]
  rw [if_pos hw]
  obtain ⟨A', c', w', hrun, g1, g2, g3⟩ := run_appSk hown o.type hnew hr hne hG hb hbase
  unfold Oper.wp execOp
  simp only [ho, resolve, invoke, builtin, Sem.run_bind, Sem.run_pure, Result.andThen_ok, List.map_toArray, List.map_cons, List.map_nil, hs, hx, hrun]
  exact h A' c' w' g1 g2 g3
end Go.Proofs.Ytegbncngencfnaa
