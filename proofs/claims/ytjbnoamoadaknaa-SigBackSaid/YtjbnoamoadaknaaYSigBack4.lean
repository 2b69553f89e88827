import Derived.Test.YtjbnoamoadaknaaYSigBack3
import Derived.Deep.RegionHeldLaw
import Derived.Test.YtjbnoamoadaknaaYSigBack2
import Derived.Deep.Slices
import Derived.SizedLaws
/- Subpackets in memory: slices of them, and rows of the call's own. -/
section
namespace Go.Proofs.Ytjbnoamoadaknaa
open Go.RowKit

/-- A subpacket: its type, whether it is critical, its body. -/
abbrev SubV := Int × Bool × List UInt8
/-- A slice that reads as subpackets. -/
def Ss (w : World) (A : Option Addr) (n : Nat) (ss : List SubV) : Prop := ss.length = n ∧ ∀ k (hk : k < ss.length), ∃ b off Ak nk ck, A = some ⟨b, off, none⟩ ∧ b < w.heap.size ∧
  w.cell? ⟨b, off + k * 3, none⟩ = some (.int .i64 (ss[k]).1) ∧ w.cell? ⟨b, off + k * 3 + 1, none⟩ = some (.bool (ss[k]).2.1) ∧ w.cell? ⟨b, off + k * 3 + 2, none⟩ = some (.slice Ak nk ck) ∧ Bs w Ak nk ck (ss[k]).2.2
theorem Ss.below {w w' : World} {A : Option Addr} {n : Nat} {ss : List SubV} (h : Ss w A n ss) (hb : Below w.heap.size w w') : Ss w' A n ss := by
  refine ⟨h.1, fun k hk => ?_⟩
  obtain ⟨b, off, Ak, nk, ck, e, hl, h0, h1, h2, h3⟩ := h.2 k hk
  exact ⟨b, off, Ak, nk, ck, e, Nat.lt_of_lt_of_le hl hb.size, (hb.cell (p := ⟨b, off + k * 3, none⟩) hl).trans h0, (hb.cell (p := ⟨b, off + k * 3 + 1, none⟩) hl).trans h1, (hb.cell (p := ⟨b, off + k * 3 + 2, none⟩) hl).trans h2, h3.below hb⟩
theorem Ss.nil_ (w : World) (A : Option Addr) : Ss w A 0 [] := ⟨rfl, fun k hk => by simp at hk⟩

theorem Bs.lt8 {w : World} {A : Option Addr} {n c : Nat} {l : List UInt8} (h : Bs w A n c l) (hl : l ≠ []) : ∀ ad, A = some ad → ad.block < w.heap.size := fun ad e => by
  have hp : 0 < l.length := List.length_pos_iff.2 hl
  obtain ⟨b, off, e2, hb, _⟩ := h.byte hp
  rw [e] at e2
  injection e2 with e2
  rw [e2]
  exact hb
theorem Bs.grown8 {w w' : World} {A : Option Addr} {n c : Nat} {l : List UInt8} (h : Bs w A n c l) {row : Option Nat} (hg : w.grownBy w' row) (hne : l ≠ [] → ∀ ad, A = some ad → some ad.block ≠ row) : Bs w' A n c l := by
  by_cases hl : l = []
  · subst hl
    exact ⟨Rd.nil_ w' A c h.1.2.1, h.2⟩
  · exact h.grown hg (hne hl)

/-- The cells of subpackets whose bodies read, and lie in no block R, nor G. -/
def SkCells (w : World) (R G : Option Nat) : List SubV → List Value → Prop
  | [], cs => cs = []
  | s :: ss, cs => ∃ Ak nk ck rest, cs = .int .i64 s.1 :: .bool s.2.1 :: .slice Ak nk ck :: rest ∧ Bs w Ak nk ck s.2.2 ∧ (s.2.2 ≠ [] → ∀ ad, Ak = some ad → some ad.block ≠ R ∧ some ad.block ≠ G) ∧ SkCells w R G ss rest
theorem SkCells.grown {w w' : World} {R R' G : Option Nat} (hg : w.grownBy w' R) (hR : R' = R ∨ R' = some w.heap.size) : ∀ {ss : List SubV} {cs : List Value}, SkCells w R G ss cs → SkCells w' R' G ss cs
  | [], _, h => h
  | _ :: _, _, ⟨Ak, nk, ck, rest, e, hb, hn, ht⟩ => ⟨Ak, nk, ck, rest, e, hb.grown8 hg (fun hl ad ha => (hn hl ad ha).1), fun hl ad ha => ⟨by
      rcases hR with rfl | rfl
      · exact (hn hl ad ha).1
      · have := hb.lt8 hl ad ha
        intro e2
        injection e2 with e2
        omega, (hn hl ad ha).2⟩, ht.grown hg hR⟩
/-- What a write to the block G leaves. -/
theorem SkCells.other {w w' : World} {R G : Option Nat} (hg : w.grownBy w' G) : ∀ {ss : List SubV} {cs : List Value}, SkCells w R G ss cs → SkCells w' R G ss cs
  | [], _, h => h
  | _ :: _, _, ⟨Ak, nk, ck, rest, e, hb, hn, ht⟩ => ⟨Ak, nk, ck, rest, e, hb.grown8 hg (fun hl ad ha => (hn hl ad ha).2), hn, ht.other hg⟩
theorem SkCells.below {w w' : World} {R G : Option Nat} (hb : Below w.heap.size w w') : ∀ {ss : List SubV} {cs : List Value}, SkCells w R G ss cs → SkCells w' R G ss cs
  | [], _, h => h
  | _ :: _, _, ⟨Ak, nk, ck, rest, e, h, hn, ht⟩ => ⟨Ak, nk, ck, rest, e, h.below hb, hn, ht.below hb⟩
theorem SkCells.free {w : World} {R G : Option Nat} : ∀ {ss : List SubV} {cs : List Value}, SkCells w R G ss cs → SkCells w R none ss cs
  | [], _, h => h
  | _ :: _, _, ⟨Ak, nk, ck, rest, e, h, hn, ht⟩ => ⟨Ak, nk, ck, rest, e, h, fun hl ad ha => ⟨(hn hl ad ha).1, fun e2 => by cases e2⟩, ht.free⟩
theorem SkCells.snoc {w : World} {R G : Option Nat} {s : SubV} {Ak : Option Addr} {nk ck : Nat} (hb : Bs w Ak nk ck s.2.2) (hn : s.2.2 ≠ [] → ∀ ad, Ak = some ad → some ad.block ≠ R ∧ some ad.block ≠ G) :
    ∀ {ss : List SubV} {cs : List Value}, SkCells w R G ss cs → SkCells w R G (ss ++ [s]) (cs ++ [.int .i64 s.1, .bool s.2.1, .slice Ak nk ck])
  | [], cs, h => by
    have h' : cs = [] := h
    subst h'
    exact ⟨Ak, nk, ck, [], rfl, hb, hn, rfl⟩
  | p :: ps, cs, ⟨A1, n1, c1, rest, e, h, hn1, ht⟩ => by
    subst e
    exact ⟨A1, n1, c1, _, rfl, h, hn1, ht.snoc hb hn⟩
theorem SkCells.len {w : World} {R G : Option Nat} : ∀ {ss : List SubV} {cs : List Value}, SkCells w R G ss cs → cs.length = ss.length * 3
  | [], cs, h => by
    have h' : cs = [] := h
    subst h'; rfl
  | p :: ps, cs, ⟨A1, n1, c1, rest, e, h, hn1, ht⟩ => by
    subst e
    have := ht.len
    simp only [List.length_cons] at this ⊢
    omega
theorem SkCells.at_ {w : World} {R G : Option Nat} : ∀ {ss : List SubV} {cs : List Value}, SkCells w R G ss cs → ∀ k (hk : k < ss.length), ∃ Ak nk ck, cs[k * 3]? = some (.int .i64 (ss[k]).1) ∧ cs[k * 3 + 1]? = some (.bool (ss[k]).2.1) ∧ cs[k * 3 + 2]? = some (.slice Ak nk ck) ∧ Bs w Ak nk ck (ss[k]).2.2
  | p :: ps, cs, ⟨A1, n1, c1, rest, e, h, hn1, ht⟩, 0, _ => by
    subst e
    exact ⟨A1, n1, c1, rfl, rfl, rfl, h⟩
  | p :: ps, cs, ⟨A1, n1, c1, rest, e, h, hn1, ht⟩, k + 1, hk => by
    subst e
    obtain ⟨Ak, nk, ck, e0, e1, e2, e3⟩ := ht.at_ k (by simpa using hk)
    refine ⟨Ak, nk, ck, ?_, ?_, ?_, ?_⟩
    · rw [show (k + 1) * 3 = k * 3 + 3 by omega]; simpa using e0
    · rw [show (k + 1) * 3 + 1 = k * 3 + 1 + 3 by omega]; simpa using e1
    · rw [show (k + 1) * 3 + 2 = k * 3 + 2 + 3 by omega]; simpa using e2
    · simpa using e3

theorem ES : El Try.prog 24 70 3 40 := El.mk_ Try.underlying24 (z := .agg #[.int .i64 0, .bool false, .slice none 0 0]) (by kernel_rfl) rfl (by omega)

/-- The slice (A, n, c) is the call's own row (in a block from B on) of the subpackets ss; no body lies in block G, nor the row. -/
def OwnSs (w : World) (B : Nat) (G : Option Nat) (A : Option Addr) (n c : Nat) (ss : List SubV) : Prop :=
  ∃ cs, OwnR w B 70 3 A c n cs ∧ SkCells w (A.map (·.block)) G ss cs ∧ ss.length = n ∧ ∀ g, G = some g → A.map (·.block) ≠ some g
theorem OwnSs.nil_ (w : World) (B : Nat) (G : Option Nat) : OwnSs w B G none 0 0 [] := ⟨[], World.ownsRow_nil _ _ _ _, rfl, rfl, fun g _ => by simp⟩
theorem OwnSs.len {w : World} {B n c : Nat} {G : Option Nat} {A : Option Addr} {ss : List SubV} (h : OwnSs w B G A n c ss) : ss.length = n := by
  obtain ⟨_, _, _, h, _⟩ := h
  exact h
theorem OwnSs.blk {w : World} {B n c : Nat} {G : Option Nat} {A : Option Addr} {ss : List SubV} (h : OwnSs w B G A n c ss) : ∀ ad, A = some ad → B ≤ ad.block ∧ ad.block < w.heap.size := by
  obtain ⟨cs, h1, _⟩ := h
  exact h1.blk
theorem OwnSs.below {w w' : World} {B n c : Nat} {G : Option Nat} {A : Option Addr} {ss : List SubV} (h : OwnSs w B G A n c ss) (hb : Below w.heap.size w w') : OwnSs w' B G A n c ss := by
  obtain ⟨cs, h1, h2, h3, h4⟩ := h
  exact ⟨cs, h1.below hb, h2.below hb, h3, h4⟩
theorem OwnSs.other {w w' : World} {B n c g : Nat} {A : Option Addr} {ss : List SubV} (h : OwnSs w B (some g) A n c ss) (hg : w.grownBy w' (some g)) : OwnSs w' B (some g) A n c ss := by
  obtain ⟨cs, h1, h2, h3, h4⟩ := h
  refine ⟨cs, h1.grown hg (fun ad e e2 => h4 g rfl ?_), h2.other hg, h3, h4⟩
  rw [e]
  exact e2
theorem OwnSs.free {w : World} {B n c : Nat} {G : Option Nat} {A : Option Addr} {ss : List SubV} (h : OwnSs w B G A n c ss) : OwnSs w B none A n c ss := by
  obtain ⟨cs, h1, h2, h3, _⟩ := h
  exact ⟨cs, h1, h2.free, h3, fun g e => by cases e⟩
theorem OwnSs.lower {w : World} {B B' n c : Nat} {G : Option Nat} {A : Option Addr} {ss : List SubV} (h : OwnSs w B G A n c ss) (hB : B' ≤ B) : OwnSs w B' G A n c ss := by
  obtain ⟨cs, h1, h2⟩ := h
  exact ⟨cs, h1.lower hB, h2⟩
theorem OwnSs.ss {w : World} {B n c : Nat} {G : Option Nat} {A : Option Addr} {ss : List SubV} (h : OwnSs w B G A n c ss) : Ss w A n ss := by
  obtain ⟨cs, h1, h2, h3, _⟩ := h
  refine ⟨h3, fun k hk => ?_⟩
  obtain ⟨Ak, nk, ck, e0, e1, e2, e3⟩ := h2.at_ k hk
  have hl := h2.len
  rcases h1.2 with ⟨_, h0⟩ | ⟨g, cap, cur, hv, hbg, hh, hnc, hcm, hcs, htake⟩
  · rw [h0] at h3; omega
  · injection hv with hA hn' hc'
    subst hA
    have hcell : ∀ j, j < n * 3 → w.cell? ⟨g, 0 + j, none⟩ = cs[j]? := fun j hj => by
      rw [Nat.zero_add, cell_of_row w g j cur _ _ hh, ← htake, List.getElem?_take, if_pos hj, Array.getElem?_toList]
    refine ⟨g, 0, Ak, nk, ck, rfl, h1.blk _ rfl |>.2, ?_, ?_, ?_, e3⟩
    · rw [hcell _ (by omega), e0]
    · rw [Nat.add_assoc, hcell _ (by omega), e1]
    · rw [Nat.add_assoc, hcell _ (by omega), e2]

/-- append(v, s), v a row of subpackets of one's own: what the run leaves. -/
theorem run_appSk {w : World} {B : Nat} {G : Option Nat} {A0 : Option Addr} {n0 c0 : Nat} {ss : List SubV} (hown : OwnSs w B G A0 n0 c0 ss) {g : Nat} {s : SubV} {Ak : Option Addr} {nk ck : Nat} (ty : TypeId)
    (hnew : w.heap[g]? = some (.cells #[.int .i64 s.1, .bool s.2.1, .slice Ak nk ck] 70 (0, 0))) (hr : Bs w Ak nk ck s.2.2) (hne : s.2.2 ≠ [] → ∀ ad, Ak = some ad → some ad.block ≠ A0.map (·.block) ∧ some ad.block ≠ G) (hG : ∀ k, G = some k → k < w.heap.size) (hb : n0 ≤ 1000000) (hbase : B ≤ w.heap.size) :
    ∃ A' c' w', (Builtin.append_ #[24, 24] ty #[.slice A0 n0 c0, .slice (some ⟨g, 0, none⟩) 1 1]).run Try.prog w = .ok (.slice A' (n0 + 1) c') w' ∧ OwnSs w' B G A' (n0 + 1) c' (ss ++ [s]) ∧ w.grownBy w' (A0.map (·.block)) ∧ (∀ ad, A' = some ad → (A0.map (·.block) = some ad.block ∨ w.heap.size ≤ ad.block)) := by
  obtain ⟨cs, h1, h2, h3, h4⟩ := hown
  obtain ⟨v', w', hrun, g1, g2, g3⟩ := run_app ES B ty (.slice A0 n0 c0) n0 cs h1.own (some ⟨g, 0, none⟩) 1 1 [.int .i64 s.1, .bool s.2.1, .slice Ak nk ck] rfl (fun _ => ⟨_, rfl, fun j u hu => by
    have he : (⟨g, 0, none⟩ : Addr).add j = ⟨g, j, none⟩ := by
      unfold Addr.add; split
      · rename_i h0; rw [h0]
      · simp
    rw [he, cell_of_row _ _ j _ _ _ hnew, ← Array.getElem?_toList]
    exact hu⟩) (by simp [Value.oneCell']) (by omega) (by omega) hbase
  obtain ⟨A', c', rfl, g4⟩ := OwnR.of g1
  have hg : w.grownBy w' (A0.map (·.block)) := by cases A0 <;> exact g2
  have hA : A'.map (·.block) = A0.map (·.block) ∨ A'.map (·.block) = some w.heap.size := by
    cases A' <;> cases A0 <;> exact g3
  refine ⟨A', c', w', hrun, ⟨_, g4, (h2.snoc hr hne).grown hg hA, by simp [h3], fun k hk e => ?_⟩, hg, fun ad e => ?_⟩
  · rcases hA with hA | hA
    · exact h4 k hk (hA.symm.trans e)
    · rw [e] at hA
      injection hA with hA
      have := hG k hk
      omega
  · subst e
    rcases hA with hA | hA
    · exact .inl hA.symm
    · right
      have : ad.block = w.heap.size := by simpa using hA
      omega
theorem appSk {w : World} {ops : Array Oper} {rest : List Oper} {o : Oper} {a : Act} {Q : Exit → Act → World → Prop} (s x : Operand) (hgd : o.guard = none)
    (ho : o.op = .call { callee := .builtin .append, args := #[s, x], argTypes := #[24, 24] })
    {B : Nat} {G : Option Nat} {A0 : Option Addr} {n0 c0 : Nat} {ss : List SubV} (hs : a.eval s = .slice A0 n0 c0) (hown : OwnSs w B G A0 n0 c0 ss)
    {g : Nat} (sv : SubV) {Ak : Option Addr} {nk ck : Nat} (hx : a.eval x = .slice (some ⟨g, 0, none⟩) 1 1) (hnew : w.heap[g]? = some (.cells #[.int .i64 sv.1, .bool sv.2.1, .slice Ak nk ck] 70 (0, 0))) (hr : Bs w Ak nk ck sv.2.2)
    (hne : sv.2.2 ≠ [] → ∀ ad, Ak = some ad → some ad.block ≠ A0.map (·.block) ∧ some ad.block ≠ G) (hG : ∀ k, G = some k → k < w.heap.size) (hb : n0 ≤ 1000000) (hbase : B ≤ w.heap.size)
    (h : ∀ A' c' w', OwnSs w' B G A' (n0 + 1) c' (ss ++ [sv]) → w.grownBy w' (A0.map (·.block)) → (∀ ad, A' = some ad → (A0.map (·.block) = some ad.block ∨ w.heap.size ≤ ad.block)) → wpList Try.prog ops Q rest (a.put o.dst (.slice A' (n0 + 1) c')) w') :
    wpList Try.prog ops Q (o :: rest) a w :=
  wpList_plain hgd fun _ hK => by
    obtain ⟨A', c', w', hrun, g1, g2, g3⟩ := run_appSk hown o.type hnew hr hne hG hb hbase
    unfold Oper.wp execOp
    simp only [ho, resolve, invoke, builtin, Sem.run_bind, Sem.run_pure, Result.andThen_ok, List.map_toArray, List.map_cons, List.map_nil, hs, hx, hrun]
    exact hK _ _ (h A' c' w' g1 g2 g3)
theorem stepSk {W : World} {ops : Array Oper} {o : Oper} {a : Act} {K : Act → World → Prop} {Q : Exit → Act → World → Prop} {E : Prop} (s x : Operand) (hgd : o.guard = none)
    (ho : o.op = .call { callee := .builtin .append, args := #[s, x], argTypes := #[24, 24] })
    {B : Nat} {G : Option Nat} {A0 : Option Addr} {n0 c0 : Nat} {ss : List SubV} (hs : a.eval s = .slice A0 n0 c0) (hown : OwnSs W B G A0 n0 c0 ss)
    {g : Nat} (sv : SubV) {Ak : Option Addr} {nk ck : Nat} (hx : a.eval x = .slice (some ⟨g, 0, none⟩) 1 1) (hnew : W.heap[g]? = some (.cells #[.int .i64 sv.1, .bool sv.2.1, .slice Ak nk ck] 70 (0, 0))) (hr : Bs W Ak nk ck sv.2.2)
    (hne : sv.2.2 ≠ [] → ∀ ad, Ak = some ad → some ad.block ≠ A0.map (·.block) ∧ some ad.block ≠ G) (hG : ∀ k, G = some k → k < W.heap.size) (hb : n0 ≤ 1000000) (hbase : B ≤ W.heap.size)
    (h : ∀ A' c' w', OwnSs w' B G A' (n0 + 1) c' (ss ++ [sv]) → W.grownBy w' (A0.map (·.block)) → (∀ ad, A' = some ad → (A0.map (·.block) = some ad.block ∨ W.heap.size ≤ ad.block)) → K (a.put o.dst (.slice A' (n0 + 1) c')) w') :
    if Region.wanted o (yielded ops a.tmps) = true then Oper.wp Try.prog o a W K Q else E := by
  have hw : Region.wanted o (yielded ops a.tmps) = true := by simp [Region.wanted, hgd]
  rw [if_pos hw]
  obtain ⟨A', c', w', hrun, g1, g2, g3⟩ := run_appSk hown o.type hnew hr hne hG hb hbase
  unfold Oper.wp execOp
  simp only [ho, resolve, invoke, builtin, Sem.run_bind, Sem.run_pure, Result.andThen_ok, List.map_toArray, List.map_cons, List.map_nil, hs, hx, hrun]
  exact h A' c' w' g1 g2 g3
end Go.Proofs.Ytjbnoamoadaknaa
end

/- What a statement's row opens: subpackets, each body within what memory bears. -/
section
namespace Go.Proofs.Ytjbnoamoadaknaa
open Go.ChangeShapes Go.WideShapes Go.ChangeAt Go.RowKit
set_option maxRecDepth 100000
theorem sub_fields : ∃ f0 f1 f2 : Field, Try.prog.underlying 70 = some (.struct #[f0, f1, f2]) ∧ f0.offset = 0 ∧ f1.offset = 1 ∧ f2.offset = 2 ∧ Try.prog.cellsOf f0.type = 1 ∧ Try.prog.cellsOf f1.type = 1 ∧ Try.prog.cellsOf f2.type = 1 ∧
    Try.prog.underlying f0.type = some (.int .i64) ∧ Try.prog.underlying f1.type = some .bool ∧ Try.prog.underlying f2.type = some (.slice 5) :=
  ⟨_, _, _, Try.underlying70, rfl, rfl, rfl, by kernel_rfl, by kernel_rfl, by kernel_rfl, by kernel_rfl, by kernel_rfl, by kernel_rfl⟩
/-- The bytes that lie at a field, and the datum they read as. -/
theorem cells_bytes {H : Type} {enc : TypeId × Value → H} {W : World} {t : TypeId} {fuel : Nat} {cs : List Value} {x : DataW H × List MemPlace} (ht : Try.prog.underlying t = some (.slice 5)) (hf : DataW.trod enc Try.prog W 0 (fun _ => true) true fuel t cs = some x) :
    ∃ (A : Option Addr) (n c : Nat) (l : List UInt8), cs = [.slice A n c] ∧ Bs W A n c l ∧ ∀ B, (∀ q ∈ DataW.weights Try.prog t x.1, q ≤ B) → n ≤ B := by
  rcases open_ints ht Try.underlying5 (by kernel_rfl) hf with ⟨hcs, _⟩ | ⟨x, l, c, zs, hcs, _, hl, hm, hz, hx, hcell, hwz⟩
  · exact ⟨none, 0, 0, [], hcs, Bs.nil_ W, fun B _ => Nat.zero_le B⟩
  · have hzl : zs.length = c := by simpa using hz
    have hlen : (zs.take l).length = l := by rw [List.length_take]; omega
    refine ⟨some x, l, c, (zs.take l).map fun z => UInt8.ofNat z.toNat, hcs, ⟨?_, by simpa using hlen⟩, fun B hB => ?_⟩
    · have e : bvs ((zs.take l).map fun z => UInt8.ofNat z.toNat) = (zs.take l).map (Value.int .u8) := by
        simp only [bvs, List.map_map]
        refine List.map_congr_left fun z hz => ?_
        have hb := bounds_u8 (hwz z (List.mem_of_mem_take hz))
        obtain ⟨n, rfl⟩ := Int.eq_ofNat_of_zero_le hb.1
        simp only [Function.comp, bv, Int.toNat_natCast]
        rw [UInt8.toNat_ofNat_of_lt' (by simp [UInt8.size]; omega)]
      rw [e]
      refine ⟨by simp; omega, hm, fun hn => ⟨x, rfl, ?_, fun j u hu => ?_⟩⟩
      · have h0 : 0 < zs.length := by simp at hn; omega
        exact World.block_lt_of_cell? W x (by simpa [Addr.add] using hcell 0 h0)
      · rw [List.getElem?_map, List.getElem?_take] at hu
        split at hu
        · rename_i hj
          have hjz : j < zs.length := by omega
          rw [List.getElem?_eq_getElem hjz] at hu
          simp only [Option.map_some, Option.some.injEq] at hu
          rw [hcell j hjz, ← hu]
          simp [List.getD, List.getElem?_eq_getElem hjz]
        · simp at hu
    · have hby : Try.prog.bytesOf 5 = 1 := by kernel_rfl
      rw [hx] at hB
      have := hB ((zs.take l).length + (zs.drop l).length) (by simp [DataW.weights, ht, hby, lits])
      omega

theorem weights_mem_all {H : Type} {P : Program} {e : TypeId} : ∀ {ds : List (DataW H)} {d : DataW H}, d ∈ ds → ∀ n ∈ d.weights P e, n ∈ DataW.weightsAll P e ds
  | d0 :: ds, d, hd, n, hn => by
    simp only [DataW.weightsAll, List.mem_append]
    rcases List.mem_cons.1 hd with rfl | hd
    · exact .inl hn
    · exact .inr (weights_mem_all hd n hn)

theorem open_subs {H : Type} {enc : TypeId × Value → H} {W : World} {base : Nat} {v : Value} {d : DataW H} {p : List MemPlace} {t : TypeId} {B : Nat} (ht : Try.prog.underlying t = some (.slice 70)) (hv : Value.okWide Try.prog W .any base t v) (h : DataW.Trod enc Try.prog W 0 (fun _ => true) true t v d p) (hB : ∀ q ∈ d.weights Try.prog t, q ≤ B) :
    ∃ (A : Option Addr) (n c : Nat) (ss : List SubV), v = .slice A n c ∧ Ss W A n ss ∧ n ≤ 9223372036854775807 ∧ ∀ s ∈ ss, s.2.2.length ≤ B := by
  obtain ⟨f0, f1, f2, hs, o0, o1, o2, c0, c1, c2, u0, u1, u2⟩ := sub_fields
  have ce : Try.prog.cellsOf 70 = 3 := by kernel_rfl
  obtain ⟨a0, len0, cap0, rfl⟩ := okWide_slice ht hv
  obtain ⟨fuel, hf⟩ := h
  rcases Go.Deep.open_slice ht hf with ⟨hcs, _⟩ | ⟨a, len, cap, m, n, D, Pl, hcs, _, hl, hm, hmm, hd, hx⟩
  · simp [Value.cells] at hcs
    obtain ⟨rfl, rfl, rfl⟩ := hcs
    exact ⟨none, 0, 0, [], rfl, ⟨rfl, fun k hk => by simp at hk⟩, by omega, fun s hs => by cases hs⟩
  · simp [Value.cells] at hcs
    obtain ⟨rfl, rfl, rfl⟩ := hcs
    have hmc : m = cap0 := by simpa using hmm
    simp only [Prod.mk.injEq] at hd
    have hi : ∀ i, ∃ s : SubV, i < len0 → s.2.2.length ≤ B ∧ ∃ Ak nk ck, W.cell? (a.add (i * 3)) = some (.int .i64 s.1) ∧ W.cell? (a.add (i * 3 + 1)) = some (.bool s.2.1) ∧ W.cell? (a.add (i * 3 + 2)) = some (.slice Ak nk ck) ∧ Bs W Ak nk ck s.2.2 := fun i => by
      by_cases hi : i < len0
      · obtain ⟨cs', h1, h2⟩ := hx i (by omega)
        rw [ce] at h1
        obtain ⟨_, hlen, hcell⟩ := World.cells?_some h1
        obtain ⟨xs, k, hk, hxy, _, hxl, hfl⟩ := DataW.trod_struct hs h2
        match xs, hxl, cs', hlen with
        | [y0, y1, y2], _, [v0, v1, v2], _ =>
          have g0 := hfl 0 f0 rfl
          have g1 := hfl 1 f1 rfl
          have g2 := hfl 2 f2 rfl
          simp [o0, o1, o2, c0, c1, c2] at g0 g1 g2
          have e0 := hcell 0 (by omega)
          have e1 := hcell 1 (by omega)
          have e2 := hcell 2 (by omega)
          rw [Go.Deep.add_add] at e0 e1 e2
          simp only [Prod.mk.injEq] at hxy
          obtain ⟨z, hz0, _⟩ := DataW.trod_int u0 g0
          obtain ⟨bb, hb0, _⟩ := DataW.trod_bool u1 g1
          obtain ⟨Ak, nk, ck, l, hy0, hb, hw⟩ := cells_bytes u2 g2
          refine ⟨(z, bb, l), fun _ => ⟨?_, Ak, nk, ck, ?_, ?_, ?_, hb⟩⟩
          · rw [hb.2]
            refine hw B fun q hq => hB q ?_
            rw [hd.1]
            have hDi : D i = .agg [y0.1, y1.1, y2.1] := by simpa using hxy.1
            have hq2 : q ∈ (D i).weights Try.prog 70 := by
              rw [hDi]
              simp only [DataW.weights, hs]
              exact DataW.weights_mem_each (j := 2) rfl rfl q hq
            simp only [DataW.weights, ht]
            refine List.mem_cons_of_mem _ (List.mem_append.2 (.inl ?_))
            exact weights_mem_all (List.mem_map.2 ⟨i, List.mem_range.2 hi, rfl⟩) q hq2
          · have e : v0 = .int .i64 z := by simpa using hz0
            rw [← e]; simpa [ce] using e0
          · have e : v1 = .bool bb := by simpa using hb0
            rw [← e]; simpa [ce] using e1
          · have e : v2 = .slice Ak nk ck := by simpa using hy0
            rw [← e]; simpa [ce] using e2
      · exact ⟨(0, false, []), fun h => absurd h hi⟩
    obtain ⟨q, hq⟩ := Classical.axiomOfChoice hi
    refine ⟨some a, len0, cap0, (List.range len0).map q, rfl, ⟨by simp, fun k hk => ?_⟩, by unfold maxLen at hm; omega, fun s hs => ?_⟩
    · have hk' : k < len0 := by simpa using hk
      obtain ⟨_, Ak, nk, ck, q0, q1, q2, hb1⟩ := hq k hk'
      obtain ⟨_, _, _, _, p0, _⟩ := hq 0 (by omega)
      obtain ⟨b, off, spot⟩ := a
      have hsp : spot = none := by simpa [Addr.add] using World.cell?_spot p0
      subst hsp
      have hb : b < W.heap.size := World.block_lt_of_cell? W _ (by simpa [Addr.add] using p0)
      have ad : ∀ j, (⟨b, off, none⟩ : Addr).add j = ⟨b, off + j, none⟩ := fun j => by
        unfold Addr.add; split
        · rename_i h0; rw [h0]; rfl
        · rfl
      rw [ad] at q0 q1 q2
      refine ⟨b, off, Ak, nk, ck, rfl, hb, ?_, ?_, ?_, ?_⟩
      · simpa using q0
      · rw [Nat.add_assoc]; simpa using q1
      · rw [Nat.add_assoc]; simpa using q2
      · simpa using hb1
    · obtain ⟨i, hi2, rfl⟩ := List.mem_map.1 hs
      exact (hq i (List.mem_range.1 hi2)).1
end Go.Proofs.Ytjbnoamoadaknaa
end
