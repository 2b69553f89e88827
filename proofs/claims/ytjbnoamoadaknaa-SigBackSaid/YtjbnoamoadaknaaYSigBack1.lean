import Derived.WalkKit
import Derived.Below
import Derived.Laws.OwnMore
import Derived.Deep.AppendLies
import Derived.Deep.Draws
import Derived.Deep.OwnRows
import Derived.Maps.AppendAt
import Derived.RegionTactic
import Derived.OwnWalk
import Derived.Laws.Rows
import Derived.Lib.Hide
import Derived.Lib.SliceRun
/- Words for memory: a slice that reads as a list, blocks, bytes. -/
section
namespace Go.Proofs.Ytjbnoamoadaknaa
open Go.RowKit

theorem block_of_add (a : Addr) (n : Nat) : (a.add n).block = a.block := by unfold Addr.add; split <;> rfl
theorem add_of_add (a : Addr) (i j : Nat) : (a.add i).add j = a.add (i + j) := by
  unfold Addr.add
  by_cases hi : i = 0 <;> by_cases hj : j = 0 <;> simp [hi, hj, Nat.add_assoc]

/-- A slice (address A, capacity c) reads as the cells xs. -/
def Rd (w : World) (A : Option Addr) (c : Nat) (xs : List Value) : Prop :=
  xs.length ≤ c ∧ c ≤ maxLen ∧ (0 < xs.length → ∃ ad, A = some ad ∧ ad.block < w.heap.size ∧ ∀ j u, xs[j]? = some u → w.cell? (ad.add j) = some u)

def bv (b : UInt8) : Value := .int .u8 (b.toNat : Int)
abbrev bvs (l : List UInt8) : List Value := l.map bv

section
variable {w w' : World} {c : Nat} {A : Option Addr} {xs : List Value}
theorem Rd.len_cap (h : Rd w A c xs) : xs.length ≤ c := h.1
theorem Rd.nil_ (w : World) (A : Option Addr) (c : Nat) (hc : c ≤ maxLen) : Rd w A c [] := ⟨by simp, hc, fun h => absurd h (by simp)⟩
theorem Rd.none_ (w : World) : Rd w none 0 [] := Rd.nil_ w none 0 (Nat.zero_le _)
theorem Rd.keep (h : Rd w A c xs) (hs : w.heap.size ≤ w'.heap.size) (hk : ∀ p : Addr, p.block < w.heap.size → w'.cell? p = w.cell? p) : Rd w' A c xs :=
  ⟨h.1, h.2.1, fun hn => by
    obtain ⟨ad, e, hb, hc⟩ := h.2.2 hn
    exact ⟨ad, e, by omega, fun j u hu => (hk _ (by rw [block_of_add]; exact hb)).trans (hc j u hu)⟩⟩
theorem Rd.below (h : Rd w A c xs) (hb : Below w.heap.size w w') : Rd w' A c xs := h.keep hb.size fun _ hp => hb.cell hp
theorem Rd.grown (h : Rd w A c xs) {row : Option Nat} (hg : w.grownBy w' row) (hne : ∀ ad, A = some ad → some ad.block ≠ row) : Rd w' A c xs :=
  ⟨h.1, h.2.1, fun hn => by
    obtain ⟨ad, e, hb, hc⟩ := h.2.2 hn
    have := hg.size
    exact ⟨ad, e, by omega, fun j u hu => hg.cell (hc j u hu) (by rw [block_of_add]; exact hne ad e)⟩⟩
theorem Rd.setCell (h : Rd w A c xs) {p : Addr} (hne : ∀ ad, A = some ad → ad.block ≠ p.block) (u : Value) : Rd (w.setCell p u) A c xs :=
  ⟨h.1, h.2.1, fun hn => by
    obtain ⟨ad, e, hb, hc⟩ := h.2.2 hn
    exact ⟨ad, e, by simpa [World.setCell] using hb, fun j v hv => (World.cell?_setCell_other w p _ u (fun e' => hne ad e (by rw [← block_of_add ad j, e']))).trans (hc j v hv)⟩⟩
theorem Rd.drew (h : Rd w A c xs) : Rd w.drew A c xs := h
theorem Rd.drewN (h : Rd w A c xs) (k : Nat) : Rd (w.drewN k) A c xs := h
theorem Rd.alloc (h : Rd w A c xs) (o : Obj) : Rd (w.alloc o) A c xs := h.keep (by simp) fun p hp => World.cell?_alloc_lt w o p (by omega)
theorem Rd.at_ {k : Nat} (h : Rd w A c xs) (hk : k < xs.length) : ∃ b off, A = some ⟨b, off, none⟩ ∧ b < w.heap.size ∧ w.cell? ⟨b, off + k, none⟩ = some (xs[k]) := by
  obtain ⟨ad, e, hb, hc⟩ := h.2.2 (by omega)
  have hcell := hc k _ (List.getElem?_eq_getElem hk)
  obtain ⟨b, off, spot⟩ := ad
  have h0 := hc 0 _ (List.getElem?_eq_getElem (by omega))
  have hs : spot = none := by simpa [Addr.add] using World.cell?_spot h0
  subst hs
  refine ⟨b, off, e, hb, ?_⟩
  by_cases h0 : k = 0
  · subst h0; simpa [Addr.add] using hcell
  · simpa [Addr.add, h0] using hcell
theorem Rd.cut (h : Rd w A c xs) {k : Nat} (hk : k ≤ xs.length) :
    Rd w (if c = k then A else A.map (·.add k)) (c - k) (xs.drop k) := by
  have h1 := h.1
  have h2 := h.2.1
  refine ⟨by rw [List.length_drop]; omega, by omega, fun hn => ?_⟩
  rw [List.length_drop] at hn
  obtain ⟨ad, rfl, hb, hcell⟩ := h.2.2 (by omega)
  rw [if_neg (by omega)]
  refine ⟨ad.add k, rfl, by rw [block_of_add]; exact hb, fun j u hu => ?_⟩
  rw [add_of_add]
  exact hcell _ u (by rw [← hu, List.getElem?_drop])
theorem Rd.take_ (h : Rd w A c xs) (k : Nat) : Rd w A c (xs.take k) := by
  refine ⟨by rw [List.length_take]; have := h.1; omega, h.2.1, fun hn => ?_⟩
  rw [List.length_take] at hn
  obtain ⟨ad, rfl, hb, hcell⟩ := h.2.2 (by omega)
  refine ⟨ad, rfl, hb, fun j u hu => hcell j u ?_⟩
  rw [List.getElem?_take] at hu
  split at hu
  · exact hu
  · cases hu
/-- A row of the call's own reads as its cells; its block lies from base on. -/
theorem Rd.of_own {base : Nat} {e : TypeId} {v : Value} {n : Nat} (h : w.ownsRow base e 1 v n xs) : ∃ A c, v = .slice A xs.length c ∧ n = xs.length ∧ Rd w A c xs ∧ ∀ ad, A = some ad → base ≤ ad.block ∧ ad.block < w.heap.size ∧ v.ownBlock = some ad.block := by
  have hl := h.1
  rw [Nat.mul_one] at hl
  have hb := h.lt
  rcases h.2 with ⟨rfl, rfl⟩ | ⟨g, cap, cur, rfl, hbg, hh, hnc, hcm, hcs, ht⟩
  · have hx : xs = [] := List.eq_nil_of_length_eq_zero hl
    subst hx
    exact ⟨none, 0, rfl, rfl, Rd.none_ w, fun ad h => by cases h⟩
  · refine ⟨some ⟨g, 0, none⟩, cap, by rw [hl], hl.symm, ⟨by omega, hcm, fun _ => ⟨_, rfl, (hb g rfl).2, h.cells (g := g) rfl⟩⟩, fun ad ha => ?_⟩
    injection ha with ha
    subst ha
    exact ⟨hbg, (hb g rfl).2, rfl⟩
end

/-- The slice (A, c) of the call's own (blocks from B on; elements of type e) owns the cells xs. -/
def OwnR (w : World) (B : Nat) (e : TypeId) (size : Nat) (A : Option Addr) (c n : Nat) (xs : List Value) : Prop := w.ownsRow B e size (.slice A n c) n xs
theorem OwnR.of {w : World} {B e size n : Nat} {v : Value} {xs : List Value} (h : w.ownsRow B e size v n xs) : ∃ A c, v = .slice A n c ∧ OwnR w B e size A c n xs := by
  rcases h.2 with ⟨rfl, rfl⟩ | ⟨g, cap, cur, rfl, hbg, hh, hnc, hcm, hcs, ht⟩
  · exact ⟨none, 0, rfl, h⟩
  · exact ⟨_, _, rfl, h⟩
theorem OwnR.rd {w : World} {B e n c : Nat} {A : Option Addr} {xs : List Value} (h : OwnR w B e 1 A c n xs) : Rd w A c xs := by
  obtain ⟨A', c', hv, hn, hr, _⟩ := Rd.of_own h
  injection hv with h1 h2 h3
  subst h1; subst h3
  exact hr
theorem OwnR.blk {w : World} {B e size n c : Nat} {A : Option Addr} {xs : List Value} (h : OwnR w B e size A c n xs) : ∀ ad, A = some ad → B ≤ ad.block ∧ ad.block < w.heap.size := by
  intro ad ha
  subst ha
  exact h.lt ad.block rfl
theorem OwnR.own {w : World} {B e size n c : Nat} {A : Option Addr} {xs : List Value} (h : OwnR w B e size A c n xs) : w.ownsRow B e size (.slice A n c) n xs := h
theorem OwnR.below {w w' : World} {B e size n c : Nat} {A : Option Addr} {xs : List Value} (h : OwnR w B e size A c n xs) (hb : Below w.heap.size w w') : OwnR w' B e size A c n xs :=
  World.ownsRow.kept h (row := none) ⟨hb.os, hb.tape, hb.output, hb.size, fun k hk _ => hb.block k hk⟩ (by
    cases A with
    | none => exact .inl rfl
    | some ad => exact .inr (fun e => by cases e))
theorem OwnR.grown {w w' : World} {B e size n c : Nat} {A : Option Addr} {xs : List Value} (h : OwnR w B e size A c n xs) {row : Option Nat} (hg : w.grownBy w' row) (hne : ∀ ad, A = some ad → some ad.block ≠ row) : OwnR w' B e size A c n xs :=
  World.ownsRow.kept h hg (by
    cases A with
    | none => exact .inl rfl
    | some ad => exact .inr (hne ad rfl))
theorem OwnR.drew {w : World} {B e size n c : Nat} {A : Option Addr} {xs : List Value} (h : OwnR w B e size A c n xs) : OwnR w.drew B e size A c n xs := h
theorem OwnR.alloc_ {w : World} {B e size n c : Nat} {A : Option Addr} {xs : List Value} (h : OwnR w B e size A c n xs) (o : Obj) : OwnR (w.alloc o) B e size A c n xs := World.ownsRow.alloc h o
theorem OwnR.lower {w : World} {B B' e size n c : Nat} {A : Option Addr} {xs : List Value} (h : OwnR w B e size A c n xs) (hB : B' ≤ B) : OwnR w B' e size A c n xs := by
  refine ⟨h.1, ?_⟩
  rcases h.2 with h0 | ⟨g, cap, cur, hv, hbg, hh, hnc, hcm, hcs, ht⟩
  · exact .inl h0
  · exact .inr ⟨g, cap, cur, hv, by omega, hh, hnc, hcm, hcs, ht⟩

theorem bv_at {l : List UInt8} {k : Nat} (hk : k < l.length) : (bvs l)[k]'(by simpa using hk) = .int .u8 ((l[k]).toNat : Int) := by simp [bv]
theorem Rd.byte {w : World} {A : Option Addr} {c k : Nat} {l : List UInt8} (h : Rd w A c (bvs l)) (hk : k < l.length) :
    ∃ b off, A = some ⟨b, off, none⟩ ∧ b < w.heap.size ∧ w.cell? ⟨b, off + k, none⟩ = some (.int .u8 ((l[k]).toNat : Int)) := by
  obtain ⟨b, off, e, hb, hc⟩ := h.at_ (k := k) (by simpa using hk)
  exact ⟨b, off, e, hb, by rw [hc, bv_at hk]⟩


theorem grown_setCell (w : World) (g i : Nat) (u : Value) : w.grownBy (w.setCell ⟨g, i, none⟩ u) (some g) :=
  ⟨rfl, rfl, rfl, by simp [World.setCell], fun k _ hk => Below.heap_setCell w ⟨g, i, none⟩ u k (fun e => hk (by rw [e]))⟩
theorem grown_of_below {w w' : World} (h : Below w.heap.size w w') (row : Option Nat) : w.grownBy w' row := ⟨h.os, h.tape, h.output, h.size, fun k hk _ => h.block k hk⟩
theorem below_of_grown {w w' : World} (h : w.grownBy w' none) : Below w.heap.size w w' := ⟨h.os, h.tape, h.output, h.size, fun k hk => h.block k hk (fun e => by cases e)⟩
theorem grown_trans {a b c : World} {row : Option Nat} (h : a.grownBy b row) (k : b.grownBy c row) : a.grownBy c row :=
  ⟨k.os.trans h.os, k.tape.trans h.tape, k.output.trans h.output, Nat.le_trans h.size k.size, fun i hi hn => (k.block i (Nat.lt_of_lt_of_le hi h.size) hn).trans (h.block i hi hn)⟩
theorem below_drewN {B : Nat} {a w : World} (h : Below B a w) (n : Nat) : Below B a (w.drewN n) := ⟨h.os, h.tape, h.output, h.size, h.block⟩
theorem below_then {w w1 w2 : World} {B : Nat} (h : Below B w w1) (hB : B ≤ w1.heap.size) (k : Below w1.heap.size w1 w2) : Below B w w2 := h.trans (k.mono hB)

/-- What a slice type's elements are. -/
structure El (P : Program) (t e : TypeId) (size bytes : Nat) : Prop where
  ht : P.underlying t = some (.slice e)
  hi : ∃ i z, P.info? e = some i ∧ i.zero = some z ∧ i.size = size ∧ i.bytes = bytes ∧ z.cells.size = size
  hs : 0 < size
theorem El.mk_ {P : Program} {t e : TypeId} {size bytes : Nat} {z : Value} (ht : P.underlying t = some (.slice e)) (h : (P.info? e).map (fun i => (i.zero, i.size, i.bytes)) = some (some z, size, bytes)) (hz : z.cells.size = size) (hs : 0 < size) : El P t e size bytes := by
  obtain ⟨i, h1, h2, h3, h4⟩ := info_parts h
  exact ⟨ht, ⟨i, z, h1, h2, h3, h4, hz⟩, hs⟩

section
variable {P : Program} {w : World}
theorem run_append_of_nil (base : Nat) (t ty e : TypeId) (i : TypeInfo) (size : Nat) (ht : P.underlying t = some (.slice e)) (hi : P.info? e = some i)
    (v : Value) (n : Nat) (xs : List Value) (hown : w.ownsRow base e size v n xs) (c : Nat) : (Builtin.append_ #[t, t] ty #[v, .slice none 0 c]).run P w = .ok v w := by
  rcases hown.2 with ⟨rfl, rfl⟩ | ⟨g, cap, cur, rfl, _, _, hnc, _⟩
  · simp [Builtin.append_, run_underlying ht, sizeOf, typeInfo, hi, Builtin.lenOf, Builtin.firstCells]
  · simp [Builtin.append_, run_underlying ht, sizeOf, typeInfo, hi, Builtin.lenOf, Builtin.firstCells, hnc, storeCells]

/-- append(v, ys...): v a row of one's own, ys read (its elements' cells: news). -/
theorem run_app {t e : TypeId} {size bytes : Nat} (E : El P t e size bytes) (base : Nat) (ty : TypeId) (v : Value) (n : Nat) (xs : List Value) (hown : w.ownsRow base e size v n xs)
    (A : Option Addr) (m c : Nat) (news : List Value) (hl : news.length = m * size) (hr : 0 < m → ∃ ad, A = some ad ∧ ∀ j u, news[j]? = some u → w.cell? (ad.add j) = some u) (h1 : ∀ u ∈ news, u.oneCell' = true)
    (hbytes : (n + m) * bytes ≤ 140737488355328) (h63 : n + m ≤ 140737488355328) (hbase : base ≤ w.heap.size) :
    ∃ v' w', (Builtin.append_ #[t, t] ty #[v, .slice A m c]).run P w = .ok v' w' ∧ w'.ownsRow base e size v' (n + m) (xs ++ news) ∧ w.grownBy w' v.ownBlock ∧
      (v'.ownBlock = v.ownBlock ∨ v'.ownBlock = some w.heap.size) := by
  obtain ⟨i, z, hi, hz, hsize, hby, hzs⟩ := E.hi
  have h63' : n + m ≤ maxLen := by simp only [maxLen]; omega
  rcases Nat.eq_zero_or_pos m with rfl | hm
  · have hn : news = [] := List.eq_nil_of_length_eq_zero (by simpa using hl)
    subst hn
    cases A with
    | none => exact ⟨v, w, run_append_of_nil base t ty e i size E.ht hi v n xs hown c, by simpa using hown, World.grownBy.refl w _, .inl rfl⟩
    | some ad =>
      obtain ⟨v', w', hrun, h2, h3, _, h5⟩ := run_append_own_at (P := P) w base t ty e i z size bytes E.ht hi hz hsize hby hzs E.hs v n xs hown ad 0 c [] (by simp) (fun j u h => by simp at h) h1 h63' hbytes hbase
      exact ⟨v', w', hrun, h2, h3, h5⟩
  · obtain ⟨ad, rfl, hcells⟩ := hr hm
    obtain ⟨v', w', hrun, h2, h3, _, h5⟩ := run_append_own_at (P := P) w base t ty e i z size bytes E.ht hi hz hsize hby hzs E.hs v n xs hown ad m c news hl hcells h1 h63' hbytes hbase
    exact ⟨v', w', hrun, h2, h3, h5⟩

theorem wpList_app {ops : Array Oper} {rest : List Oper} {o : Oper} {a : Act} {Q : Exit → Act → World → Prop} (hgd : o.guard = none) (s x : Operand) (t : TypeId)
    (ho : o.op = .call { callee := .builtin .append, args := #[s, x], argTypes := #[t, t] })
    {e : TypeId} {size bytes : Nat} (E : El P t e size bytes) (base : Nat) (v : Value) (n : Nat) (xs : List Value) (hs : a.eval s = v) (hown : w.ownsRow base e size v n xs)
    (A : Option Addr) (m c : Nat) (news : List Value) (hx : a.eval x = .slice A m c) (hl : news.length = m * size) (hr : 0 < m → ∃ ad, A = some ad ∧ ∀ j u, news[j]? = some u → w.cell? (ad.add j) = some u) (h1 : ∀ u ∈ news, u.oneCell' = true)
    (hbytes : (n + m) * bytes ≤ 140737488355328) (h63 : n + m ≤ 140737488355328) (hbase : base ≤ w.heap.size)
    (h : ∀ v' w', w'.ownsRow base e size v' (n + m) (xs ++ news) → w.grownBy w' v.ownBlock → (v'.ownBlock = v.ownBlock ∨ v'.ownBlock = some w.heap.size) → wpList P ops Q rest (a.put o.dst v') w') : wpList P ops Q (o :: rest) a w :=
  wpList_plain hgd fun _ hK => by
    obtain ⟨v', w', hrun, h2, h3, h4⟩ := run_app E base o.type v n xs hown A m c news hl hr h1 hbytes h63 hbase
    unfold Oper.wp execOp
    simp only [ho, resolve, invoke, builtin, Sem.run_bind, Sem.run_pure, Result.andThen_ok, List.map_toArray, List.map_cons, List.map_nil, hs, hx, hrun]
    exact hK _ _ (h v' w' h2 h3 h4)
end

/-- append(v, ys...), elements of one cell: ys by its reading. -/
theorem wpList_appR {P : Program} {w : World} {ops : Array Oper} {rest : List Oper} {o : Oper} {a : Act} {Q : Exit → Act → World → Prop} (s x : Operand) (t : TypeId) (hgd : o.guard = none)
    (ho : o.op = .call { callee := .builtin .append, args := #[s, x], argTypes := #[t, t] })
    {e : TypeId} {bytes : Nat} (E : El P t e 1 bytes) (base : Nat) (v : Value) (n : Nat) (xs : List Value) (hs : a.eval s = v) (hown : w.ownsRow base e 1 v n xs)
    (A : Option Addr) (m c : Nat) (news : List Value) (hx : a.eval x = .slice A m c) (hr : Rd w A c news) (hl : m = news.length) (h1 : ∀ u ∈ news, u.oneCell' = true)
    (hbytes : (n + m) * bytes ≤ 140737488355328) (h63 : n + m ≤ 140737488355328) (hbase : base ≤ w.heap.size)
    (h : ∀ v' w', w'.ownsRow base e 1 v' (n + m) (xs ++ news) → w.grownBy w' v.ownBlock → (v'.ownBlock = v.ownBlock ∨ v'.ownBlock = some w.heap.size) → wpList P ops Q rest (a.put o.dst v') w') : wpList P ops Q (o :: rest) a w :=
  wpList_app hgd s x t ho E base v n xs hs hown A m c news hx (by omega) (fun hm => by obtain ⟨ad, e, _, hc⟩ := hr.2.2 (by omega); exact ⟨ad, e, hc⟩) h1 hbytes h63 hbase h

theorem eqn_none {P : Program} {t e : TypeId} (ht : P.underlying t = some (.slice e)) : ∀ (n c : Nat) (W : World), (binOp .eql t (.slice none n c) (.slice none 0 0)).run P W = .ok (.bool true) W :=
  fun n c W => Lib.run_eql_slice_nil W t e none n c 0 0 ht
theorem eqn_some {P : Program} {t e : TypeId} (ht : P.underlying t = some (.slice e)) : ∀ (ad : Addr) (n c : Nat) (W : World), (binOp .eql t (.slice (some ad) n c) (.slice none 0 0)).run P W = .ok (.bool false) W :=
  fun ad n c W => Lib.run_eql_slice_nil W t e (some ad) n c 0 0 ht

/-- An own row under what an append to it left. -/
theorem Below.app {B : Nat} {w0 w w' : World} {base : Nat} {e : TypeId} {size n : Nat} {v : Value} {xs : List Value} (h : Below B w0 w) (hB : B ≤ w.heap.size) (hown : w.ownsRow base e size v n xs) (hbase : B ≤ base) (hg : w.grownBy w' v.ownBlock) : Below B w0 w' :=
  h.grown hg hB fun k hk => Nat.le_trans hbase (hown.lt k hk).1

end Go.Proofs.Ytjbnoamoadaknaa
end
