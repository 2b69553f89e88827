/- Slices of numbers in memory. -/
import Derived.Test.YtcakdlfhmdkocaaNu
import Derived.Test.YtcakdlfhmdkocaaCur
import Derived.Test.YtcakdlfhmdkocaaSt
namespace Go.Proofs.Ytcakdlfhmdkocaa
open Go.RowKit

abbrev nvs (k : IntKind) (xs : List Nat) : List Value := xs.map fun (x : Nat) => .int k (x : Int)
/-- The slice (A, n, c) of numbers of kind k reads as xs. -/
def Nr (w : World) (k : IntKind) (A : Option Addr) (n c : Nat) (xs : List Nat) : Prop := Rd w A c (nvs k xs) ∧ xs.length = n
/-- The slice (A, n, c) is the call's own (in a block from B on; elements of type T) and holds the numbers xs. -/
def OwnN (w : World) (B : Nat) (T : TypeId) (k : IntKind) (A : Option Addr) (n c : Nat) (xs : List Nat) : Prop := OwnR w B T 1 A c n (nvs k xs) ∧ xs.length = n

section
variable {w w' : World} {B n c : Nat} {T : TypeId} {k : IntKind} {A : Option Addr} {xs : List Nat}
theorem Nr.len (h : Nr w k A n c xs) : xs.length = n := h.2
theorem Nr.cap (h : Nr w k A n c xs) : n ≤ c ∧ c ≤ 9223372036854775807 := ⟨by have := h.1.1; have := h.2; simp only [List.length_map] at *; omega, by have := h.1.2.1; unfold maxLen at this; omega⟩
theorem Nr.below (h : Nr w k A n c xs) (hb : Below w.heap.size w w') : Nr w' k A n c xs := ⟨h.1.below hb, h.2⟩
theorem Nr.grown (h : Nr w k A n c xs) {row : Option Nat} (hg : w.grownBy w' row) (hne : ∀ ad, A = some ad → some ad.block ≠ row) : Nr w' k A n c xs := ⟨h.1.grown hg hne, h.2⟩
theorem Nr.grown' (h : Nr w k A n c xs) {row : Option Nat} (hg : w.grownBy w' row) (hne : xs ≠ [] → ∀ ad, A = some ad → some ad.block ≠ row) : Nr w' k A n c xs := by
  by_cases hl : xs = []
  · subst hl
    exact ⟨Rd.nil_ w' A c h.1.2.1, h.2⟩
  · exact h.grown hg (hne hl)
theorem Nr.alloc (h : Nr w k A n c xs) (o : Obj) : Nr (w.alloc o) k A n c xs := ⟨h.1.alloc o, h.2⟩
theorem Nr.drew (h : Nr w k A n c xs) : Nr w.drew k A n c xs := h
theorem Nr.drewN (h : Nr w k A n c xs) (j : Nat) : Nr (w.drewN j) k A n c xs := h
theorem Nr.nil_ (w : World) (k : IntKind) : Nr w k none 0 0 [] := ⟨Rd.none_ w, rfl⟩
theorem Nr.at_ {j : Nat} (h : Nr w k A n c xs) (hj : j < xs.length) : ∃ b off, A = some ⟨b, off, none⟩ ∧ b < w.heap.size ∧ w.cell? ⟨b, off + j, none⟩ = some (.int k (xs[j] : Int)) := by
  obtain ⟨b, off, e, hb, hc⟩ := h.1.at_ (k := j) (by simpa using hj)
  exact ⟨b, off, e, hb, by rw [hc]; simp⟩
theorem Nr.upto (h : Nr w k A n c xs) {j : Nat} (hj : j ≤ n) : Nr w k A j c (xs.take j) := by
  have h2 := h.2
  refine ⟨?_, by rw [List.length_take]; omega⟩
  have := h.1.take_ j
  simpa [nvs] using this
/-- A slice with a lower capacity. -/
theorem Nr.clip (h : Nr w k A n c xs) : Nr w k A n n xs := ⟨⟨by simp [h.2], Nat.le_trans h.cap.1 h.1.2.1, h.1.2.2⟩, h.2⟩
theorem Nr.lt (h : Nr w k A n c xs) (hl : xs ≠ []) : ∀ ad, A = some ad → ad.block < w.heap.size := fun ad e => by
  have hp : 0 < xs.length := List.length_pos_iff.2 hl
  obtain ⟨b, off, e2, hb, _⟩ := h.at_ hp
  rw [e] at e2
  injection e2 with e2
  rw [e2]
  exact hb
theorem OwnN.nr (h : OwnN w B T k A n c xs) : Nr w k A n c xs := ⟨h.1.rd, h.2⟩
theorem OwnN.blk (h : OwnN w B T k A n c xs) : ∀ ad, A = some ad → B ≤ ad.block ∧ ad.block < w.heap.size := h.1.blk
theorem OwnN.below (h : OwnN w B T k A n c xs) (hb : Below w.heap.size w w') : OwnN w' B T k A n c xs := ⟨h.1.below hb, h.2⟩
theorem OwnN.lower {B' : Nat} (h : OwnN w B T k A n c xs) (hB : B' ≤ B) : OwnN w B' T k A n c xs := ⟨h.1.lower hB, h.2⟩
theorem OwnN.alloc_ (h : OwnN w B T k A n c xs) (o : Obj) : OwnN (w.alloc o) B T k A n c xs := ⟨h.1.alloc_ o, h.2⟩
theorem OwnN.drew (h : OwnN w B T k A n c xs) : OwnN w.drew B T k A n c xs := h
theorem OwnN.of {v : Value} (h : w.ownsRow B T 1 v n (nvs k xs)) : ∃ A c, v = .slice A n c ∧ OwnN w B T k A n c xs := by
  have hl := h.1
  obtain ⟨A, c, rfl, ho⟩ := OwnR.of h
  exact ⟨A, c, rfl, ho, by simpa using hl⟩
theorem OwnN.grew {w0 : World} (hown : OwnN w B T k A n c xs) (h : Below B w0 w) (hB : B ≤ w.heap.size) (hg : w.grownBy w' (A.map (·.block))) : Below B w0 w' :=
  h.grown hg hB fun i hi => by
    cases A with
    | none => cases hi
    | some ad => cases hi; exact (hown.blk _ rfl).1
end

/-- An element of a slice of one's own: its cell, and what a store into it leaves. -/
theorem OwnN.at_ {w : World} {B n c : Nat} {T : TypeId} {k : IntKind} {A : Option Addr} {xs : List Nat} (h : OwnN w B T k A n c xs) {j : Nat} (hj : j < xs.length) :
    ∃ g, A = some ⟨g, 0, none⟩ ∧ B ≤ g ∧ g < w.heap.size ∧ w.cell? ⟨g, j, none⟩ = some (.int k (xs[j] : Int)) ∧ w.frozen? ⟨g, j, none⟩ = false ∧
      ∀ x : Nat, OwnN (w.setCell ⟨g, j, none⟩ (.int k (x : Int))) B T k A n c (xs.set j x) := by
  have hl := h.2
  rcases h.1.2 with ⟨_, h0⟩ | ⟨g, cap, cur, hv, hbg, hh, hnc, hcm, hcs, htake⟩
  · omega
  · injection hv with h1 h2 h3
    subst h1; subst h3
    obtain ⟨b, off, e, hb, hc⟩ := h.nr.at_ hj
    injection e with e
    injection e with e1 e2
    subst e1; subst e2
    rw [Nat.zero_add] at hc
    have ht : cur.toList.take n = nvs k xs := by simpa using htake
    refine ⟨g, rfl, hbg, hb, hc, by simp [World.frozen?, hh], fun x => ⟨⟨by simp [hl], .inr ⟨g, c, cur.setIfInBounds j (.int k (x : Int)), rfl, hbg, ?_, hnc, hcm, by simpa using hcs, ?_⟩⟩, by simpa using hl⟩⟩
    · simp [World.setCell, Array.getElem?_modify, hh]
    · rw [Array.toList_setIfInBounds, Nat.mul_one, List.take_set, ht]
      simp [nvs, List.map_set]

theorem ownN_empty (w : World) (T : TypeId) (k : IntKind) : OwnN (w.alloc (.cells #[] T)) w.heap.size T k (some ⟨w.heap.size, 0, none⟩) 0 0 [] := ⟨World.ownsRow_made w #[] 0 (Nat.le_refl _) (by simp [maxLen]) rfl, rfl⟩
theorem below_emptyN {w w1 : World} {T : TypeId} (hg : (w.alloc (.cells #[] T)).grownBy w1 (Option.map (fun x : Addr => x.block) (some ⟨w.heap.size, 0, none⟩))) : Below w.heap.size w w1 :=
  ((Below.refl _ _).alloc (Nat.le_refl _) _).grown hg (by simp) (fun k hk => by cases hk; exact Nat.le_refl _)

/-- append(v, x..) of numbers; the goal's world is that behind the variadic's box. -/
theorem appN {P : Program} {w : World} {ops : Array Oper} {rest : List Oper} {o : Oper} {a : Act} {Q : Exit → Act → World → Prop} (s x : Operand) (hgd : o.guard = none) {S : TypeId}
    (ho : o.op = .call { callee := .builtin .append, args := #[s, x], argTypes := #[S, S] }) {T : TypeId} {bytes : Nat} (E : El P S T 1 bytes) (h8 : bytes ≤ 8) {k : IntKind}
    {B : Nat} {A0 : Option Addr} {n0 c0 : Nat} {xs : List Nat} (hs : a.eval s = .slice A0 n0 c0) (hown : OwnN w B T k A0 n0 c0 xs)
    (l : List Nat) (cs : Array Value) (hcs : cs.toList = nvs k l) (m : Nat) (hm : l.length = m) (hx : a.eval x = .slice (some ⟨w.heap.size, 0, none⟩) m m) (hb : n0 + m ≤ 1000000) (hbase : B ≤ w.heap.size)
    (h : ∀ A' c' w', OwnN w' B T k A' (n0 + m) c' (xs ++ l) → w.grownBy w' (A0.map (·.block)) → wpList P ops Q rest (a.put o.dst (.slice A' (n0 + m) c')) w') : wpList P ops Q (o :: rest) a (w.alloc (.cells cs T)) := by
  have hrd : Rd (w.alloc (.cells cs T)) (some ⟨w.heap.size, 0, none⟩) m (nvs k l) := by
    have hnew := heap_alloc_new w (.cells cs T)
    refine ⟨by simp [hm], by simp only [maxLen]; omega, fun hn => ⟨_, rfl, by simp, fun j u hu => ?_⟩⟩
    have := cell_of_row (w.alloc (.cells cs T)) w.heap.size j cs T (0, 0) hnew
    have he : (⟨w.heap.size, 0, none⟩ : Addr).add j = ⟨w.heap.size, j, none⟩ := by
      unfold Addr.add; split
      · rename_i h0; rw [h0]
      · simp
    rw [he, this, ← Array.getElem?_toList, hcs]
    exact hu
  refine wpList_appR s x S hgd ho E B _ n0 (nvs k xs) hs (hown.1.alloc_ _) _ m m (nvs k l) hx hrd (by simp [hm]) (fun u hu => ?_) (Nat.le_trans (Nat.mul_le_mul_left _ h8) (by omega)) (by omega) (by simp; omega) ?_
  · simp only [List.mem_map] at hu
    obtain ⟨b, _, rfl⟩ := hu
    rfl
  · intro v' w' h1 h2 h3
    rw [show nvs k xs ++ nvs k l = nvs k (xs ++ l) by simp [nvs]] at h1
    obtain ⟨A', c', rfl, ho⟩ := OwnN.of h1
    refine h A' c' w' ho ?_
    have hg : (w.alloc (.cells cs T)).grownBy w' (A0.map (·.block)) := by cases A0 <;> exact h2
    exact grown_trans (World.grownBy_alloc w _ _) hg

/-- make of numbers. -/
def ncells (k : IntKind) (n : Nat) : Array Value := madeCells #[.int k 0] n
theorem run_makeN {P : Program} {S T : TypeId} {k : IntKind} {bytes : Nat} (ht : P.underlying S = some (.slice T)) (hinfo : (P.info? T).map (fun i => (i.zero, i.size, i.bytes)) = some (some (.int k 0), 1, bytes)) (h8 : bytes ≤ 8)
    (m : Nat) (hc : m ≤ 1000000) (x : Int) (hx : x = m) (W : World) :
    (Instr.makeSlice S (.int .i64 x) (.int .i64 x)).run P W = .ok (.slice (some ⟨W.heap.size, 0, none⟩) m m) (W.alloc (.cells (ncells k m) T)) := by
  subst hx
  obtain ⟨i, hi, hz, hsize, hby⟩ := info_parts hinfo
  have hr := run_make (P := P) W S T i (.int k 0) ht hi hz .i64 .i64 m m (by omega) (by omega) (by rw [hby]; have := Nat.mul_le_mul h8 (Nat.le_refl m); omega) (by omega)
  simp only [Int.toNat_natCast, hsize, Nat.mul_one] at hr
  exact hr
theorem OwnN.made (W : World) (T : TypeId) (k : IntKind) (B m : Nat) (hB : B ≤ W.heap.size) (hc : m ≤ 1000000) : OwnN (W.alloc (.cells (ncells k m) T)) B T k (some ⟨W.heap.size, 0, none⟩) m m (List.replicate m 0) := by
  refine ⟨⟨by simp, .inr ⟨_, m, _, rfl, hB, heap_alloc_new W _, Nat.le_refl _, by simp only [maxLen]; omega, by simp [ncells, size_madeCells], ?_⟩⟩, by simp⟩
  rw [ncells, toList_madeCells_one]
  simp
end Go.Proofs.Ytcakdlfhmdkocaa
