import Derived.Test.YtjbnoamoadaknaaProg
import Derived.Test.YtjbnoamoadaknaaYSigBack1
import Derived.Laws.CopyOwn
import Derived.Laws.BytesArg
import Derived.Laws.IdiomStrings
import Derived.Laws.MakeOwn
import Derived.Test.YtjbnoamoadaknaaRows
import Derived.ProofKit
import Derived.OpenShut
import Derived.ShutString
import Derived.ChangeOld
/- Bytes: slices of bytes as lists. -/
section
namespace Go.Proofs.Ytjbnoamoadaknaa
open Go.RowKit

theorem E8 : El Try.prog 22 5 1 1 := El.mk_ Try.underlying22 (z := .int .u8 0) (by kernel_rfl) rfl (by omega)
theorem bvs_one (l : List UInt8) : ∀ u ∈ bvs l, u.oneCell' = true := by
  intro u hu
  simp only [List.mem_map] at hu
  obtain ⟨b, _, rfl⟩ := hu
  rfl

/-- The slice (A, n, c) reads as the bytes l. -/
def Bs (w : World) (A : Option Addr) (n c : Nat) (l : List UInt8) : Prop := Rd w A c (bvs l) ∧ l.length = n
/-- The slice (A, n, c) is the call's own (in a block from B on) and holds the bytes l. -/
def Own (w : World) (B : Nat) (A : Option Addr) (n c : Nat) (l : List UInt8) : Prop := OwnR w B 5 1 A c n (bvs l) ∧ l.length = n

section
variable {w w' : World} {B n c : Nat} {A : Option Addr} {l : List UInt8}
theorem Bs.len (h : Bs w A n c l) : l.length = n := h.2
theorem Bs.cap (h : Bs w A n c l) : n ≤ c ∧ c ≤ maxLen := ⟨by have := h.1.1; have := h.2; simp only [List.length_map] at *; omega, h.1.2.1⟩
theorem Bs.below (h : Bs w A n c l) (hb : Below w.heap.size w w') : Bs w' A n c l := ⟨h.1.below hb, h.2⟩
theorem Bs.grown (h : Bs w A n c l) {row : Option Nat} (hg : w.grownBy w' row) (hne : ∀ ad, A = some ad → some ad.block ≠ row) : Bs w' A n c l := ⟨h.1.grown hg hne, h.2⟩
theorem Bs.alloc (h : Bs w A n c l) (o : Obj) : Bs (w.alloc o) A n c l := ⟨h.1.alloc o, h.2⟩
theorem Bs.drew (h : Bs w A n c l) : Bs w.drew A n c l := h
theorem Bs.drewN (h : Bs w A n c l) (k : Nat) : Bs (w.drewN k) A n c l := h
theorem Bs.nil_ (w : World) : Bs w none 0 0 [] := ⟨Rd.none_ w, rfl⟩
theorem Bs.byte {k : Nat} (h : Bs w A n c l) (hk : k < l.length) : ∃ b off, A = some ⟨b, off, none⟩ ∧ b < w.heap.size ∧ w.cell? ⟨b, off + k, none⟩ = some (.int .u8 ((l[k]).toNat : Int)) := h.1.byte hk
theorem Bs.from_ (h : Bs w A n c l) {k : Nat} (hk : k ≤ n) : Bs w (if c = k then A else A.map (·.add k)) (n - k) (c - k) (l.drop k) := by
  have h2 := h.2
  refine ⟨?_, by rw [List.length_drop]; omega⟩
  have := h.1.cut (k := k) (by simp; omega)
  simpa [bvs] using this
theorem Bs.upto (h : Bs w A n c l) {k : Nat} (hk : k ≤ n) : Bs w A k c (l.take k) := by
  have h2 := h.2
  refine ⟨?_, by rw [List.length_take]; omega⟩
  have := h.1.take_ k
  simpa [bvs] using this
theorem Own.bs (h : Own w B A n c l) : Bs w A n c l := ⟨h.1.rd, h.2⟩
theorem Own.blk (h : Own w B A n c l) : ∀ ad, A = some ad → B ≤ ad.block ∧ ad.block < w.heap.size := h.1.blk
theorem Own.below (h : Own w B A n c l) (hb : Below w.heap.size w w') : Own w' B A n c l := ⟨h.1.below hb, h.2⟩
theorem Own.grown (h : Own w B A n c l) {row : Option Nat} (hg : w.grownBy w' row) (hne : ∀ ad, A = some ad → some ad.block ≠ row) : Own w' B A n c l := ⟨h.1.grown hg hne, h.2⟩
theorem Own.lower {B' : Nat} (h : Own w B A n c l) (hB : B' ≤ B) : Own w B' A n c l := ⟨h.1.lower hB, h.2⟩
theorem Own.alloc_ (h : Own w B A n c l) (o : Obj) : Own (w.alloc o) B A n c l := ⟨h.1.alloc_ o, h.2⟩
theorem Own.nil_ (w : World) (B : Nat) : Own w B none 0 0 [] := ⟨World.ownsRow_nil _ _ _ _, rfl⟩
theorem Own.of {v : Value} (h : w.ownsRow B 5 1 v n (bvs l)) : ∃ A c, v = .slice A n c ∧ Own w B A n c l := by
  have hl := h.1
  obtain ⟨A, c, rfl, ho⟩ := OwnR.of h
  exact ⟨A, c, rfl, ho, by simpa using hl⟩
end

/-- An element of a slice of one's own: its cell, and what a store into it leaves. -/
theorem Own.at_ {w : World} {B n c : Nat} {A : Option Addr} {l : List UInt8} (h : Own w B A n c l) {k : Nat} (hk : k < l.length) :
    ∃ g, A = some ⟨g, 0, none⟩ ∧ B ≤ g ∧ g < w.heap.size ∧ w.cell? ⟨g, k, none⟩ = some (.int .u8 ((l[k]).toNat : Int)) ∧ w.frozen? ⟨g, k, none⟩ = false ∧
      ∀ x : UInt8, Own (w.setCell ⟨g, k, none⟩ (.int .u8 (x.toNat : Int))) B A n c (l.set k x) := by
  have hl := h.2
  rcases h.1.2 with ⟨_, h0⟩ | ⟨g, cap, cur, hv, hbg, hh, hnc, hcm, hcs, htake⟩
  · omega
  · injection hv with h1 h2 h3
    subst h1; subst h3
    obtain ⟨b, off, e, hb, hc⟩ := h.bs.byte hk
    injection e with e
    injection e with e1 e2
    subst e1; subst e2
    rw [Nat.zero_add] at hc
    have ht : cur.toList.take n = bvs l := by simpa using htake
    refine ⟨g, rfl, hbg, hb, hc, by simp [World.frozen?, hh], fun x => ⟨⟨by simp [hl], .inr ⟨g, c, cur.setIfInBounds k (.int .u8 (x.toNat : Int)), rfl, hbg, ?_, hnc, hcm, by simpa using hcs, ?_⟩⟩, by simpa using hl⟩⟩
    · simp [World.setCell, Array.getElem?_modify, hh]
    · rw [Array.toList_setIfInBounds, Nat.mul_one, List.take_set, ht]
      simp [bvs, bv, List.map_set]

/-- append(v, ys...) of bytes. -/
theorem app8 {w : World} {ops : Array Oper} {rest : List Oper} {o : Oper} {a : Act} {Q : Exit → Act → World → Prop} (s x : Operand) (hgd : o.guard = none)
    (ho : o.op = .call { callee := .builtin .append, args := #[s, x], argTypes := #[22, 22] })
    {B : Nat} {A0 : Option Addr} {n0 c0 : Nat} {l0 : List UInt8} (hs : a.eval s = .slice A0 n0 c0) (hown : Own w B A0 n0 c0 l0)
    {A : Option Addr} {m c : Nat} {l : List UInt8} (hx : a.eval x = .slice A m c) (hr : Bs w A m c l) (hb : n0 + m ≤ 140737488355328) (hbase : B ≤ w.heap.size)
    (h : ∀ A' c' w', Own w' B A' (n0 + m) c' (l0 ++ l) → w.grownBy w' (A0.map (·.block)) → (∀ ad, A' = some ad → (A0.map (·.block) = some ad.block ∨ ad.block = w.heap.size)) → wpList Try.prog ops Q rest (a.put o.dst (.slice A' (n0 + m) c')) w') : wpList Try.prog ops Q (o :: rest) a w := by
  refine wpList_appR s x 22 hgd ho E8 B _ n0 (bvs l0) hs hown.1 A m c (bvs l) hx hr.1 (by simp [hr.2]) (bvs_one l) (by omega) hb hbase ?_
  intro v' w' h1 h2 h3
  rw [show bvs l0 ++ bvs l = bvs (l0 ++ l) by simp [bvs]] at h1
  obtain ⟨A', c', rfl, ho⟩ := Own.of h1
  refine h A' c' w' ho ?_ ?_
  · cases A0 <;> exact h2
  · intro ad e
    subst e
    cases A0 with
    | none => rcases h3 with h3 | h3 <;> simp [Value.ownBlock] at h3; exact .inr h3
    | some a0 => rcases h3 with h3 | h3 <;> simp [Value.ownBlock] at h3 <;> simp [h3]

/-- append(v, b), b a byte: the goal's world is that behind the variadic's box. -/
theorem app8_one {w : World} {ops : Array Oper} {rest : List Oper} {o : Oper} {a : Act} {Q : Exit → Act → World → Prop} (s x : Operand) (hgd : o.guard = none)
    (ho : o.op = .call { callee := .builtin .append, args := #[s, x], argTypes := #[22, 22] })
    {B : Nat} {A0 : Option Addr} {n0 c0 : Nat} {l0 : List UInt8} (hs : a.eval s = .slice A0 n0 c0) (hown : Own w B A0 n0 c0 l0)
    (l : List UInt8) (cs : Array Value) (hcs : cs.toList = bvs l) (m : Nat) (hm : l.length = m) (hx : a.eval x = .slice (some ⟨w.heap.size, 0, none⟩) m m) (hb : n0 + m ≤ 140737488355328) (hbase : B ≤ w.heap.size)
    (h : ∀ A' c' w', Own w' B A' (n0 + m) c' (l0 ++ l) → w.grownBy w' (A0.map (·.block)) → (∀ ad, A' = some ad → (A0.map (·.block) = some ad.block ∨ w.heap.size ≤ ad.block)) → wpList Try.prog ops Q rest (a.put o.dst (.slice A' (n0 + m) c')) w') : wpList Try.prog ops Q (o :: rest) a (w.alloc (.cells cs 5)) := by
  have hrd : Bs (w.alloc (.cells cs 5)) (some ⟨w.heap.size, 0, none⟩) m m l := by
    have hnew := heap_alloc_new w (.cells cs 5)
    refine ⟨⟨by simp [hm], by simp only [maxLen]; omega, fun hn => ⟨_, rfl, by simp, fun j u hu => ?_⟩⟩, hm⟩
    have := cell_of_row (w.alloc (.cells cs 5)) w.heap.size j cs 5 (0, 0) hnew
    have he : (⟨w.heap.size, 0, none⟩ : Addr).add j = ⟨w.heap.size, j, none⟩ := by
      unfold Addr.add; split
      · rename_i h0; rw [h0]
      · simp
    rw [he, this, ← Array.getElem?_toList, hcs]
    exact hu
  refine app8 s x hgd ho hs (hown.alloc_ _) hx hrd hb (by simp; omega) ?_
  intro A' c' w' h1 h2 h3
  refine h A' c' w' h1 ?_ ?_
  · exact grown_trans (World.grownBy_alloc w _ _) h2
  · intro ad e
    rcases h3 ad e with h3 | h3
    · exact .inl h3
    · right; rw [h3]; simp

theorem empty8 (w : World) : Own (w.alloc (.cells #[] 5)) w.heap.size (some ⟨w.heap.size, 0, none⟩) 0 0 [] := ⟨World.ownsRow_made w #[] 0 (Nat.le_refl _) (by simp [maxLen]) rfl, rfl⟩
theorem below_empty {w w1 : World} (hg : (w.alloc (.cells #[] 5)).grownBy w1 (Option.map (fun x : Addr => x.block) (some ⟨w.heap.size, 0, none⟩))) : Below w.heap.size w w1 :=
  ((Below.refl _ _).alloc (Nat.le_refl _) _).grown hg (by simp) (fun k hk => by cases hk; exact Nat.le_refl _)

/-- The string of bytes. -/
def strOf (l : List UInt8) : ByteArray := ⟨l.toArray⟩
theorem strOf_inj {a b : List UInt8} : strOf a = strOf b ↔ a = b := by
  constructor
  · intro h
    have : a.toArray = b.toArray := congrArg ByteArray.data h
    simpa using this
  · rintro rfl; rfl
theorem Bs.str {w : World} {A : Option Addr} {n c : Nat} {l : List UInt8} (h : Bs w A n c l) : (convert 22 9 (.slice A n c)).run Try.prog w = .ok (.string (strOf l)) w := by
  have hn := h.2
  rcases A with _ | ad
  · have h0 : l.length = 0 := by
      rcases Nat.eq_zero_or_pos l.length with h0 | h0
      · exact h0
      · obtain ⟨ad, off, h', _⟩ := h.byte h0
        cases h'
    obtain rfl : l = [] := List.eq_nil_of_length_eq_zero h0
    exact run_convert_bytes_nil _ 22 5 Try.underlying22 Try.underlying5 n c _ Try.underlying9
  · have hl : (loadCells ad n).run Try.prog w = .ok ((l.map fun b => (b.toNat : Int)).map (Value.int .u8)).toArray w := by
      have := run_loadCells_list (P := Try.prog) w ad (bvs l) (fun j v hj => by
        obtain ⟨ad', he', _, hc⟩ := h.1.2.2 (by
          have hlt : j < (bvs l).length := by
            rcases Nat.lt_or_ge j (bvs l).length with h' | h'
            · exact h'
            · rw [List.getElem?_eq_none h'] at hj; cases hj
          omega)
        injection he' with he'
        subst he'
        exact hc j v hj)
      have e : ((l.map fun b => (b.toNat : Int)).map (Value.int .u8)) = bvs l := by simp [bvs, bv]
      rw [e]
      simpa [hn] using this
    rw [run_convert_bytes_string w _ _ _ _ n c Try.underlying22 Try.underlying5 Try.underlying9, run_bytesToString w ad n c _ hl, foldl_push_byteCells]
    simp [strOf, ByteArray.empty, ByteArray.emptyWithCapacity]
    rfl

/-- The cells of make([]byte, .., n). -/
def zcells (n : Nat) : Array Value := madeCells #[.int .u8 0] n
theorem run_make8 (m c : Nat) (hmc : m ≤ c) (hc : c ≤ 140737488355328) (x : Int) (hx : x = c) (W : World) :
    (Instr.makeSlice 22 (.int .i64 (m : Int)) (.int .i64 x)).run Try.prog W = .ok (.slice (some ⟨W.heap.size, 0, none⟩) m c) (W.alloc (.cells (zcells c) 5)) := by
  subst hx
  obtain ⟨i, hi, hz, hsize, hby⟩ := info_parts (P := Try.prog) (e := 5) (z := .int .u8 0) (size := 1) (bytes := 1) (by kernel_rfl)
  have hr := run_make (P := Try.prog) W 22 5 i (.int .u8 0) Try.underlying22 hi hz .i64 .i64 m c (by omega) (by omega) (by rw [hby]; omega) (by omega)
  simp only [Int.toNat_natCast, hsize, Nat.mul_one] at hr
  exact hr
theorem Own.made (W : World) (B m c : Nat) (hB : B ≤ W.heap.size) (hmc : m ≤ c) (hc : c ≤ 140737488355328) : Own (W.alloc (.cells (zcells c) 5)) B (some ⟨W.heap.size, 0, none⟩) m c (List.replicate m 0) := by
  refine ⟨⟨by simp, .inr ⟨_, c, _, rfl, hB, heap_alloc_new W _, hmc, by simp only [maxLen]; omega, by simp [zcells, size_madeCells], ?_⟩⟩, by simp⟩
  rw [zcells, toList_madeCells_one]
  simp [bv, Nat.min_eq_left hmc]

/-- copy(v, ys) of bytes, v one's own and no shorter. -/
theorem copy8 {w : World} {ops : Array Oper} {rest : List Oper} {o : Oper} {a : Act} {Q : Exit → Act → World → Prop} (s x : Operand) (hgd : o.guard = none)
    (ho : o.op = .call { callee := .builtin .copy, args := #[s, x], argTypes := #[22, 22] })
    {B : Nat} {A0 : Option Addr} {n0 c0 : Nat} {l0 : List UInt8} (hs : a.eval s = .slice A0 n0 c0) (hown : Own w B A0 n0 c0 l0)
    {A : Option Addr} {m c : Nat} {l : List UInt8} (hx : a.eval x = .slice A m c) (hr : Bs w A m c l) (hmn : m ≤ n0)
    (h : ∀ w', Own w' B A0 n0 c0 (l ++ l0.drop m) → w.grownBy w' (A0.map (·.block)) → wpList Try.prog ops Q rest (a.put o.dst (goInt m)) w') : wpList Try.prog ops Q (o :: rest) a w := by
  have hsz : (Try.prog.info? 5).map (·.size) = some 1 := by kernel_rfl
  have hl := hr.2
  have hl0 := hown.2
  rcases Nat.eq_zero_or_pos m with rfl | hm
  · have e0 : l = [] := List.eq_nil_of_length_eq_zero hl
    subst e0
    refine wpList_copy_nothing hgd s x _ _ ho _ Try.underlying22 hsz A0 A n0 c0 0 c hs hx (by simp) ?_
    exact h w (by simpa using hown) (World.grownBy.refl _ _)
  · obtain ⟨ad, rfl, _, hcell⟩ := hr.1.2.2 (by simp; omega)
    rcases hown.1.2 with ⟨_, h0⟩ | ⟨g, cap, cur, hv, hbg, hh, hnc, hcm, hcs, htake⟩
    · omega
    · injection hv with h1 h2 h3
      subst h1; subst h3
      refine wpList_copy_own hgd s x _ _ ho _ Try.underlying22 hsz g 0 n0 c0 ad m c hs hx cur _ hh (bvs l) (by simp [hl, Nat.min_eq_left hmn]) hcell (by simp [hl]; omega) (bvs_one l) ?_
      have hlen : (bvs l).length = m := by simp [hl]
      rw [hlen]
      refine h _ ⟨?_, by simp; omega⟩ ?_
      · refine ⟨by simp; omega, .inr ⟨g, c0, _, rfl, hbg, setRow_heap w g cur _ _ _ hh, hnc, hcm, ?_, ?_⟩⟩
        · simp [hl]; omega
        · have e1 : cur.toList.take n0 = bvs l0 := by simpa using htake
          have e2 : bvs (l0.drop m) = (cur.toList.take n0).drop m := by rw [e1]; simp [bvs]
          have e3 : bvs (l ++ l0.drop m) = bvs l ++ (cur.toList.take n0).drop m := by rw [← e2]; simp [bvs]
          rw [e3]
          simp only [List.take_zero, List.nil_append, Nat.zero_add, Nat.mul_one]
          rw [List.take_append, List.take_of_length_le (by omega), hlen, List.drop_take]
      · exact ⟨rfl, rfl, rfl, by simp [World.setRow], fun k _ hk => setRow_other w g k _ (fun e => hk (by simp [e]))⟩
end Go.Proofs.Ytjbnoamoadaknaa
end

/- What a statement's row opens: the arguments as lists and numbers. -/
section
namespace Go.Proofs.Ytjbnoamoadaknaa
open Go.ChangeShapes Go.WideShapes Go.ChangeAt Go.RowKit
set_option maxRecDepth 100000
open Go.ChangeMaps (open_string shut_string)

theorem own_ : ownKnob Try.prog.godebug = none := by kernel_rfl
theorem laidOut : laidOutB Try.prog = true := by kernel_rfl
theorem trod_lt_ {H : Type} {enc : TypeId × Value → H} {W : World} {t : TypeId} {v : Value} {d : DataW H} {p : List MemPlace}
    (h : DataW.Trod enc Try.prog W 0 (fun _ => true) true t v d p) : ∀ x ∈ p, x.block < W.heap.size := by
  obtain ⟨m, hm⟩ := h
  exact DataW.trod_lt m _ _ _ hm
theorem below_trod {H : Type} {enc : TypeId × Value → H} {W W' : World} {t : TypeId} {v : Value} {d : DataW H} {p : List MemPlace}
    (h : DataW.Trod enc Try.prog W 0 (fun _ => true) true t v d p) (hr : Try.prog.readableRec t = true) (hrow : t < Try.prog.types.size) (hb : Below W.heap.size W W') :
    DataW.Trod enc Try.prog W' 0 (fun b => decide (b < W.heap.size)) true t v d p :=
  Below.trod laidOut hr hrow h hb (trod_lt_ h)

section
variable {H : Type} {enc : TypeId × Value → H} {W : World} {base : Nat} {v : Value} {d : DataW H} {p : List MemPlace}
theorem open_i64 {t : TypeId} (ht : Try.prog.underlying t = some (.int .i64)) (hv : Value.okWide Try.prog W .any base t v) (h : DataW.Trod enc Try.prog W 0 (fun _ => true) true t v d p) : ∃ x : Int, v = .int .i64 x ∧ -9223372036854775808 ≤ x ∧ x ≤ 9223372036854775807 := by
  obtain ⟨x, rfl, _, _, w⟩ := open_int ht hv h
  exact ⟨x, rfl, bounds_i64 w⟩
theorem open_u64 {t : TypeId} (ht : Try.prog.underlying t = some (.int .u64)) (hv : Value.okWide Try.prog W .any base t v) (h : DataW.Trod enc Try.prog W 0 (fun _ => true) true t v d p) : ∃ x : Nat, v = .int .u64 (x : Int) ∧ x < 18446744073709551616 := by
  obtain ⟨x, rfl, _, _, w⟩ := open_int ht hv h
  have hw : 0 ≤ x ∧ x ≤ 18446744073709551615 := by
    simp [Lit.wf, IntKind.min, IntKind.max, IntKind.signed, IntKind.bits] at w
    omega
  obtain ⟨n, rfl⟩ := Int.eq_ofNat_of_zero_le hw.1
  exact ⟨n, rfl, by omega⟩
theorem open_u32 {t : TypeId} (ht : Try.prog.underlying t = some (.int .u32)) (hv : Value.okWide Try.prog W .any base t v) (h : DataW.Trod enc Try.prog W 0 (fun _ => true) true t v d p) : ∃ x : Nat, v = .int .u32 (x : Int) ∧ x < 4294967296 := by
  obtain ⟨x, rfl, _, _, w⟩ := open_int ht hv h
  have hw := bounds_u32 w
  obtain ⟨n, rfl⟩ := Int.eq_ofNat_of_zero_le hw.1
  exact ⟨n, rfl, by omega⟩
theorem open_u8 {t : TypeId} (ht : Try.prog.underlying t = some (.int .u8)) (hv : Value.okWide Try.prog W .any base t v) (h : DataW.Trod enc Try.prog W 0 (fun _ => true) true t v d p) : ∃ x : UInt8, v = .int .u8 (x.toNat : Int) := by
  obtain ⟨x, rfl, _, _, w⟩ := open_int ht hv h
  have hw := bounds_u8 w
  obtain ⟨n, rfl⟩ := Int.eq_ofNat_of_zero_le hw.1
  exact ⟨UInt8.ofNat n, by rw [UInt8.toNat_ofNat_of_lt' (by simp [UInt8.size]; omega)]⟩
/-- A slice of whole numbers of one kind, by its cells. -/
theorem open_nums {t e : TypeId} {k : IntKind} (ht : Try.prog.underlying t = some (.slice e)) (he : Try.prog.underlying e = some (.int k)) (hc : Try.prog.cellsOf e = 1)
    (hv : Value.okWide Try.prog W .any base t v) (h : DataW.Trod enc Try.prog W 0 (fun _ => true) true t v d p) :
    ∃ (A : Option Addr) (c : Nat) (zs : List Int), v = .slice A zs.length c ∧ Rd W A c (zs.map (Value.int k)) ∧ ∀ z ∈ zs, (Lit.int k z).wf = true := by
  obtain ⟨a0, len0, cap0, rfl⟩ := okWide_slice ht hv
  have lt0 := trod_lt_ h
  obtain ⟨fuel, hf⟩ := h
  rcases open_ints ht he hc hf with ⟨hcs, _⟩ | ⟨x, l, c, zs, hcs, _, hl, hm, hz, hx, hcell, hwz⟩
  · simp [Value.cells] at hcs
    obtain ⟨rfl, rfl, rfl⟩ := hcs
    exact ⟨none, 0, [], rfl, Rd.none_ W, by simp⟩
  · simp [Value.cells] at hcs
    obtain ⟨rfl, rfl, rfl⟩ := hcs
    have hzl : zs.length = cap0 := by simpa using hz
    have hlen : (zs.take len0).length = len0 := by rw [List.length_take]; omega
    refine ⟨some x, cap0, zs.take len0, by rw [hlen], ⟨by simp; omega, hm, fun hn => ⟨x, rfl, ?_, fun j u hu => ?_⟩⟩, fun z hz => hwz z (List.mem_of_mem_take hz)⟩
    · have h0 : 0 < zs.length := by simp at hn; omega
      exact World.block_lt_of_cell? W x (by simpa [Addr.add] using hcell 0 h0)
    · rw [List.getElem?_map, List.getElem?_take] at hu
      split at hu
      · rename_i hj
        have hjz : j < zs.length := by omega
        rw [List.getElem?_eq_getElem hjz] at hu
        simp only [Option.map_some, Option.some.injEq] at hu
        rw [hcell j hjz, ← hu]
        simp [List.getD, List.getElem?_eq_getElem hjz]
      · simp at hu
theorem open_bytes {t : TypeId} (ht : Try.prog.underlying t = some (.slice 5)) (hv : Value.okWide Try.prog W .any base t v) (h : DataW.Trod enc Try.prog W 0 (fun _ => true) true t v d p) :
    ∃ (A : Option Addr) (n c : Nat) (l : List UInt8), v = .slice A n c ∧ Bs W A n c l := by
  obtain ⟨A, c, zs, rfl, hr, hw⟩ := open_nums ht Try.underlying5 (by kernel_rfl) hv h
  refine ⟨A, _, c, zs.map fun z => UInt8.ofNat z.toNat, rfl, ?_, by simp⟩
  have e : bvs (zs.map fun z => UInt8.ofNat z.toNat) = zs.map (Value.int .u8) := by
    simp only [bvs, List.map_map]
    refine List.map_congr_left fun z hz => ?_
    have hb := bounds_u8 (hw z hz)
    obtain ⟨n, rfl⟩ := Int.eq_ofNat_of_zero_le hb.1
    simp only [Function.comp, bv, Int.toNat_natCast]
    rw [UInt8.toNat_ofNat_of_lt' (by simp [UInt8.size]; omega)]
  rw [e]
  exact hr
end
end Go.Proofs.Ytjbnoamoadaknaa
end
