import Derived.Test.YtjbnoamoadaknaaYSigBack6
import Derived.Test.YtjbnoamoadaknaaYSigBack3
import Derived.Shelf.Small.Bits
import Derived.RangeFuncBox
import Derived.RangeFuncLeaves
import Derived.Shelf.Abstract
import Derived.WalkKit
import Derived.OwnWalkIn
import Derived.TacticsInMore
import Derived.LoopNIn
import Derived.LoopIn
/- Slices of numbers in memory. -/
section
namespace Go.Proofs.Ytjbnoamoadaknaa
open Go.RowKit

abbrev nvs (k : IntKind) (xs : List Nat) : List Value := xs.map fun (x : Nat) => .int k (x : Int)
/-- The slice (A, n, c) of numbers of kind k reads as xs. -/
def Nr (w : World) (k : IntKind) (A : Option Addr) (n c : Nat) (xs : List Nat) : Prop := Rd w A c (nvs k xs) ∧ xs.length = n
/-- The slice (A, n, c) is the call's own (in a block from B on; elements of type T) and holds the numbers xs. -/
def OwnN (w : World) (B : Nat) (T : TypeId) (k : IntKind) (A : Option Addr) (n c : Nat) (xs : List Nat) : Prop := OwnR w B T 1 A c n (nvs k xs) ∧ xs.length = n

section
variable {w w' : World} {B n c : Nat} {T : TypeId} {k : IntKind} {A : Option Addr} {xs : List Nat}
theorem Nr.len (h : Nr w k A n c xs) : xs.length = n := h.2
theorem Nr.cap (h : Nr w k A n c xs) : n ≤ c ∧ c ≤ 9223372036854775807 := ⟨by have := h.1.1; have := h.2; simp only [List.length_map] at *; omega, by have := h.1.2.1; unfold maxLen at this; omega⟩
theorem Nr.below (h : Nr w k A n c xs) (hb : Below w.heap.size w w') : Nr w' k A n c xs := ⟨h.1.below hb, h.2⟩
theorem Nr.grown (h : Nr w k A n c xs) {row : Option Nat} (hg : w.grownBy w' row) (hne : ∀ ad, A = some ad → some ad.block ≠ row) : Nr w' k A n c xs := ⟨h.1.grown hg hne, h.2⟩
theorem Nr.grown' (h : Nr w k A n c xs) {row : Option Nat} (hg : w.grownBy w' row) (hne : xs ≠ [] → ∀ ad, A = some ad → some ad.block ≠ row) : Nr w' k A n c xs := by
  by_cases hl : xs = []
  · subst hl
    exact ⟨Rd.nil_ w' A c h.1.2.1, h.2⟩
  · exact h.grown hg (hne hl)
theorem Nr.alloc (h : Nr w k A n c xs) (o : Obj) : Nr (w.alloc o) k A n c xs := ⟨h.1.alloc o, h.2⟩
theorem Nr.drew (h : Nr w k A n c xs) : Nr w.drew k A n c xs := h
theorem Nr.drewN (h : Nr w k A n c xs) (j : Nat) : Nr (w.drewN j) k A n c xs := h
theorem Nr.nil_ (w : World) (k : IntKind) : Nr w k none 0 0 [] := ⟨Rd.none_ w, rfl⟩
theorem Nr.at_ {j : Nat} (h : Nr w k A n c xs) (hj : j < xs.length) : ∃ b off, A = some ⟨b, off, none⟩ ∧ b < w.heap.size ∧ w.cell? ⟨b, off + j, none⟩ = some (.int k (xs[j] : Int)) := by
  obtain ⟨b, off, e, hb, hc⟩ := h.1.at_ (k := j) (by simpa using hj)
  exact ⟨b, off, e, hb, by rw [hc]; simp⟩
theorem Nr.upto (h : Nr w k A n c xs) {j : Nat} (hj : j ≤ n) : Nr w k A j c (xs.take j) := by
  have h2 := h.2
  refine ⟨?_, by rw [List.length_take]; omega⟩
  have := h.1.take_ j
  simpa [nvs] using this
/-- A slice with a lower capacity. -/
theorem Nr.clip (h : Nr w k A n c xs) : Nr w k A n n xs := ⟨⟨by simp [h.2], Nat.le_trans h.cap.1 h.1.2.1, h.1.2.2⟩, h.2⟩
theorem Nr.lt (h : Nr w k A n c xs) (hl : xs ≠ []) : ∀ ad, A = some ad → ad.block < w.heap.size := fun ad e => by
  have hp : 0 < xs.length := List.length_pos_iff.2 hl
  obtain ⟨b, off, e2, hb, _⟩ := h.at_ hp
  rw [e] at e2
  injection e2 with e2
  rw [e2]
  exact hb
theorem OwnN.nr (h : OwnN w B T k A n c xs) : Nr w k A n c xs := ⟨h.1.rd, h.2⟩
theorem OwnN.blk (h : OwnN w B T k A n c xs) : ∀ ad, A = some ad → B ≤ ad.block ∧ ad.block < w.heap.size := h.1.blk
theorem OwnN.below (h : OwnN w B T k A n c xs) (hb : Below w.heap.size w w') : OwnN w' B T k A n c xs := ⟨h.1.below hb, h.2⟩
theorem OwnN.lower {B' : Nat} (h : OwnN w B T k A n c xs) (hB : B' ≤ B) : OwnN w B' T k A n c xs := ⟨h.1.lower hB, h.2⟩
theorem OwnN.alloc_ (h : OwnN w B T k A n c xs) (o : Obj) : OwnN (w.alloc o) B T k A n c xs := ⟨h.1.alloc_ o, h.2⟩
theorem OwnN.drew (h : OwnN w B T k A n c xs) : OwnN w.drew B T k A n c xs := h
theorem OwnN.of {v : Value} (h : w.ownsRow B T 1 v n (nvs k xs)) : ∃ A c, v = .slice A n c ∧ OwnN w B T k A n c xs := by
  have hl := h.1
  obtain ⟨A, c, rfl, ho⟩ := OwnR.of h
  exact ⟨A, c, rfl, ho, by simpa using hl⟩
theorem OwnN.grew {w0 : World} (hown : OwnN w B T k A n c xs) (h : Below B w0 w) (hB : B ≤ w.heap.size) (hg : w.grownBy w' (A.map (·.block))) : Below B w0 w' :=
  h.grown hg hB fun i hi => by
    cases A with
    | none => cases hi
    | some ad => cases hi; exact (hown.blk _ rfl).1
end

/-- An element of a slice of one's own: its cell, and what a store into it leaves. -/
theorem OwnN.at_ {w : World} {B n c : Nat} {T : TypeId} {k : IntKind} {A : Option Addr} {xs : List Nat} (h : OwnN w B T k A n c xs) {j : Nat} (hj : j < xs.length) :
    ∃ g, A = some ⟨g, 0, none⟩ ∧ B ≤ g ∧ g < w.heap.size ∧ w.cell? ⟨g, j, none⟩ = some (.int k (xs[j] : Int)) ∧ w.frozen? ⟨g, j, none⟩ = false ∧
      ∀ x : Nat, OwnN (w.setCell ⟨g, j, none⟩ (.int k (x : Int))) B T k A n c (xs.set j x) := by
  have hl := h.2
  rcases h.1.2 with ⟨_, h0⟩ | ⟨g, cap, cur, hv, hbg, hh, hnc, hcm, hcs, htake⟩
  · omega
  · injection hv with h1 h2 h3
    subst h1; subst h3
    obtain ⟨b, off, e, hb, hc⟩ := h.nr.at_ hj
    injection e with e
    injection e with e1 e2
    subst e1; subst e2
    rw [Nat.zero_add] at hc
    have ht : cur.toList.take n = nvs k xs := by simpa using htake
    refine ⟨g, rfl, hbg, hb, hc, by simp [World.frozen?, hh], fun x => ⟨⟨by simp [hl], .inr ⟨g, c, cur.setIfInBounds j (.int k (x : Int)), rfl, hbg, ?_, hnc, hcm, by simpa using hcs, ?_⟩⟩, by simpa using hl⟩⟩
    · simp [World.setCell, Array.getElem?_modify, hh]
    · rw [Array.toList_setIfInBounds, Nat.mul_one, List.take_set, ht]
      simp [nvs, List.map_set]

theorem ownN_empty (w : World) (T : TypeId) (k : IntKind) : OwnN (w.alloc (.cells #[] T)) w.heap.size T k (some ⟨w.heap.size, 0, none⟩) 0 0 [] := ⟨World.ownsRow_made w #[] 0 (Nat.le_refl _) (by simp [maxLen]) rfl, rfl⟩
theorem below_emptyN {w w1 : World} {T : TypeId} (hg : (w.alloc (.cells #[] T)).grownBy w1 (Option.map (fun x : Addr => x.block) (some ⟨w.heap.size, 0, none⟩))) : Below w.heap.size w w1 :=
  ((Below.refl _ _).alloc (Nat.le_refl _) _).grown hg (by simp) (fun k hk => by cases hk; exact Nat.le_refl _)

/-- append(v, x..) of numbers; the goal's world is that behind the variadic's box. -/
theorem appN {P : Program} {w : World} {ops : Array Oper} {rest : List Oper} {o : Oper} {a : Act} {Q : Exit → Act → World → Prop} (s x : Operand) (hgd : o.guard = none) {S : TypeId}
    (ho : o.op = .call { callee := .builtin .append, args := #[s, x], argTypes := #[S, S] }) {T : TypeId} {bytes : Nat} (E : El P S T 1 bytes) (h8 : bytes ≤ 8) {k : IntKind}
    {B : Nat} {A0 : Option Addr} {n0 c0 : Nat} {xs : List Nat} (hs : a.eval s = .slice A0 n0 c0) (hown : OwnN w B T k A0 n0 c0 xs)
    (l : List Nat) (cs : Array Value) (hcs : cs.toList = nvs k l) (m : Nat) (hm : l.length = m) (hx : a.eval x = .slice (some ⟨w.heap.size, 0, none⟩) m m) (hb : n0 + m ≤ 1000000) (hbase : B ≤ w.heap.size)
    (h : ∀ A' c' w', OwnN w' B T k A' (n0 + m) c' (xs ++ l) → w.grownBy w' (A0.map (·.block)) → wpList P ops Q rest (a.put o.dst (.slice A' (n0 + m) c')) w') : wpList P ops Q (o :: rest) a (w.alloc (.cells cs T)) := by
  have hrd : Rd (w.alloc (.cells cs T)) (some ⟨w.heap.size, 0, none⟩) m (nvs k l) := by
    have hnew := heap_alloc_new w (.cells cs T)
    refine ⟨by simp [hm], by simp only [maxLen]; omega, fun hn => ⟨_, rfl, by simp, fun j u hu => ?_⟩⟩
    have := cell_of_row (w.alloc (.cells cs T)) w.heap.size j cs T (0, 0) hnew
    have he : (⟨w.heap.size, 0, none⟩ : Addr).add j = ⟨w.heap.size, j, none⟩ := by
      unfold Addr.add; split
      · rename_i h0; rw [h0]
      · simp
    rw [he, this, ← Array.getElem?_toList, hcs]
    exact hu
  refine wpList_appR s x S hgd ho E B _ n0 (nvs k xs) hs (hown.1.alloc_ _) _ m m (nvs k l) hx hrd (by simp [hm]) (fun u hu => ?_) (Nat.le_trans (Nat.mul_le_mul_left _ h8) (by omega)) (by omega) (by simp; omega) ?_
  · simp only [List.mem_map] at hu
    obtain ⟨b, _, rfl⟩ := hu
    rfl
  · intro v' w' h1 h2 h3
    rw [show nvs k xs ++ nvs k l = nvs k (xs ++ l) by simp [nvs]] at h1
    obtain ⟨A', c', rfl, ho⟩ := OwnN.of h1
    refine h A' c' w' ho ?_
    have hg : (w.alloc (.cells cs T)).grownBy w' (A0.map (·.block)) := by cases A0 <;> exact h2
    exact grown_trans (World.grownBy_alloc w _ _) hg

/-- make of numbers. -/
def ncells (k : IntKind) (n : Nat) : Array Value := madeCells #[.int k 0] n
theorem run_makeN {P : Program} {S T : TypeId} {k : IntKind} {bytes : Nat} (ht : P.underlying S = some (.slice T)) (hinfo : (P.info? T).map (fun i => (i.zero, i.size, i.bytes)) = some (some (.int k 0), 1, bytes)) (h8 : bytes ≤ 8)
    (m : Nat) (hc : m ≤ 1000000) (x : Int) (hx : x = m) (W : World) :
    (Instr.makeSlice S (.int .i64 x) (.int .i64 x)).run P W = .ok (.slice (some ⟨W.heap.size, 0, none⟩) m m) (W.alloc (.cells (ncells k m) T)) := by
  subst hx
  obtain ⟨i, hi, hz, hsize, hby⟩ := info_parts hinfo
  have hr := run_make (P := P) W S T i (.int k 0) ht hi hz .i64 .i64 m m (by omega) (by omega) (by rw [hby]; have := Nat.mul_le_mul h8 (Nat.le_refl m); omega) (by omega)
  simp only [Int.toNat_natCast, hsize, Nat.mul_one] at hr
  exact hr
theorem OwnN.made (W : World) (T : TypeId) (k : IntKind) (B m : Nat) (hB : B ≤ W.heap.size) (hc : m ≤ 1000000) : OwnN (W.alloc (.cells (ncells k m) T)) B T k (some ⟨W.heap.size, 0, none⟩) m m (List.replicate m 0) := by
  refine ⟨⟨by simp, .inr ⟨_, m, _, rfl, hB, heap_alloc_new W _, Nat.le_refl _, by simp only [maxLen]; omega, by simp [ncells, size_madeCells], ?_⟩⟩, by simp⟩
  rw [ncells, toList_madeCells_one]
  simp
end Go.Proofs.Ytjbnoamoadaknaa
end

/- nat: trim, word, lay, Len32. -/
section
namespace Go.Proofs.Ytjbnoamoadaknaa
open Go.RowKit

/-- What trimming answers: the first m words, which are the number, without noughts at the end. -/
def TrimSaid (A : Option Addr) (xs : List Nat) (e : Ending) : Prop := ∃ m, e = .returned (.slice A m m) ∧ m ≤ xs.length ∧ Trim (xs.take m) ∧ ∀ β, num β (xs.take m) = num β xs
set_option maxRecDepth 100000 in
set_option maxHeartbeats 1600000 in
theorem trim_calls {A : Option Addr} {n c : Nat} {xs : List Nat} {w : World} (h : Nr w .u32 A n c xs) :
    Calls Try.prog 66 #[.slice A n c] w fun e w' => TrimSaid A xs e ∧ w = w' := by
  obtain ⟨hc1, hc2⟩ := h.cap
  obtain rfl := h.2
  go_enter Try.func66, Try.ntmps66
  go_wp2_with fail
  go_loop [3] (fun i => ∃ k : Nat, i = .int .i64 k ∧ k ≤ xs.length ∧ Hid (∀ j (hj : j < xs.length), k ≤ j → xs[j] = 0)) (fun i => (intOf i).toNat)
  case atStart => exact ⟨_, rfl, Nat.le_refl _, Lib.hid (fun j hj h => by omega)⟩
  case round =>
    obtain ⟨k, rfl, hk, hz⟩ := hrel
    rcases Nat.eq_zero_or_pos k with rfl | hp
    · go_wp2
      go_ret
      exact ⟨⟨0, by first | rfl | simp, Nat.zero_le _, trim_take (Nat.zero_le _) (.inl rfl), fun β => num_take_zeros (fun j hj h => hz.out j hj h)⟩, rfl⟩
    · obtain ⟨j, rfl⟩ : ∃ j, k = j + 1 := ⟨k - 1, by omega⟩
      obtain ⟨b, off, rfl, hbl, hcell⟩ := h.at_ (j := j) (by omega)
      have e1 : (((j + 1 : Nat) : Int)) - 1 = (j : Int) := by omega
      by_cases h0 : xs[j] = 0
      · rw [h0] at hcell
        go_wp2
        go_round
        case rel => exact ⟨j, by go_num, by omega, Lib.hid (fun i hi hij => by
          by_cases e : i = j
          · subst e; exact h0
          · exact hz.out i hi (by omega))⟩
        case measure => simp [intOf]
      · have hne : ((xs[j] : Int) == 0) = false := by rw [beq_eq_false_iff_ne]; omega
        have H0 := Lib.hid h0
        clear h0
        go_wp2
        go_ret
        exact ⟨⟨j + 1, by first | rfl | simp, hk, trim_take hk (.inr ⟨by omega, H0.out⟩), fun β => num_take_zeros (fun i hi h => hz.out i hi h)⟩, rfl⟩

/-- A word; 0 behind the end. -/
theorem word_calls {A : Option Addr} {n c : Nat} {xs : List Nat} {w : World} (h : Nr w .u32 A n c xs) (i : Nat) :
    Calls Try.prog 94 #[.slice A n c, .int .i64 (i : Int)] w fun e w' => e = .returned (.int .u32 (xs.getD i 0 : Nat)) ∧ w = w' := by
  obtain ⟨hc1, hc2⟩ := h.cap
  obtain rfl := h.2
  by_cases hlt : i < xs.length
  · have e := Lib.hid (show xs.getD i 0 = xs[i] by simp [List.getD, hlt])
    obtain ⟨b, off, rfl, hbl, hcell⟩ := h.at_ hlt
    go_enter Try.func94, Try.ntmps94
    go_wp2
    go_ret
    rw [e.out]
    exact ⟨rfl, rfl⟩
  · have e := Lib.hid (show xs.getD i 0 = 0 by simp [List.getD, hlt])
    go_enter Try.func94, Try.ntmps94
    go_wp2
    go_ret
    rw [e.out]
    exact ⟨rfl, rfl⟩

end Go.Proofs.Ytjbnoamoadaknaa
end

/- bits.Len32: the kit's contract, laid at this program. -/
section
namespace Go.Proofs.Ytjbnoamoadaknaa
open Go.RowKit Go.Shelf

def lenRen : Ren := { f := fun _ => 88, t := fun k => if k = 3 then 3 else if k = 4 then 4 else if k = 5 then 5 else if k = 9 then 9 else if k = 46 then 97 else 64, g := fun x => x }
theorem lenLays : Lays.n128 Try.prog lenRen := {
  mixed := by kernel_rfl
  f128 := Try.func88.trans (by kernel_rfl)
  t3 := Try.underlying3
  a3 := fun _ => by kernel_rfl
  z3 := fun _ => by kernel_rfl
  v3 := fun _ => by kernel_rfl
  t4 := Try.underlying4
  a4 := fun _ => by kernel_rfl
  z4 := fun _ => by kernel_rfl
  v4 := fun _ => by kernel_rfl
  t5 := Try.underlying5
  a5 := fun _ => by kernel_rfl
  z5 := fun _ => by kernel_rfl
  v5 := fun _ => by kernel_rfl
  t9 := Try.underlying9
  a9 := fun _ => by kernel_rfl
  z9 := fun _ => by kernel_rfl
  v9 := fun _ => by kernel_rfl
  t46 := Try.underlying97
  a46 := fun _ => by kernel_rfl
  z46 := fun _ => by kernel_rfl
  v46 := fun _ => by kernel_rfl
  t51 := Try.underlying64
  a51 := fun _ => by kernel_rfl
  z51 := fun _ => by kernel_rfl
  v51 := fun _ => by kernel_rfl }
theorem Len32_calls (x : Nat) (hx : x < 4294967296) (w : World) : Calls Try.prog 88 #[.int .u32 (x : Int)] w fun e w' => e = .returned (.int .i64 (nbits x : Nat)) ∧ w = w' :=
  (Any.bits_Len32 lenLays (x : Int) w (by omega) (by omega)).mono fun e w' ⟨he, hw⟩ => ⟨by rw [he, Int.toNat_natCast, nbits_bitLen (by omega)], hw.symm⟩
end Go.Proofs.Ytjbnoamoadaknaa
end

/- nat.lay: a number as so many bytes. -/
section
namespace Go.Proofs.Ytjbnoamoadaknaa
open Go.RowKit

theorem word_any {A : Option Addr} {n c : Nat} {xs : List Nat} {w : World} (h : Nr w .u32 A n c xs) (i : Nat) (x : Int) (hx : x = i) :
    Calls Try.prog 94 #[.slice A n c, .int .i64 x] w fun e w' => e = .returned (.int .u32 (xs.getD i 0 : Nat)) ∧ w = w' := by
  subst hx
  exact word_calls h i

theorem pow4 : (256 : Nat) ^ 4 = 4294967296 := by decide
/-- A byte of a number is one of its words'. -/
theorem byte_word {xs : List Nat} (hlo : Lo 4294967296 xs) (i : Nat) : num 4294967296 xs / 256 ^ i % 256 = xs.getD (i / 4) 0 / 256 ^ (i % 4) % 256 := by
  have hd := num_digit (by decide : 0 < 4294967296) (i / 4) hlo
  have hi : i = 4 * (i / 4) + i % 4 := by omega
  have e1 : 256 ^ i = 4294967296 ^ (i / 4) * 256 ^ (i % 4) := by
    rw [← pow4, ← Nat.pow_mul, ← Nat.pow_add, ← hi]
  rw [e1, ← Nat.div_div_eq_div_mul, ← hd]
  generalize num 4294967296 xs / 4294967296 ^ (i / 4) = X
  have hr : i % 4 < 4 := Nat.mod_lt _ (by decide)
  generalize i % 4 = r at hr
  rcases (by omega : r = 0 ∨ r = 1 ∨ r = 2 ∨ r = 3) with rfl | rfl | rfl | rfl <;> omega
theorem be_step {k i : Nat} (hi : i < k) (N : Nat) (b : UInt8) (hb : b = UInt8.ofNat (N / 256 ^ i)) :
    (List.replicate (k - i) 0 ++ be i N).set (k - 1 - i) b = List.replicate (k - (i + 1)) 0 ++ be (i + 1) N := by
  obtain ⟨d, rfl⟩ : ∃ d, k = i + 1 + d := ⟨k - i - 1, by omega⟩
  have e1 : i + 1 + d - i = d + 1 := by omega
  have e2 : i + 1 + d - 1 - i = d := by omega
  have e3 : i + 1 + d - (i + 1) = d := by omega
  rw [e1, e2, e3, List.replicate_succ', List.append_assoc, List.set_append_right _ _ (by simp), hb]
  simp [be]

set_option maxRecDepth 100000 in
set_option maxHeartbeats 3200000 in
theorem lay_calls {A : Option Addr} {n c : Nat} {xs : List Nat} {w : World} (h : Nr w .u32 A n c xs) (hlo : Lo 4294967296 xs) (k : Nat) (hk : k ≤ 1000000) (x : Int) (hx : x = k) :
    Calls Try.prog 83 #[.slice A n c, .int .i64 x] w fun e w' => ∃ A' c', e = .returned (.slice A' k c') ∧ Own w' w.heap.size A' k c' (be k (num 4294967296 xs)) ∧ Below w.heap.size w w' := by
  subst hx
  have hm := run_make8 k k (Nat.le_refl _) (by omega) (k : Int) rfl
  have hown0 := Own.made w w.heap.size k k (Nat.le_refl _) (Nat.le_refl _) (by omega)
  have hb0 := (Below.refl w.heap.size w).alloc (Nat.le_refl _) (.cells (zcells k) 5)
  have hbw := Lib.hid (byte_word hlo)
  go_enter Try.func83, Try.ntmps83
  go_wp2_with fail
  generalize w.alloc (.cells (zcells k) 5) = w0 at hown0 hb0 ⊢
  go_loopw [11] (fun v wr => ∃ i : Nat, v = .int .i64 i ∧ i ≤ k ∧ Own wr w.heap.size (some ⟨w.heap.size, 0, none⟩) k k (List.replicate (k - i) 0 ++ be i (num 4294967296 xs)) ∧ Below w.heap.size w wr) (fun v _ => k - (intOf v).toNat)
  case atStart => exact ⟨0, rfl, Nat.zero_le _, by simpa [be] using hown0, hb0⟩
  case round =>
    obtain ⟨i, rfl, hi, hown, hbr⟩ := hrel
    clear hown0 hb0
    by_cases hlt : i < k
    · obtain ⟨g, hg, hBg, hgl, hcell, hfr, hset⟩ := hown.at_ (k := k - 1 - i) (by simp [be_length]; omega)
      injection hg with hg
      injection hg with hg
      subst hg
      have hr := h.below hbr
      have HS := Lib.hid hset
      clear hset hm
      have hj : (k : Int) - 1 - (i : Int) = ((k - 1 - i : Nat) : Int) := by omega
      go_wp2_with (go_at_call 94; refine (word_any hr (i / 4) _ (by omega)).mono ?_; rintro e w1 ⟨rfl, rfl⟩)
      go_roundw
      case rel =>
        have hv : ((xs[i / 4]?.getD 0 : Nat) : Int) / 2 ^ (8 * (i % 4)) % 256 = ((UInt8.ofNat (num 4294967296 xs / 256 ^ i)).toNat : Int) := by
          have e2 : ((2 : Int) ^ (8 * (i % 4))) = ((256 ^ (i % 4) : Nat) : Int) := by rw [pow256]; simp
          have e3 := hbw.out i
          rw [List.getD_eq_getElem?_getD] at e3
          rw [e2, UInt8.toNat_ofNat']
          show _ = ((num 4294967296 xs / 256 ^ i % 256 : Nat) : Int)
          rw [e3]
          simp
        rw [hv]
        have ho := HS.out (UInt8.ofNat (num 4294967296 xs / 256 ^ i))
        rw [be_step hlt _ _ rfl] at ho
        exact ⟨i + 1, by go_num, by omega, ho, hbr.setCell (p := ⟨w.heap.size, k - 1 - i, none⟩) (Nat.le_refl _) _⟩
      case measure => simp [intOf]; omega
    · have hke : i = k := by omega
      go_wp2
      go_ret
      subst hke
      exact ⟨_, _, rfl, by simpa using hown, hbr⟩
end Go.Proofs.Ytjbnoamoadaknaa
end

/- nat.down: a number's words from the highest one on; nat.Bits. -/
section
namespace Go.Proofs.Ytjbnoamoadaknaa
open Go.RowKit Go.Shelf
attribute [local go_sem] Oper.semAt_some

/-- The first k of the places from n - 1 down. -/
def downs (n k : Nat) : List Nat := (List.range k).map (fun j => n - 1 - j)
theorem downs_succ (n k : Nat) : downs n (k + 1) = downs n k ++ [n - 1 - k] := by simp [downs, List.range_succ]
theorem downs_length (n k : Nat) : (downs n k).length = k := by simp [downs]
/-- The cells of words, in a block below n₀. -/
def Rdw (n₀ : Nat) (W : World) (A : Option Addr) (xs : List Nat) : Prop := xs ≠ [] → ∃ b off, A = some ⟨b, off, none⟩ ∧ b < n₀ ∧ ∀ j (hj : j < xs.length), W.cell? ⟨b, off + j, none⟩ = some (.int .u32 (xs[j] : Int))
theorem Nr.rdw {w : World} {A : Option Addr} {n c : Nat} {xs : List Nat} (h : Nr w .u32 A n c xs) : Rdw w.heap.size w A xs := fun hne => by
  have hp : 0 < xs.length := List.length_pos_iff.2 hne
  obtain ⟨b, off, rfl, hb, _⟩ := h.at_ hp
  refine ⟨b, off, rfl, hb, fun j hj => ?_⟩
  obtain ⟨b2, off2, e, _, hc⟩ := h.at_ hj
  injection e with e
  injection e with e1 e2
  subst e1; subst e2
  exact hc
theorem Rdw.below {n₀ : Nat} {W W' : World} {A : Option Addr} {xs : List Nat} (h : Rdw n₀ W A xs) (hb : Below n₀ W W') : Rdw n₀ W' A xs := fun hne => by
  obtain ⟨b, off, e, hl, hc⟩ := h hne
  exact ⟨b, off, e, hl, fun j hj => (hb.cell (p := ⟨b, off + j, none⟩) hl).trans (hc j hj)⟩
/-- What is told of a place: the place and its word. -/
def encW (xs : List Nat) (x : { i : Nat // i < xs.length }) : Array Value := #[.int .i64 (x.1 : Int), .int .u32 ((xs[x.1]'x.2 : Nat) : Int)]

set_option maxRecDepth 100000 in
set_option maxHeartbeats 4000000 in
theorem down1_in (F : Fence) (n : Nat) (hF : F.fn 95) (hro : F.round = none) (hn : 1 ≤ n) (l Bs n₀ : Nat) (A : Option Addr) (m c : Nat) (xs : List Nat) (hm : xs.length = m) (hm2 : m ≤ 9223372036854775807) (hmc : m ≤ c) (J Jx : List { i : Nat // i < xs.length } → World → Prop)
    (hY : ∀ pre x W, J pre W → pre.length < xs.length → YieldAt F (n - 1) Try.prog l (encW xs x) W fun e W' =>
      (e = .returned (.bool true) ∧ J (pre ++ [x]) W' ∧ Below n₀ W W') ∨ (e = .returned (.bool false) ∧ Jx (pre ++ [x]) W'))
    (W : World) (hBl : Bs < n₀) (hBs : W.cell? ⟨Bs, 0, none⟩ = some (.slice A m c)) (hr : Rdw n₀ W A xs) (h0 : J [] W) :
    CallsIn F n Try.prog 95 #[.func (.yield l) #[] #[], .pointer (some ⟨Bs, 0, none⟩)] W fun e W' => (∃ v, e = .returned v) ∧
      ((∃ ys, ys.map Subtype.val = downs xs.length xs.length ∧ J ys W') ∨ (∃ pre, (∃ k, k ≤ xs.length ∧ pre.map Subtype.val = downs xs.length k) ∧ Jx pre W')) := by
  subst hm
  refine callsIn_of_wp Try.func95 rfl hF ?_ hro
  simp only [Try.ntmps95, List.size_toArray, List.length_cons, List.length_nil, Nat.reduceAdd, Nat.reduceSub, Array.replicate_succ, Array.replicate_zero, List.push_toArray, List.append_toArray, List.nil_append, List.cons_append]
  gi_wp2
  gi_loopw [3] (fun i wr => ∃ k : Nat, k ≤ xs.length ∧ i = .int .i64 ((xs.length : Int) - 1 - (k : Int)) ∧ (∃ pre, pre.map Subtype.val = downs xs.length k ∧ J pre wr) ∧ Below n₀ W wr)
    (fun i _ => (intOf i + 1).toNat)
  case atStart => exact ⟨0, Nat.zero_le _, by go_num, ⟨[], rfl, h0⟩, Below.refl _ _⟩
  case round =>
    obtain ⟨k, hk, rfl, ⟨pre, hpre, hJs⟩, hnx⟩ := hrel
    have hBs' := (hnx.cell (p := ⟨Bs, 0, none⟩) hBl).trans hBs
    have hpl : pre.length = k := by rw [← List.length_map (f := Subtype.val), hpre, downs_length]
    by_cases hlt : k < xs.length
    · obtain ⟨b, off, rfl, hbl, hcs⟩ := hr.below hnx (by intro e; subst e; simp at hlt)
      obtain ⟨q, hq⟩ : ∃ q, q = xs.length - 1 - k := ⟨_, rfl⟩
      have hq2 : q < xs.length := by omega
      have hc := hcs q hq2
      obtain ⟨fn, tmps, assign, body, hy, hR⟩ := hY pre ⟨q, hq2⟩ wr hJs (by omega)
      have hj : (xs.length : Int) - 1 - (k : Int) = (q : Int) := by omega
      have hnew : (pre ++ [(⟨q, hq2⟩ : { i : Nat // i < xs.length })]).map Subtype.val = downs xs.length (k + 1) := by rw [List.map_append, hpre, downs_succ, ← hq]; rfl
      have HN := Lib.hid hnew
      have HJ := Lib.hid hj
      have hqk : q + k + 1 = xs.length := by omega
      have HQ := Lib.hid hqk
      clear hnew hcs hpl hpre hq hqk
      simp only [encW] at hy
      rw [hj]
      clear hj
      gi_wp2
      refine hR.mono ?_
      rintro e W3 (⟨rfl, hJ3, hk3⟩ | ⟨rfl, hJx3⟩)
      · gi_wp2
        go_roundw
        case rel => exact ⟨k + 1, by omega, by have := HQ.out; go_num, ⟨_, HN.out, hJ3⟩, hnx.trans hk3⟩
        case measure => simp [intOf]
      · gi_wp2
        refine bodyPost_ret (results_none rfl _ _ _) rfl ?_
        exact ⟨⟨_, rfl⟩, .inr ⟨_, ⟨k + 1, by omega, HN.out⟩, hJx3⟩⟩
    · obtain rfl : k = xs.length := by omega
      have hj : (xs.length : Int) - 1 - (xs.length : Int) = -1 := by omega
      have HP := Lib.hid hpre
      clear hpre hpl
      rw [hj]
      gi_wp2
      go_end0
      exact ⟨⟨_, rfl⟩, .inl ⟨_, HP.out, hJs⟩⟩

set_option maxRecDepth 100000 in
set_option maxHeartbeats 1000000 in
/-- nat.down: the number is boxed; the function value captures the box. -/
theorem down_in (F : Fence) (n : Nat) (hF : F.fn 87) (hro : F.round = none) (A : Option Addr) (m c : Nat) (w : World) :
    CallsIn F n Try.prog 87 #[.slice A m c] w fun e w' => e = .returned (.func (.func 95) #[] #[.pointer (some ⟨w.heap.size, 0, none⟩)]) ∧ w' = w.alloc (.cells #[.slice A m c] 59) := by
  refine callsIn_of_wp Try.func87 rfl hF ?_ hro
  simp only [Try.ntmps87, List.size_toArray, List.length_cons, List.length_nil, Nat.reduceAdd, Nat.reduceSub, Array.replicate_succ, Array.replicate_zero, List.push_toArray, List.append_toArray, List.nil_append, List.cons_append]
  gi_wp2
  go_ret
  exact ⟨rfl, rfl⟩

/-- What nat.down hands back stops, at whatever keeps what lay below n₀. -/
theorem down_stops (F : Fence) (n : Nat) (hF : F.fn 95) (hro : F.round = none) (hn : 1 ≤ n) (Bs n₀ : Nat) (A : Option Addr) (m c : Nat) (xs : List Nat) (hm : xs.length = m) (hm2 : m ≤ 9223372036854775807) (hmc : m ≤ c) (w : World) (hBs : Bs < n₀) (hn₀ : n₀ ≤ w.heap.size)
    (hc : w.cell? ⟨Bs, 0, none⟩ = some (.slice A m c)) (hI : Rdw n₀ w A xs) :
    SeqStopsK F n Try.prog 95 #[.pointer (some ⟨Bs, 0, none⟩)] (encW xs) (Below n₀) (fun ys => ys.map Subtype.val = downs xs.length xs.length)
      (fun pre => ∃ k, k ≤ xs.length ∧ pre.map Subtype.val = downs xs.length k) xs.length w := fun l J Jx W hW _ _ hY h0 =>
  down1_in F n hF hro hn l Bs n₀ A m c xs hm hm2 hmc J Jx hY W hBs ((hW.cell (p := ⟨Bs, 0, none⟩) (Nat.lt_of_lt_of_le hBs hn₀)).trans hc) (hI.below (hW.mono hn₀)) h0
end Go.Proofs.Ytjbnoamoadaknaa
end
