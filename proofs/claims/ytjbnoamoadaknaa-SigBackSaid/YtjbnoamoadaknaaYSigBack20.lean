import Derived.Test.YtjbnoamoadaknaaYSigBack4
import Derived.Test.YtjbnoamoadaknaaYSigBack3
import Derived.Deep.RegionHeld
import Derived.Test.YtjbnoamoadaknaaYSigBack12
import Derived.Laws.Cover3
/- Subpackets that are alike; finding one. -/
section
namespace Go.Proofs.Ytjbnoamoadaknaa
open Go.RowKit

set_option maxRecDepth 100000 in
set_option maxHeartbeats 3200000 in
theorem Same21_calls {A D : Option Addr} {n c m d : Nat} {ss : List SubV} {w : World} (h : Ss w A n ss) (h2 : Ss w D m ss) (hn : n ≤ 9223372036854775807) :
    Calls Try.prog 32 #[.slice A n c, .slice D m d] w fun e w' => e = .returned (.bool true) ∧ Below w.heap.size w w' := by
  obtain rfl := h.1
  obtain rfl := h2.1
  go_enter Try.func32, Try.ntmps32
  go_wp2_with fail
  go_loopw [5] (fun i wr => ∃ k : Nat, k ≤ ss.length ∧ i = .int .i64 k ∧ Below w.heap.size w wr) (fun i _ => ss.length - (intOf i).toNat)
  case atStart => exact ⟨0, Nat.zero_le _, rfl, Below.refl _ _⟩
  case round =>
    obtain ⟨k, hk, rfl, hbr⟩ := hrel
    by_cases hlt : k < ss.length
    · obtain ⟨b, off, Ak, nk, ck, hA, hbl, hc0, hc1, hc2, hbs⟩ := h.2 k hlt
      obtain ⟨b2, off2, Ak2, nk2, ck2, hD, hbl2, hd0, hd1, hd2, hbs2⟩ := h2.2 k hlt
      subst hA
      subst hD
      generalize ss[k] = p at hc0 hc1 hc2 hbs hd0 hd1 hd2 hbs2
      obtain ⟨tag, cr, body⟩ := p
      simp only at hc0 hc1 hc2 hbs hd0 hd1 hd2 hbs2
      have q0 : wr.drew.cell? ⟨b, off + k * 3, none⟩ = some (.int .i64 tag) := (hbr.cell (p := ⟨b, off + k * 3, none⟩) hbl).trans hc0
      have q1 : wr.drew.cell? ⟨b, off + k * 3 + 1, none⟩ = some (.bool cr) := (hbr.cell (p := ⟨b, off + k * 3 + 1, none⟩) hbl).trans hc1
      have q2 : wr.drew.cell? ⟨b, off + k * 3 + 2, none⟩ = some (.slice Ak nk ck) := (hbr.cell (p := ⟨b, off + k * 3 + 2, none⟩) hbl).trans hc2
      have q3 : wr.drew.cell? ⟨b2, off2 + k * 3, none⟩ = some (.int .i64 tag) := (hbr.cell (p := ⟨b2, off2 + k * 3, none⟩) hbl2).trans hd0
      have q4 : wr.drew.cell? ⟨b2, off2 + k * 3 + 1, none⟩ = some (.bool cr) := (hbr.cell (p := ⟨b2, off2 + k * 3 + 1, none⟩) hbl2).trans hd1
      have q5 : wr.drew.cell? ⟨b2, off2 + k * 3 + 2, none⟩ = some (.slice Ak2 nk2 ck2) := (hbr.cell (p := ⟨b2, off2 + k * 3 + 2, none⟩) hbl2).trans hd2
      have s1 := (hbs.below hbr).drew.str
      have s2 := (hbs2.below hbr).drew.str
      have hi0 : (0 : Int) ≤ (k : Int) := by omega
      have hi1 : (k : Int) < (ss.length : Int) := by omega
      clear hc0 hc1 hc2 hd0 hd1 hd2 hbs hbs2
      go_wp2_with fail
      go_region_held (fun w' => (w'.cell? ⟨b, off + k * 3, none⟩ = some (.int .i64 tag) ∧ w'.cell? ⟨b, off + k * 3 + 1, none⟩ = some (.bool cr) ∧ w'.cell? ⟨b, off + k * 3 + 2, none⟩ = some (.slice Ak nk ck)) ∧ (w'.cell? ⟨b2, off2 + k * 3, none⟩ = some (.int .i64 tag) ∧ w'.cell? ⟨b2, off2 + k * 3 + 1, none⟩ = some (.bool cr) ∧ w'.cell? ⟨b2, off2 + k * 3 + 2, none⟩ = some (.slice Ak2 nk2 ck2)) ∧
        (convert 22 9 (.slice Ak nk ck)).run Try.prog w' = .ok (.string (strOf body)) w' ∧ (convert 22 9 (.slice Ak2 nk2 ck2)).run Try.prog w' = .ok (.string (strOf body)) w') (exact ⟨⟨q0, q1, q2⟩, ⟨q3, q4, q5⟩, s1, s2⟩) (fail)
      go_wp2
      go_roundw
      case rel => exact ⟨k + 1, by omega, by go_num, hbr.drew⟩
      case measure => simp [intOf]; omega
    · have hke : k = ss.length := by omega
      go_wp2
      go_ret
      exact ⟨rfl, hbr⟩

/-- The first subpacket of a type: its body, and whether there is one. -/
def findS (t : Int) : List SubV → List UInt8 × Bool
  | [] => ([], false)
  | s :: ss => if s.1 = t then (s.2.2, true) else findS t ss

set_option maxRecDepth 100000 in
set_option maxHeartbeats 3200000 in
theorem Find_calls (t : Int) {A : Option Addr} {n c : Nat} {ss : List SubV} {w : World} (h : Ss w A n ss) (hn : n ≤ 9223372036854775807) (hl : ∀ s ∈ ss, s.2.2.length ≤ 100000) :
    Calls Try.prog 74 #[.slice A n c, .int .i64 t] w fun e w' => ∃ A' m' c', e = .returned (.tuple #[.slice A' m' c', .bool (findS t ss).2]) ∧ Own w' w.heap.size A' m' c' (findS t ss).1 ∧ Below w.heap.size w w' := by
  obtain rfl := h.1
  go_enter Try.func74, Try.ntmps74
  go_wp2_with fail
  go_loopw [10] (fun i wr => ∃ k : Nat, k ≤ ss.length ∧ i = .int .i64 k ∧ Below w.heap.size w wr ∧ Hid (findS t (ss.drop k) = findS t ss)) (fun i _ => ss.length - (intOf i).toNat)
  case atStart => exact ⟨0, Nat.zero_le _, rfl, Below.refl _ _, Lib.hid rfl⟩
  case round =>
    obtain ⟨k, hk, rfl, hbr, hfi⟩ := hrel
    by_cases hlt : k < ss.length
    · obtain ⟨b, off, Ak, nk, ck, hA, hbl, hc0, hc1, hc2, hbs⟩ := h.2 k hlt
      subst hA
      have hdr : ss.drop k = ss[k] :: ss.drop (k + 1) := List.drop_eq_getElem_cons hlt
      have hlk := hl (ss[k]) (List.getElem_mem hlt)
      have hf := hfi.out
      rw [hdr, findS] at hf
      generalize ss[k] = s at hc0 hc1 hc2 hbs hf hlk
      obtain ⟨ty, cr, body⟩ := s
      simp only at hc0 hc1 hc2 hbs hf hlk
      have q0 := (hbr.cell (p := ⟨b, off + k * 3, none⟩) hbl).trans hc0
      have q1 := (hbr.cell (p := ⟨b, off + k * 3 + 1, none⟩) hbl).trans hc1
      have q2 := (hbr.cell (p := ⟨b, off + k * 3 + 2, none⟩) hbl).trans hc2
      have hnk : nk ≤ 140737488355328 := by have := hbs.2; omega
      have hba := (Below.refl wr.heap.size wr).alloc (Nat.le_refl _) (.cells #[.int .i64 ty, .bool cr, .slice Ak nk ck] 70)
      have hbD := below_then hbr hbr.size hba
      have hbsD := hbs.below hbD
      clear hdr hc0 hc1 hc2
      by_cases he : ty = t
      · rw [if_pos he] at hf
        have HF := Lib.hid hf
        have hd : (ty == t) = true := by simpa using he
        clear hf he
        go_wp2_with (go_at_call 51; refine (Clone_calls hbsD hnk).mono ?_; rintro e w3 ⟨A3, c3, rfl, ho3, hb3⟩)
        go_ret2
        rw [← HF.out]
        exact ⟨_, _, _, rfl, ho3.lower hbD.size, below_then hbD hbD.size hb3⟩
      · rw [if_neg he] at hf
        have HF := Lib.hid hf
        have hd : (ty == t) = false := by simpa using he
        clear hf he
        go_wp2_with fail
        go_roundw
        case rel => exact ⟨k + 1, by omega, by go_num, hbD, Lib.hid HF.out⟩
        case measure => simp [intOf]; omega
    · have hke : k = ss.length := by omega
      have hf := hfi.out
      rw [hke, List.drop_length, findS] at hf
      have HF := Lib.hid hf
      clear hf
      go_wp2
      go_ret2
      rw [← HF.out]
      exact ⟨_, _, _, rfl, Own.nil_ _ _, hbr⟩

set_option maxRecDepth 100000 in
set_option maxHeartbeats 3200000 in
theorem rFind_calls (t : Int) {A : Option Addr} {n c : Nat} {ss : List SubV} {w : World} (h : Ss w A n ss) (hn : n ≤ 9223372036854775807) :
    Calls Try.prog 50 #[.slice A n c, .int .i64 t] w fun e w' => ∃ A' m' c', e = .returned (.tuple #[.slice A' m' c', .bool (findS t ss).2]) ∧ Bs w' A' m' c' (findS t ss).1 ∧ Below w.heap.size w w' := by
  obtain rfl := h.1
  go_enter Try.func50, Try.ntmps50
  go_wp2_with fail
  go_loopw [6] (fun i wr => ∃ k : Nat, k ≤ ss.length ∧ i = .int .i64 k ∧ Below w.heap.size w wr ∧ Hid (findS t (ss.drop k) = findS t ss)) (fun i _ => ss.length - (intOf i).toNat)
  case atStart => exact ⟨0, Nat.zero_le _, rfl, Below.refl _ _, Lib.hid rfl⟩
  case round =>
    obtain ⟨k, hk, rfl, hbr, hfi⟩ := hrel
    by_cases hlt : k < ss.length
    · obtain ⟨b, off, Ak, nk, ck, hA, hbl, hc0, hc1, hc2, hbs⟩ := h.2 k hlt
      subst hA
      have hdr : ss.drop k = ss[k] :: ss.drop (k + 1) := List.drop_eq_getElem_cons hlt
      have hf := hfi.out
      rw [hdr, findS] at hf
      generalize ss[k] = s at hc0 hc1 hc2 hbs hf
      obtain ⟨ty, cr, body⟩ := s
      simp only at hc0 hc1 hc2 hbs hf
      have q0 := (hbr.cell (p := ⟨b, off + k * 3, none⟩) hbl).trans hc0
      have q2 := (hbr.cell (p := ⟨b, off + k * 3 + 2, none⟩) hbl).trans hc2
      clear hdr hc0 hc1 hc2
      by_cases he : ty = t
      · rw [if_pos he] at hf
        have HF := Lib.hid hf
        have hd : (ty == t) = true := by simpa using he
        clear hf he
        go_wp2
        go_ret2
        rw [← HF.out]
        exact ⟨_, _, _, rfl, hbs.below hbr, hbr⟩
      · rw [if_neg he] at hf
        have HF := Lib.hid hf
        have hd : (ty == t) = false := by simpa using he
        clear hf he
        go_wp2
        go_roundw
        case rel => exact ⟨k + 1, by omega, by go_num, hbr, Lib.hid HF.out⟩
        case measure => simp [intOf]; omega
    · have hke : k = ss.length := by omega
      have hf := hfi.out
      rw [hke, List.drop_length, findS] at hf
      have HF := Lib.hid hf
      clear hf
      go_wp2
      go_ret2
      rw [← HF.out]
      exact ⟨_, _, _, rfl, Bs.nil_ _, hbr⟩

/-- The first byte of the first subpacket of a type, or -1. -/
def firstS (t : Int) (ss : List SubV) : Int := match (findS t ss).1 with | [] => -1 | x :: _ => (x.toNat : Int)

/-- Whether a signature holds for ever. -/
def hardS (ss : List SubV) : Bool := !(firstS 29 ss == 1 || firstS 29 ss == 3 || firstS 29 ss == 32)
end Go.Proofs.Ytjbnoamoadaknaa
end

/- What subpackets tell: Issuer. -/
section
namespace Go.Proofs.Ytjbnoamoadaknaa
open Go.RowKit

/-- The issuer's number that subpackets tell. -/
def issS (ss : List SubV) : List UInt8 × Bool := if (findS 16 ss).2 = true ∧ (findS 16 ss).1.length = 8 then ((findS 16 ss).1, true) else ([0, 0, 0, 0, 0, 0, 0, 0], false)

/-- Stores into a block's cells, one behind the other. -/
def setRow (k : Nat) : World → Nat → List Value → World
  | w, _, [] => w
  | w, i, v :: vs => setRow k (w.setCell ⟨k, i, none⟩ v) (i + 1) vs
def setArr : Array Value → Nat → List Value → Array Value
  | cs, _, [] => cs
  | cs, i, v :: vs => setArr (cs.setIfInBounds i v) (i + 1) vs
theorem setRow_block {k : Nat} {T : TypeId} : ∀ (vs : List Value) {w : World} {cs : Array Value} (i : Nat), w.heap[k]? = some (.cells cs T (0, 0)) → (setRow k w i vs).heap[k]? = some (.cells (setArr cs i vs) T (0, 0))
  | [], _, _, _, h => h
  | v :: vs, _, _, i, h => setRow_block vs (i + 1) (blk_set h i v)
theorem setRow_grown {k : Nat} : ∀ (vs : List Value) (w : World) (i : Nat), w.grownBy (setRow k w i vs) (some k)
  | [], w, _ => World.grownBy.refl w _
  | v :: vs, w, i => grown_trans (grown_setCell w k i v) (setRow_grown vs _ (i + 1))

end Go.Proofs.Ytjbnoamoadaknaa
end
