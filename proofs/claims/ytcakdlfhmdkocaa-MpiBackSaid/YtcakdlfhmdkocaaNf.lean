/- nat.long, nat.Bytes, nat.Read. -/
import Derived.Test.YtcakdlfhmdkocaaNe
import Derived.Deep.QuietTactic
import Derived.BigRegion
namespace Go.Proofs.Ytcakdlfhmdkocaa
open Go.RowKit

/-- How many bytes a number has; its bytes. -/
def nlen (N : Nat) : Nat := (nbits N + 7) / 8
def bytesN (N : Nat) : List UInt8 := be (nlen N) N

set_option maxRecDepth 100000 in
set_option maxHeartbeats 1600000 in
theorem long_nat_calls {A : Option Addr} {m c : Nat} {xs : List Nat} {w : World} (h : Nr w .u32 A m c xs) (hlo : Lo 4294967296 xs) (hm : m ≤ 1000000) :
    Calls Try.prog 69 #[.slice A m c] w fun e w' => e = .returned (.int .i64 (nlen (num 4294967296 xs) : Nat)) ∧ Below w.heap.size w w' := by
  have hb := nbits_le_of (k := 32 * m) (by have := num_lt (by decide : 0 < 4294967296) hlo; rw [h.2, pow32] at this; exact this)
  have hl := Lib.hid (show (nlen (num 4294967296 xs) : Int) = ((nbits (num 4294967296 xs) : Nat) + 7) / 8 by unfold nlen; omega)
  go_enter Try.func69, Try.ntmps69
  go_wp2_with (go_at_call 30; refine (Bits_calls h hlo hm).mono ?_; rintro e w' ⟨rfl, hb1⟩)
  go_ret
  rw [hl.out]
  exact ⟨by first | rfl | simp, hb1⟩

theorem nlen_le {xs : List Nat} {m : Nat} (hlo : Lo 4294967296 xs) (hm : xs.length = m) : nlen (num 4294967296 xs) ≤ 4 * m := by
  have hb := nbits_le_of (k := 32 * m) (by have := num_lt (by decide : 0 < 4294967296) hlo; rw [hm, pow32] at this; exact this)
  unfold nlen
  omega

set_option maxRecDepth 100000 in
set_option maxHeartbeats 1600000 in
theorem Bytes_calls {A : Option Addr} {m c : Nat} {xs : List Nat} {w : World} (h : Nr w .u32 A m c xs) (hlo : Lo 4294967296 xs) (hm : m ≤ 200000) :
    Calls Try.prog 45 #[.slice A m c] w fun e w' => ∃ A' n' c', e = .returned (.slice A' n' c') ∧ Own w' w.heap.size A' n' c' (bytesN (num 4294967296 xs)) ∧ Below w.heap.size w w' := by
  have hl := nlen_le hlo h.2
  go_enter Try.func45, Try.ntmps45
  go_wp2_with (first
    | (go_at_call 69; refine (long_nat_calls h hlo (by omega)).mono ?_; rintro e w1 ⟨rfl, hb1⟩; go_must (have h1 := h.below hb1))
    | (go_at_call 68; refine (lay_calls h1 hlo (nlen (num 4294967296 xs)) (by omega) _ rfl).mono ?_; rintro e w2 ⟨A2, c2, rfl, ho2, hb2⟩))
  go_ret
  exact ⟨_, _, _, rfl, ho2.lower hb1.size, below_then hb1 hb1.size hb2⟩
end Go.Proofs.Ytcakdlfhmdkocaa
