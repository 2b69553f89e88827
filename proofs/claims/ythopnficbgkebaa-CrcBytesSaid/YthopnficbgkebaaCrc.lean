/- The check sum's functions: what each call does. -/
import Derived.Test.YthopnficbgkebaaCur
import Derived.Test.YthopnficbgkebaaCrcS
import Derived.Laws.BitsAllLaws
namespace Go.Proofs.Ythopnficbgkebaa
open Go.RowKit

theorem and_top {d : Nat} (h : d < 33554432) : bits .and .u32 (d : Int) 16777216 = if 16777216 ≤ d then 16777216 else 0 := by
  have h1 := u32_and_nat d 16777216 (by omega) (by omega)
  have e : d &&& 16777216 = if 16777216 ≤ d then 16777216 else 0 := by
    have h2 := Nat.and_div_two_pow (a := d) (b := 16777216) (n := 24)
    have h3 := Nat.and_mod_two_pow (a := d) (b := 16777216) (n := 24)
    have e1 : (16777216 : Nat) % 2 ^ 24 = 0 := by rfl
    have e2 : (16777216 : Nat) / 2 ^ 24 = 1 := by rfl
    rw [e1, Nat.and_zero] at h3
    rw [e2] at h2
    split
    · have e3 : d / 2 ^ 24 = 1 := by omega
      rw [e3] at h2
      have e4 : (1 : Nat) &&& 1 = 1 := rfl
      omega
    · have e3 : d / 2 ^ 24 = 0 := by omega
      rw [e3] at h2
      have e4 : (0 : Nat) &&& 1 = 0 := rfl
      omega
  rw [e] at h1
  rw [show ((16777216 : Nat) : Int) = 16777216 from rfl] at h1
  rw [h1]
  split <;> rfl
theorem and_low {d : Nat} (h : d < 4294967296) : bits .and .u32 (d : Int) 16777215 = ((d % 16777216 : Nat) : Int) := by
  have h1 := u32_and_nat d 16777215 h (by omega)
  have e : d &&& 16777215 = d % 16777216 := Nat.and_two_pow_sub_one_eq_mod d 24
  rw [e] at h1
  exact h1

theorem xor_start {c : Nat} (hc : c < 16777216) (b : UInt8) : bits BinOp.xor IntKind.u32 (c : Int) ((b.toNat : Int) * 65536) = ((c ^^^ (b.toNat * 65536) : Nat) : Int) := by
  have hb := b.toNat_lt
  have := u32_xor_nat c (b.toNat * 65536) (by omega) (by omega)
  rw [← this]
  congr 1
theorem xor_turn {q : Nat} (hq : q < 16777216) : bits BinOp.xor IntKind.u32 ((q : Int) * 2 % 4294967296) 25578747 = (((2 * q) ^^^ 25578747 : Nat) : Int) := by
  have := u32_xor_nat (2 * q) 25578747 (by omega) (by omega)
  rw [← this]
  congr 1
  omega
theorem and_yes {q : Nat} (hq : q < 16777216) (h : 16777216 ≤ 2 * q) : bits BinOp.and IntKind.u32 ((q : Int) * 2 % 4294967296) 16777216 = 16777216 := by
  have := and_top (d := 2 * q) (by omega)
  rw [if_pos h] at this
  rw [← this]
  congr 1
  omega
theorem and_no {q : Nat} (hq : q < 16777216) (h : ¬ 16777216 ≤ 2 * q) : bits BinOp.and IntKind.u32 ((q : Int) * 2 % 4294967296) 16777216 = 0 := by
  have := and_top (d := 2 * q) (by omega)
  rw [if_neg h] at this
  rw [← this]
  congr 1
  omega
theorem int_u32 {a b : Int} (h : a = b) : Value.int .u32 a = .int .u32 b := by rw [h]

set_option maxHeartbeats 400000 in
theorem step_calls (c : Nat) (hc : c < 16777216) (b : UInt8) (w : World) :
    Calls Try.prog 34 #[.int .u32 (c : Int), .int .u8 (b.toNat : Int)] w fun e w' => e = .returned (.int .u32 (stepS c b : Nat)) ∧ w = w' := by
  have hb := b.toNat_lt
  have hs : c ^^^ (b.toNat * 65536) < 16777216 := xor_lt24 hc (by omega)
  have hx := Lib.hid (xor_start hc b)
  have hst := stepS_def c b
  generalize c ^^^ (b.toNat * 65536) = s at hs hx hst
  have Hst := Lib.hid hst
  clear hst
  go_enter Try.func34, Try.ntmps34
  go_wp2_with fail
  go_loop [0, 10] (fun v i => ∃ k : Nat, k ≤ 8 ∧ i = .int .i64 k ∧ v = .int .u32 ((turnK k s : Nat) : Int)) (fun _ i => 8 - (intOf i).toNat)
  case atStart => exact ⟨0, by omega, rfl, by rw [turnK_zero]; exact int_u32 hx.out⟩
  case round =>
    obtain ⟨k, hk, rfl, rfl⟩ := hrel
    by_cases hlt : k < 8
    · have hq := turnK_lt hs k
      have Ht := Lib.hid (turnK_succ k s)
      generalize turnK k s = q at hq Ht
      by_cases hbig : 16777216 ≤ 2 * q
      · have ha : (bits BinOp.and IntKind.u32 ((q : Int) * 2 % 4294967296) 16777216 != 0) = true := by rw [and_yes hq hbig]; decide
        have Hb := Lib.hid hbig
        have Hq := Lib.hid hq
        clear hbig hq
        go_wp2
        go_round
        case rel => exact ⟨k + 1, by omega, by go_num, by rw [Ht.out, turn1_yes Hb.out]; exact int_u32 (xor_turn Hq.out)⟩
        case measure => simp [intOf]; omega
      · have ha : (bits BinOp.and IntKind.u32 ((q : Int) * 2 % 4294967296) 16777216 != 0) = false := by rw [and_no hq hbig]; decide
        have Hb := Lib.hid hbig
        have Hq := Lib.hid hq
        clear hbig hq
        go_wp2
        go_round
        case rel => exact ⟨k + 1, by omega, by go_num, by rw [Ht.out, turn1_no Hb.out]; exact int_u32 (by have := Hq.out; omega)⟩
        case measure => simp [intOf]; omega
    · obtain rfl : k = 8 := by omega
      go_wp2
      go_ret
      rw [Hst.out]
      exact ⟨rfl, rfl⟩

set_option maxHeartbeats 400000 in
theorem More_calls (x : Nat) (hx : x < 4294967296) {A : Option Addr} {n c : Nat} {l : List UInt8} {w : World} (h : Bs w A n c l) :
    Calls Try.prog 18 #[.int .u32 (x : Int), .slice A n c] w fun e w' => e = .returned (.int .u32 (moreS x l : Nat)) ∧ w = w' := by
  have h1 := h.cap
  unfold maxLen at h1
  obtain rfl := h.len
  have hand := and_low hx
  have h0 := Lib.hid (moreS_zero x)
  go_enter Try.func18, Try.ntmps18
  go_wp2
  go_loop [0, 11] (fun v i => ∃ k : Nat, k ≤ l.length ∧ i = .int .i64 k ∧ v = .int .u32 ((moreS x (l.take k) : Nat) : Int)) (fun _ i => l.length - (intOf i).toNat)
  case atStart => exact ⟨0, Nat.zero_le _, rfl, by rw [List.take_zero, ← h0.out]; exact int_u32 (by omega)⟩
  case round =>
    obtain ⟨k, hk, rfl, rfl⟩ := hrel
    by_cases hlt : k < l.length
    · obtain ⟨b, off, rfl, hb, hc⟩ := h.byte hlt
      have HS := Lib.hid (moreS_snoc (c := x) hlt)
      have hq := moreS_lt x (l.take k)
      generalize moreS x (l.take k) = q at HS hq ⊢
      go_wp2_with (go_at_call 34; refine (step_calls q hq _ _).mono ?_; rintro e w' ⟨rfl, rfl⟩)
      go_round
      case rel => exact ⟨k + 1, by omega, by go_num, by rw [HS.out]⟩
      case measure => simp [intOf]; omega
    · go_wp2
      go_ret
      exact ⟨ret_int (by rw [List.take_of_length_le (by omega)]), rfl⟩

set_option maxHeartbeats 400000 in
theorem Sum_calls {A : Option Addr} {n c : Nat} {l : List UInt8} {w : World} (h : Bs w A n c l) :
    Calls Try.prog 16 #[.slice A n c] w fun e w' => e = .returned (.int .u32 (moreS 11994318 l : Nat)) ∧ w = w' := by
  go_enter Try.func16, Try.ntmps16
  go_wp2_with (go_at_call 18; refine (More_calls 11994318 (by omega) h).mono ?_; rintro e w' ⟨rfl, rfl⟩)
  go_ret
  exact ⟨rfl, rfl⟩
end Go.Proofs.Ythopnficbgkebaa
