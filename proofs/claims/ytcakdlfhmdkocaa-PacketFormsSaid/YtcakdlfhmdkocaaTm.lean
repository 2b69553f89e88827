/- The taker of packets: lengths, new and old packets. -/
import Derived.Test.YtcakdlfhmdkocaaTl
namespace Go.Proofs.Ytcakdlfhmdkocaa
open Go.RowKit

/-- A new length: the number, whether it is a part, the taker behind it. -/
def longT (l : List UInt8) (s : St) : Int × Bool × St :=
  if (numT l s 1).1 < 192 then ((numT l s 1).1, false, (numT l s 1).2)
  else if (numT l s 1).1 < 224 then (((numT l s 1).1 - 192) * 256 + (numT l (numT l s 1).2 1).1 + 192, false, (numT l (numT l s 1).2 1).2)
  else if (numT l s 1).1 < 255 then (2 ^ ((numT l s 1).1 - 224).toNat, true, (numT l s 1).2)
  else ((numT l (numT l s 1).2 4).1, false, (numT l (numT l s 1).2 4).2)

theorem pow_le30 {k : Nat} (h : k ≤ 30) : (2 : Int) ^ k ≤ 1073741824 ∧ 1 ≤ (2 : Int) ^ k := by
  have h1 : 2 ^ k ≤ 2 ^ 30 := Nat.pow_le_pow_right (by omega) h
  have h2 : 0 < 2 ^ k := Nat.pow_pos (by omega)
  have e : (2 : Int) ^ k = ((2 ^ k : Nat) : Int) := by simp
  rw [e]
  generalize 2 ^ k = q at *
  omega
theorem wrap_pow {k : Nat} (h : k ≤ 30) : wrap64 ((2 : Int) ^ k) = (2 : Int) ^ k := by
  have := pow_le30 h
  generalize (2 : Int) ^ k = q at *
  unfold wrap64
  omega

set_option maxRecDepth 100000 in
set_option maxHeartbeats 800000 in
theorem long_calls {w : World} {B t g : Nat} {l : List UInt8} {s : St} (h : Tk w B t g l s) :
    Calls Try.prog 77 #[.pointer (some ⟨t, 0, none⟩)] w fun e w' => e = .returned (.tuple #[.int .i64 (longT l s).1, .bool (longT l s).2.1]) ∧ Tk w' B t g l (longT l s).2.2 ∧ Below B w w' := by
  obtain ⟨a0, a1⟩ := numT_lt l s 1 (by omega)
  obtain ⟨b0, b1⟩ := numT_lt l (numT l s 1).2 1 (by omega)
  obtain ⟨c0, c1⟩ := numT_lt l (numT l s 1).2 4 (by omega)
  have hn := number_calls h 1 (by omega)
  have hT := fun (w1 : World) (h1 : Tk w1 B t g l (numT l s 1).2) => number_calls h1 1 (by omega)
  have hU := fun (w1 : World) (h1 : Tk w1 B t g l (numT l s 1).2) => number_calls h1 4 (by omega)
  have hL : longT l s = if (numT l s 1).1 < 192 then ((numT l s 1).1, false, (numT l s 1).2)
    else if (numT l s 1).1 < 224 then (((numT l s 1).1 - 192) * 256 + (numT l (numT l s 1).2 1).1 + 192, false, (numT l (numT l s 1).2 1).2)
    else if (numT l s 1).1 < 255 then (2 ^ ((numT l s 1).1 - 224).toNat, true, (numT l s 1).2)
    else ((numT l (numT l s 1).2 4).1, false, (numT l (numT l s 1).2 4).2) := rfl
  generalize hx : numT l s 1 = x at *
  generalize hy : numT l x.2 1 = y at *
  generalize hz : numT l x.2 4 = z at *
  clear hx hy hz
  have HN := Lib.hid hn
  have HT := Lib.hid hT
  have HU := Lib.hid hU
  clear hn hT hU
  by_cases h1 : x.1 < 192
  · rw [if_pos h1] at hL
    have HL := Lib.hid hL
    clear hL
    go_enter Try.func77, Try.ntmps77
    go_wp2_with (go_at_call 61; refine HN.out.mono ?_; rintro e w1 ⟨rfl, hT1, hb1⟩)
    go_ret2
    rw [HL.out]
    exact ⟨rfl, hT1, hb1⟩
  · rw [if_neg h1] at hL
    by_cases h2 : x.1 < 224
    · rw [if_pos h2] at hL
      have HL := Lib.hid hL
      clear hL
      go_enter Try.func77, Try.ntmps77
      go_wp2_with fail
      refine HN.out.mono ?_
      rintro e w1 ⟨rfl, hT1, hb1⟩
      go_wp2_with (go_at_call 61; refine (HT.out _ hT1).mono ?_; rintro e w2 ⟨rfl, hT2, hb2⟩)
      go_ret2
      rw [HL.out]
      exact ⟨rfl, hT2, hb1.trans hb2⟩
    · rw [if_neg h2] at hL
      by_cases h3 : x.1 < 255
      · rw [if_pos h3] at hL
        have HL := Lib.hid hL
        clear hL
        have hw := Lib.hid (wrap_pow (k := (x.1 - 224).toNat) (by omega))
        go_enter Try.func77, Try.ntmps77
        go_wp2_with (go_at_call 61; refine HN.out.mono ?_; rintro e w1 ⟨rfl, hT1, hb1⟩)
        go_ret2
        rw [HL.out]
        refine ⟨?_, hT1, hb1⟩
        show Ending.returned (.tuple #[.int .i64 (wrap64 (2 ^ (x.1 - 224).toNat)), .bool true]) = _
        rw [hw.out]
      · rw [if_neg h3] at hL
        have HL := Lib.hid hL
        clear hL
        go_enter Try.func77, Try.ntmps77
        go_wp2_with fail
        refine HN.out.mono ?_
        rintro e w1 ⟨rfl, hT1, hb1⟩
        go_wp2_with (go_at_call 61; refine (HU.out _ hT1).mono ?_; rintro e w2 ⟨rfl, hT2, hb2⟩)
        go_ret2
        rw [HL.out]
        exact ⟨rfl, hT2, hb1.trans hb2⟩
end Go.Proofs.Ytcakdlfhmdkocaa
