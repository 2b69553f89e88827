/- The statements of layer 19: PacketJoin, PacketBack. -/
import Derived.Test.YtcakdlfhmdkocaaLw19
import Derived.Test.YtcakdlfhmdkocaaPb
namespace Go.Proofs.Ytcakdlfhmdkocaa
open Go.RowKit

set_option maxRecDepth 100000 in
set_option maxHeartbeats 3200000 in
theorem PacketJoin_walk {A : Option Addr} {n c : Nat} {ps : List (Int × List UInt8)} {w : World} (h : Ps w A n ps) (hn : n ≤ 9223372036854775807) :
    Calls Try.prog 11 #[.slice A n c] w fun e w' => e = .returned (.bool true) ∧ Below w.heap.size w w' := by
  go_enter Try.func11, Try.ntmps11
  go_wp2_with fail
  refine (small_calls h hn).mono ?_
  rintro e w1 ⟨⟨r, rfl, hs⟩, rfl⟩
  have HS := Lib.hid hs
  clear hs
  cases r with
  | false =>
    go_wp2_with (go_at_call 36; refine (alive19_calls _).mono ?_; rintro e w1 ⟨rfl, hb1⟩)
    go_ret
    exact ⟨rfl, hb1⟩
  | true =>
    obtain ⟨h110, h2000⟩ := HS.out rfl
    have H2 := Lib.hid h2000
    clear h2000
    go_wp2_with fail
    refine (Join_calls h hn (fun p hp => by have := H2.out p hp; omega)).mono ?_
    rintro e w1 ⟨A1, m1, c1, r1, rfl, ho1, hr1, hb1⟩
    have Hr1 := Lib.hid hr1
    clear hr1
    go_wp2_with fail
    refine (rJoin_calls (h.below hb1) hn (fun p hp => by have := H2.out p hp; omega)).mono ?_
    rintro e w2 ⟨A2, m2, c2, r2, rfl, ho2, hr2, hb2⟩
    obtain rfl : r1 = r2 := Hr1.out.trans hr2.symm
    clear hr2
    have hB2 := below_then hb1 hb1.size hb2
    go_wp2_with fail
    refine (Clean_calls (h.below hB2) hn (fun p hp => by have := H2.out p hp; omega)).mono ?_
    rintro e w3 ⟨A3, m3, c3, r3, rfl, ho3, hr3, hb3⟩
    have Hr3 := Lib.hid hr3
    clear hr3
    have hB3 := below_then hB2 hB2.size hb3
    go_wp2_with fail
    refine (rClean_calls (h.below hB3) hn).mono ?_
    rintro e w4 ⟨A4, m4, c4, r4, rfl, ho4, hr4, hb4⟩
    obtain rfl : r3 = r4 := Hr3.out.trans hr4.symm
    clear hr4
    have hB4 := below_then hB3 hB3.size hb4
    go_wp2_with fail
    refine (alive19_calls _).mono ?_
    rintro e w5 ⟨rfl, hb5⟩
    have hB5 := below_then hB4 hB4.size hb5
    have s1 := ((((ho1.below hb2).below hb3).below hb4).below hb5).bs.str
    have s2 := (((ho2.below hb3).below hb4).below hb5).bs.str
    have p3 := ((ho3.below hb4).below hb5).ps
    have p4 := (ho4.below hb5).ps
    have hm3 : m3 ≤ 9223372036854775807 := by
      have := ho3.blk
      have hc := cleanF_len ps
      have := ho3.len
      have := h.1
      omega
    clear ho1 ho2 ho3 ho4
    go_wp2_with (go_at_call 41; refine (Same_calls p3 p4 hm3).mono ?_; rintro e w6 ⟨rfl, hb6⟩)
    all_goals
      go_ret
      exact ⟨by simp, below_then hB5 hB5.size hb6⟩

set_option maxRecDepth 100000 in
set_option maxHeartbeats 3200000 in
theorem PacketBack_walk {A : Option Addr} {n c : Nat} {ps : List (Int × List UInt8)} {w : World} (h : Ps w A n ps) (hn : n ≤ 9223372036854775807) :
    Calls Try.prog 12 #[.slice A n c] w fun e w' => e = .returned (.bool true) ∧ Below w.heap.size w w' := by
  go_enter Try.func12, Try.ntmps12
  go_wp2_with fail
  refine (small_calls h hn).mono ?_
  rintro e w1 ⟨⟨r, rfl, hs⟩, rfl⟩
  have HS := Lib.hid hs
  clear hs
  cases r with
  | false =>
    go_wp2_with (go_at_call 36; refine (alive19_calls _).mono ?_; rintro e w1 ⟨rfl, hb1⟩)
    go_ret
    exact ⟨rfl, hb1⟩
  | true =>
    obtain ⟨h110, h2000⟩ := HS.out rfl
    have H2 := Lib.hid h2000
    clear h2000
    go_wp2_with fail
    refine (Join_calls h hn (fun p hp => by have := H2.out p hp; omega)).mono ?_
    rintro e w1 ⟨A1, m1, c1, r1, rfl, ho1, hr1, hb1⟩
    by_cases h0 : r1 = 0
    · subst h0
      have HJ := Lib.hid (split_join hr1.symm)
      clear hr1
      go_wp2_with fail
      refine (Split_calls ho1.bs).mono ?_
      rintro e w2 ⟨A2, m2, c2, r2, rfl, ho2, hr2, hb2⟩
      rw [HJ.out] at ho2 hr2
      simp only at ho2 hr2
      subst hr2
      have hB2 := below_then hb1 hb1.size hb2
      clear ho1
      go_wp2_with fail
      refine (alive19_calls _).mono ?_
      rintro e w3 ⟨rfl, hb3⟩
      have hB3 := below_then hB2 hB2.size hb3
      have p2 := (ho2.below hb3).ps
      have p1 := h.below hB3
      clear ho2
      go_wp2_with (go_at_call 41; refine (Same_calls p1 p2 hn).mono ?_; rintro e w6 ⟨rfl, hb6⟩)
      go_ret
      exact ⟨by simp, below_then hB3 hB3.size hb6⟩
    · have e0 := joinF_no (ps := ps) (fun e => h0 (hr1.trans e))
      have hm0 := ho1.2
      rw [e0] at hm0
      obtain rfl : 0 = m1 := by simpa using hm0
      have hne : (r1 != 0) = true := by rw [bne_iff_ne]; exact h0
      clear hr1 e0 hm0 ho1
      go_wp2_with (go_at_call 36; refine (alive19_calls _).mono ?_; rintro e w2 ⟨rfl, hb2⟩)
      go_ret
      exact ⟨by simp, below_then hb1 hb1.size hb2⟩
end Go.Proofs.Ytcakdlfhmdkocaa
