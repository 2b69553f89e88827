/- Packets in parts. -/
import Derived.Test.YtcakdlfhmdkocaaLw18
import Derived.Test.YtcakdlfhmdkocaaTu
namespace Go.Proofs.Ytcakdlfhmdkocaa
open Go.RowKit

set_option maxRecDepth 100000 in
set_option maxHeartbeats 3200000 in
theorem FrameParts_walk (tag : Int) {A D : Option Addr} {n c m d : Nat} {l : List UInt8} {zs : List Int} {w : World} (h : Bs w A n c l) (hz : Is w D m d zs) (hm : m ≤ 9223372036854775807) :
    Calls Try.prog 9 #[.int .i64 tag, .slice A n c, .slice D m d] w fun e w' => e = .returned (.bool true) ∧ Below w.heap.size w w' := by
  by_cases hq : 3000 < n ∨ 12 < m
  · by_cases h1 : 3000 < n
    · clear hq
      go_enter Try.func9, Try.ntmps9
      go_wp2_with (go_at_call 22; refine (alive18_calls _).mono ?_; rintro e w1 ⟨rfl, hb1⟩)
      go_ret
      exact ⟨rfl, hb1⟩
    · have h2 : 12 < m := by omega
      clear hq
      go_enter Try.func9, Try.ntmps9
      go_wp2_with (go_at_call 22; refine (alive18_calls _).mono ?_; rintro e w1 ⟨rfl, hb1⟩)
      go_ret
      exact ⟨rfl, hb1⟩
  · have hn : n ≤ 3000 := by omega
    have hm12 : m ≤ 12 := by omega
    clear hq hm
    have hem := empty8 w
    have hal := h.alloc (.cells #[] 5)
    go_enter Try.func9, Try.ntmps9
    go_wp2_with (at_builtin; go_must (refine app8 (.tmp 21) (.tmp 22) rfl rfl rfl hem rfl hal (by omega) (by simp) ?_); intro A1 c1 w1 hown1 hg1 hat1)
    have hb1 := below_empty hg1
    rw [List.nil_append, Nat.zero_add] at hown1
    clear hg1 hat1 hem hal
    refine (Parts_calls tag hown1.bs (by omega) (hz.below hb1) (by omega)).mono ?_
    rintro e w2 ⟨A2, m2, c2, r2, rfl, ho2, hr2, hb2⟩
    have Hr2 := Lib.hid hr2
    clear hr2
    have hB2 := below_then hb1 hb1.size hb2
    go_wp2_with fail
    refine (rParts_calls tag (h.below hB2) (by omega) (hz.below hB2) (by omega)).mono ?_
    rintro e w3 ⟨A3, m3, c3, r3, rfl, ho3, hr3, hb3⟩
    obtain rfl : r2 = r3 := Hr2.out.trans hr3.symm
    have Hr3 := Lib.hid hr3
    clear hr3
    have hB3 := below_then hB2 hB2.size hb3
    go_wp2_with fail
    refine (alive18_calls w3).mono ?_
    rintro e w4 ⟨rfl, hb4⟩
    have s1 := ((ho2.below hb3).below hb4).bs.str
    have s2 := (ho3.below hb4).bs.str
    have s3 := (((hown1.below hb2).below hb3).below hb4).bs.str
    have hB4 := below_then hB3 hB3.size hb4
    have s4 := (h.below hB4).str
    clear ho2 ho3 hown1 h hz
    go_wp2
    go_ret
    exact ⟨rfl, hB4⟩
end Go.Proofs.Ytcakdlfhmdkocaa
