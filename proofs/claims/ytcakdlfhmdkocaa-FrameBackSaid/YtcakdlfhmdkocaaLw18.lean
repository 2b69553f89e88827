/- The statements of layer 18: heads. -/
import Derived.Test.YtcakdlfhmdkocaaTq
import Derived.Test.YtcakdlfhmdkocaaFt
namespace Go.Proofs.Ytcakdlfhmdkocaa
open Go.RowKit

set_option maxRecDepth 100000 in
set_option maxHeartbeats 1600000 in
theorem alive18_calls (w : World) : Calls Try.prog 22 #[] w fun e w' => e = .returned (.bool true) ∧ Below w.heap.size w w' := by
  have t1 : headS 2 200 = ([194, 192, 8], 0) := by decide
  have t2 : oldS 2 200 = ([136, 200], 0) := by decide
  have t3 : (takeF [1]).2.2.2 = 8 := by decide +kernel
  have t4 : mayPart 11 = true := by decide
  go_enter Try.func22, Try.ntmps22
  go_wp2_with fail
  refine (Head_calls 2 200 w).mono ?_
  rintro e w1 ⟨A1, m1, c1, r1, rfl, ho1, hr1, hb1⟩
  rw [t1] at ho1 hr1
  simp only at ho1 hr1
  subst hr1
  go_wp2_with fail
  refine (Old_calls 2 200 w1).mono ?_
  rintro e w2 ⟨A2, m2, c2, r2, rfl, ho2, hr2, hb2⟩
  rw [t2] at ho2 hr2
  simp only at ho2 hr2
  subst hr2
  go_wp2_with fail
  have hlit := own_lit w2 #[.int .u8 1] [1] rfl 1 rfl (by omega)
  have hB2 := below_then hb1 hb1.size hb2
  have hB3 := hB2.alloc hB2.size (.cells #[.int .u8 1] 5)
  have ho1 := (ho1.below hb2).alloc_ (.cells #[.int .u8 1] 5)
  have ho2 := ho2.alloc_ (.cells #[.int .u8 1] 5)
  generalize w2.alloc (.cells #[.int .u8 1] 5) = w3 at hlit hB3 ho1 ho2 ⊢
  refine (Take_calls hlit.bs (by omega)).mono ?_
  rintro e w4 ⟨A3, n3, c3, A4, n4, c4, tag, r4, rfl, htag, hr4, ho3, ho4, hb4⟩
  rw [t3] at hr4
  subst hr4
  have s1 : (convert 22 9 (.slice A1 m1 c1)).run Try.prog w4 = .ok (.string ⟨#[194, 192, 8]⟩) w4 := (ho1.below hb4).bs.str
  have s2 : (convert 22 9 (.slice A2 m2 c2)).run Try.prog w4 = .ok (.string ⟨#[136, 200]⟩) w4 := (ho2.below hb4).bs.str
  have hB4 := below_then hB3 hB3.size hb4
  clear htag ho3 ho4 ho1 ho2 hlit t1 t2 t3
  go_wp2_with (go_at_call 23; refine (MayPart_calls 11 _).mono ?_; rw [t4]; rintro e w5 ⟨rfl, rfl⟩)
  go_ret
  exact ⟨rfl, hB4⟩

set_option maxRecDepth 100000 in
set_option maxHeartbeats 1600000 in
theorem FrameHead_walk (tag n : Int) (w : World) : Calls Try.prog 5 #[.int .i64 tag, .int .i64 n] w fun e w' => e = .returned (.bool true) ∧ Below w.heap.size w w' := by
  go_enter Try.func5, Try.ntmps5
  go_wp2_with fail
  refine (Head_calls tag n w).mono ?_
  rintro e w1 ⟨A1, m1, c1, r1, rfl, ho1, hr1, hb1⟩
  have Hr1 := Lib.hid hr1
  clear hr1
  go_wp2_with fail
  refine (rHead_calls tag n w1).mono ?_
  rintro e w2 ⟨A2, m2, c2, r2, rfl, ho2, hr2, hb2⟩
  obtain rfl : r1 = r2 := Hr1.out.trans hr2.symm
  have Hr2 := Lib.hid hr2
  clear hr2
  go_wp2_with fail
  refine (Old_calls tag n w2).mono ?_
  rintro e w3 ⟨A3, m3, c3, r3, rfl, ho3, hr3, hb3⟩
  have Hr3 := Lib.hid hr3
  clear hr3
  go_wp2_with fail
  refine (rOld_calls tag n w3).mono ?_
  rintro e w4 ⟨A4, m4, c4, r4, rfl, ho4, hr4, hb4⟩
  obtain rfl : r3 = r4 := Hr3.out.trans hr4.symm
  have Hr4 := Lib.hid hr4
  clear hr4
  go_wp2_with fail
  refine (alive18_calls w4).mono ?_
  rintro e w5 ⟨rfl, hb5⟩
  have s1 := ((((ho1.below hb2).below hb3).below hb4).below hb5).bs.str
  have s2 := (((ho2.below hb3).below hb4).below hb5).bs.str
  have s3 := ((ho3.below hb4).below hb5).bs.str
  have s4 := (ho4.below hb5).bs.str
  have hB := below_then hb1 hb1.size hb2
  have hB := below_then hB hB.size hb3
  have hB := below_then hB hB.size hb4
  have hB := below_then hB hB.size hb5
  clear ho1 ho2 ho3 ho4
  go_wp2_with (first
    | (go_at_call 23; refine (MayPart_calls tag _).mono ?_; rintro e w6 ⟨rfl, rfl⟩)
    | (go_at_call 24; refine (rMayPart_calls tag _).mono ?_; rintro e w6 ⟨rfl, rfl⟩))
  all_goals
    go_ret
    exact ⟨by simp, hB⟩

set_option maxRecDepth 100000 in
set_option maxHeartbeats 1600000 in
/-- 'takes', where it answers true. -/
theorem takes_calls {A D E : Option Addr} {n c m d k e : Nat} {l body behind : List UInt8} {w : World} (h : Bs w A n c l) (hn : n ≤ 4294967296) (h1 : Bs w D m d body) (h2 : Bs w E k e behind) (tag : Int)
    (ht : takeF l = (tag, body, behind, 0)) :
    Calls Try.prog 25 #[.slice A n c, .int .i64 tag, .slice D m d, .slice E k e] w fun e w' => e = .returned (.bool true) ∧ Below w.heap.size w w' := by
  have HT := Lib.hid ht
  clear ht
  go_enter Try.func25, Try.ntmps25
  go_wp2_with fail
  refine (Take_calls h hn).mono ?_
  rintro e w1 ⟨A1, m1, c1, A2, m2, c2, t1, r1, rfl, ht1, hr1, ho1, ho2, hb1⟩
  rw [HT.out] at ht1 hr1 ho1 ho2
  simp only at ht1 hr1 ho1 ho2
  subst ht1
  subst hr1
  have s1 := ho1.bs.str
  have s2 := ho2.bs.str
  have s3 := (h1.below hb1).str
  have s4 := (h2.below hb1).str
  clear ho1 ho2 h1 h2 h
  go_wp2
  go_ret
  exact ⟨rfl, hb1⟩
end Go.Proofs.Ytcakdlfhmdkocaa
