/- The statements of layer 1: what the calls do. -/
import Derived.Test.YthopnficbgkebaaPut
namespace Go.Proofs.Ythopnficbgkebaa
open Go.RowKit

set_option maxHeartbeats 400000 in
theorem alive1_calls (w : World) : Calls Try.prog 12 #[] w fun e w' => e = .returned (.bool true) ∧ Below w.heap.size w w' := by
  go_enter Try.func12, Try.ntmps12
  go_wp2_with fail
  refine (Put_any (Bs.nil_ w) (by omega) 258 (by omega) 3).mono ?_
  rintro e w1 ⟨A1, m1, c1, r1, rfl, ho1, hr1, hb1⟩
  rw [show putS [] 258 3 = ([0, 1, 2], 0) by decide] at ho1 hr1
  simp only at ho1 hr1
  subst hr1
  go_wp2_with fail
  refine (Put_any (Bs.nil_ w1) (by omega) 256 (by omega) 1).mono ?_
  rintro e w2 ⟨A2, m2, c2, r2, rfl, ho2, hr2, hb2⟩
  rw [show putS [] 256 1 = ([], 1) by decide] at ho2 hr2
  simp only at ho2 hr2
  subst hr2
  have hs : (convert 22 9 (.slice A1 m1 c1)).run Try.prog w2 = .ok (.string ⟨#[0, 1, 2]⟩) w2 := (ho1.bs.below hb2).str
  go_wp2
  go_ret
  exact ⟨rfl, below_then hb1 hb1.size hb2⟩

theorem run_make8_0 (c : Nat) (hc : c ≤ 140737488355328) (x : Int) (hx : x = c) (W : World) :
    (Instr.makeSlice 22 (.int .i64 0) (.int .i64 x)).run Try.prog W = .ok (.slice (some ⟨W.heap.size, 0, none⟩) 0 c) (W.alloc (.cells (zcells c) 5)) :=
  run_make8 0 c (Nat.zero_le _) hc x hx W

set_option maxHeartbeats 800000 in
theorem CursorPut_walk {A : Option Addr} {n c : Nat} {l : List UInt8} {w : World} (h : Bs w A n c l) (x : Nat) (hx : x < 18446744073709551616) (wd : Int) :
    Calls Try.prog 3 #[.slice A n c, .int .u64 (x : Int), .int .i64 wd] w fun e w' => e = .returned (.bool true) ∧ Below w.heap.size w w' := by
  by_cases hn : 300 < n
  · go_enter Try.func3, Try.ntmps3
    go_wp2_with (go_at_call 12; refine (alive1_calls _).mono ?_; rintro e w1 ⟨rfl, hb1⟩)
    go_ret
    exact ⟨rfl, hb1⟩
  · have hmk := fun W => run_make8_0 (n + 9) (by omega) ((n : Int) + 9) (by omega) W
    have hmade := Own.made w w.heap.size 0 (n + 9) (Nat.le_refl _) (by omega) (by omega)
    go_enter Try.func3, Try.ntmps3
    go_wp2_with (at_builtin; refine app8 (.tmp 20) (.tmp 21) rfl rfl rfl hmade rfl (h.alloc _) (by omega) (by simp) ?_; intro A1 c1 w1 hown1 hg1 hat1)
    simp only [Nat.zero_add, List.replicate, List.nil_append] at hown1
    have hb1 : Below w.heap.size w w1 := ((Below.refl _ _).alloc (Nat.le_refl _) _).grown hg1 (by simp) (fun k hk => by cases hk; exact Nat.le_refl _)
    clear hmk hmade hg1 hat1
    refine (Put_any hown1.bs (by omega) x hx wd).mono ?_
    rintro e w2 ⟨A2, m2, c2, r2, rfl, ho2, hr2, hb2⟩
    have Hr2 := Lib.hid hr2
    clear hr2
    go_wp2_with fail
    have h2 := (h.below hb1).below hb2
    refine (rPut_any h2 (by omega) x hx wd).mono ?_
    rintro e w3 ⟨A3, m3, c3, r3, rfl, ho3, hr3, hb3⟩
    have Hr3 := Lib.hid hr3
    clear hr3
    go_wp2_with fail
    refine (alive1_calls w3).mono ?_
    rintro e w4 ⟨rfl, hb4⟩
    have s1 := (((hown1.below hb2).below hb3).below hb4).bs.str
    have s2 := ((h2.below hb3).below hb4).str
    have s3 := ((ho2.below hb3).below hb4).bs.str
    have s4 := (ho3.below hb4).bs.str
    obtain rfl : r2 = r3 := Hr2.out.trans Hr3.out.symm
    go_wp2
    go_ret
    exact ⟨rfl, below_then (below_then (below_then hb1 hb1.size hb2) (Nat.le_trans hb1.size hb2.size) hb3) (Nat.le_trans (Nat.le_trans hb1.size hb2.size) hb3.size) hb4⟩
end Go.Proofs.Ythopnficbgkebaa
