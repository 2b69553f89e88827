/- Which hashes, algorithms and formats may be: what each small function of the literal's layer returns. -/
import Derived.Test.YtegbncngencfnaaBy
namespace Go.Proofs.Ytegbncngencfnaa
open Go.RowKit

/-- How long a hash is; zero: there is none. -/
def hashS (a : Int) : Int := if a = 2 then 20 else if a = 11 then 28 else if a = 8 then 32 else if a = 9 then 48 else if a = 10 then 64 else 0
def weakS (a : Int) : Bool := decide (a = 2) || decide (hashS a = 0)
def saltS (a : Int) : Int := if a = 11 then 16 else if a = 8 then 16 else if a = 9 then 24 else if a = 10 then 32 else 0
def mayS (a v : Int) : Bool := decide (0 < hashS a) && !(decide (v = 6) && weakS a)
def pubS (a : Int) : Bool := decide (a = 1) || decide (a = 27)
def fmtS (c : UInt8) : Bool := decide (c = 98) || decide (c = 116) || decide (c = 117)
theorem hashS_range (a : Int) : 0 ≤ hashS a ∧ hashS a ≤ 64 := by
  unfold hashS
  repeat' split
  all_goals omega
theorem saltS_range (a : Int) : 0 ≤ saltS a ∧ saltS a ≤ 32 := by
  unfold saltS
  repeat' split
  all_goals omega

set_option maxRecDepth 100000 in
theorem hashSize_calls (a : Int) (w : World) : Calls Try.prog 81 #[.int .i64 a] w fun e w' => e = .returned (.int .i64 (hashS a)) ∧ w = w' := by
  go_enter Try.func81, Try.ntmps81
  by_cases h1 : a = 2
  · subst h1; go_wp2; go_ret; exact ⟨rfl, rfl⟩
  by_cases h2 : a = 11
  · subst h2; go_wp2; go_ret; exact ⟨rfl, rfl⟩
  by_cases h3 : a = 8
  · subst h3; go_wp2; go_ret; exact ⟨rfl, rfl⟩
  by_cases h4 : a = 9
  · subst h4; go_wp2; go_ret; exact ⟨rfl, rfl⟩
  by_cases h5 : a = 10
  · subst h5; go_wp2; go_ret; exact ⟨rfl, rfl⟩
  · have HS := Lib.hid (show hashS a = 0 by rw [hashS, if_neg h1, if_neg h2, if_neg h3, if_neg h4, if_neg h5])
    go_wp2; go_ret; exact ⟨by rw [HS.out] <;> rfl, rfl⟩
set_option maxRecDepth 100000 in
theorem rhashSize_calls (a : Int) (w : World) : Calls Try.prog 83 #[.int .i64 a] w fun e w' => e = .returned (.int .i64 (hashS a)) ∧ w = w' := by
  go_enter Try.func83, Try.ntmps83
  by_cases h1 : a = 2
  · subst h1; go_wp2; go_ret; exact ⟨rfl, rfl⟩
  by_cases h2 : a = 11
  · subst h2; go_wp2; go_ret; exact ⟨rfl, rfl⟩
  by_cases h3 : a = 8
  · subst h3; go_wp2; go_ret; exact ⟨rfl, rfl⟩
  by_cases h4 : a = 9
  · subst h4; go_wp2; go_ret; exact ⟨rfl, rfl⟩
  by_cases h5 : a = 10
  · subst h5; go_wp2; go_ret; exact ⟨rfl, rfl⟩
  · have HS := Lib.hid (show hashS a = 0 by rw [hashS, if_neg h1, if_neg h2, if_neg h3, if_neg h4, if_neg h5])
    go_wp2; go_ret; exact ⟨by rw [HS.out] <;> rfl, rfl⟩
set_option maxRecDepth 100000 in
theorem SaltSize_calls (a : Int) (w : World) : Calls Try.prog 66 #[.int .i64 a] w fun e w' => e = .returned (.int .i64 (saltS a)) ∧ w = w' := by
  go_enter Try.func66, Try.ntmps66
  by_cases h2 : a = 11
  · subst h2; go_wp2; go_ret; exact ⟨rfl, rfl⟩
  by_cases h3 : a = 8
  · subst h3; go_wp2; go_ret; exact ⟨rfl, rfl⟩
  by_cases h4 : a = 9
  · subst h4; go_wp2; go_ret; exact ⟨rfl, rfl⟩
  by_cases h5 : a = 10
  · subst h5; go_wp2; go_ret; exact ⟨rfl, rfl⟩
  · have HS := Lib.hid (show saltS a = 0 by rw [saltS, if_neg h2, if_neg h3, if_neg h4, if_neg h5])
    go_wp2; go_ret; exact ⟨by rw [HS.out] <;> rfl, rfl⟩
set_option maxRecDepth 100000 in
theorem rSaltSize_calls (a : Int) (w : World) : Calls Try.prog 69 #[.int .i64 a] w fun e w' => e = .returned (.int .i64 (saltS a)) ∧ w = w' := by
  go_enter Try.func69, Try.ntmps69
  by_cases h2 : a = 11
  · subst h2; go_wp2; go_ret; exact ⟨rfl, rfl⟩
  by_cases h3 : a = 8
  · subst h3; go_wp2; go_ret; exact ⟨rfl, rfl⟩
  by_cases h4 : a = 9
  · subst h4; go_wp2; go_ret; exact ⟨rfl, rfl⟩
  by_cases h5 : a = 10
  · subst h5; go_wp2; go_ret; exact ⟨rfl, rfl⟩
  · have HS := Lib.hid (show saltS a = 0 by rw [saltS, if_neg h2, if_neg h3, if_neg h4, if_neg h5])
    go_wp2; go_ret; exact ⟨by rw [HS.out] <;> rfl, rfl⟩

set_option maxRecDepth 100000 in
theorem Weak_calls (a : Int) (w : World) : Calls Try.prog 82 #[.int .i64 a] w fun e w' => e = .returned (.bool (weakS a)) ∧ w = w' := by
  have HC := Lib.hid (hashSize_calls a w)
  have HW := Lib.hid (show weakS a = (decide (a = 2) || decide (hashS a = 0)) from rfl)
  generalize hashS a = s at HC HW
  go_enter Try.func82, Try.ntmps82
  by_cases h1 : a = 2
  · subst h1; go_wp2; go_ret; exact ⟨rfl, rfl⟩
  by_cases h2 : s = 0
  · subst h2
    go_wp2_with (go_at_call 81; refine HC.out.mono ?_; rintro e w1 ⟨rfl, rfl⟩); go_ret; exact ⟨by rw [HW.out]; simp, rfl⟩
  · go_wp2_with (go_at_call 81; refine HC.out.mono ?_; rintro e w1 ⟨rfl, rfl⟩); go_ret; exact ⟨by rw [HW.out]; simp [h1, h2], rfl⟩
set_option maxRecDepth 100000 in
theorem rWeak_calls (a : Int) (w : World) : Calls Try.prog 84 #[.int .i64 a] w fun e w' => e = .returned (.bool (weakS a)) ∧ w = w' := by
  have HC := Lib.hid (rhashSize_calls a w)
  have HW := Lib.hid (show weakS a = (decide (a = 2) || decide (hashS a = 0)) from rfl)
  generalize hashS a = s at HC HW
  go_enter Try.func84, Try.ntmps84
  by_cases h1 : a = 2
  · subst h1; go_wp2; go_ret; exact ⟨rfl, rfl⟩
  by_cases h2 : s = 0
  · subst h2
    go_wp2_with (go_at_call 83; refine HC.out.mono ?_; rintro e w1 ⟨rfl, rfl⟩); go_ret; exact ⟨by rw [HW.out]; simp, rfl⟩
  · go_wp2_with (go_at_call 83; refine HC.out.mono ?_; rintro e w1 ⟨rfl, rfl⟩); go_ret; exact ⟨by rw [HW.out]; simp [h1, h2], rfl⟩

set_option maxRecDepth 100000 in
theorem isHash_calls (a v : Int) (w : World) : Calls Try.prog 64 #[.int .i64 a, .int .i64 v] w fun e w' => e = .returned (.bool (mayS a v)) ∧ w = w' := by
  have HC := Lib.hid (hashSize_calls a w)
  have HK := Lib.hid (Weak_calls a w)
  have HW := Lib.hid (show mayS a v = (decide (0 < hashS a) && !(decide (v = 6) && weakS a)) from rfl)
  generalize hashS a = s at HC HW
  generalize weakS a = k at HK HW
  go_enter Try.func64, Try.ntmps64
  by_cases h2 : 0 < s
  · by_cases h1 : v = 6
    · subst h1
      go_wp2_with (first | (go_at_call 81; refine HC.out.mono ?_; rintro e w1 ⟨rfl, rfl⟩) | (go_at_call 82; refine HK.out.mono ?_; rintro e w1 ⟨rfl, rfl⟩)); go_ret; exact ⟨by rw [HW.out]; simp [h2], rfl⟩
    · go_wp2_with (first | (go_at_call 81; refine HC.out.mono ?_; rintro e w1 ⟨rfl, rfl⟩) | (go_at_call 82; refine HK.out.mono ?_; rintro e w1 ⟨rfl, rfl⟩)); go_ret; exact ⟨by rw [HW.out]; simp [h2, h1], rfl⟩
  · have HF := Lib.hid (show mayS a v = false by rw [HW.out, decide_eq_false h2]; rfl)
    go_wp2_with (first | (go_at_call 81; refine HC.out.mono ?_; rintro e w1 ⟨rfl, rfl⟩) | (go_at_call 82; refine HK.out.mono ?_; rintro e w1 ⟨rfl, rfl⟩)); go_ret; exact ⟨by rw [HF.out] <;> rfl, rfl⟩
set_option maxRecDepth 100000 in
theorem rhashed_calls (a v : Int) (w : World) : Calls Try.prog 67 #[.int .i64 a, .int .i64 v] w fun e w' => e = .returned (.bool (mayS a v)) ∧ w = w' := by
  have HC := Lib.hid (rhashSize_calls a w)
  have HK := Lib.hid (rWeak_calls a w)
  have HW := Lib.hid (show mayS a v = (decide (0 < hashS a) && !(decide (v = 6) && weakS a)) from rfl)
  generalize hashS a = s at HC HW
  generalize weakS a = k at HK HW
  go_enter Try.func67, Try.ntmps67
  by_cases h2 : 0 < s
  · by_cases h1 : v = 6
    · subst h1
      go_wp2_with (first | (go_at_call 83; refine HC.out.mono ?_; rintro e w1 ⟨rfl, rfl⟩) | (go_at_call 84; refine HK.out.mono ?_; rintro e w1 ⟨rfl, rfl⟩)); go_ret; exact ⟨by rw [HW.out]; simp [h2], rfl⟩
    · go_wp2_with (first | (go_at_call 83; refine HC.out.mono ?_; rintro e w1 ⟨rfl, rfl⟩) | (go_at_call 84; refine HK.out.mono ?_; rintro e w1 ⟨rfl, rfl⟩)); go_ret; exact ⟨by rw [HW.out]; simp [h2, h1], rfl⟩
  · have HF := Lib.hid (show mayS a v = false by rw [HW.out, decide_eq_false h2]; rfl)
    go_wp2_with (first | (go_at_call 83; refine HC.out.mono ?_; rintro e w1 ⟨rfl, rfl⟩) | (go_at_call 84; refine HK.out.mono ?_; rintro e w1 ⟨rfl, rfl⟩)); go_ret; exact ⟨by rw [HF.out] <;> rfl, rfl⟩

set_option maxRecDepth 100000 in
theorem isPub_calls (a : Int) (w : World) : Calls Try.prog 65 #[.int .i64 a] w fun e w' => e = .returned (.bool (pubS a)) ∧ w = w' := by
  go_enter Try.func65, Try.ntmps65
  by_cases h1 : a = 1
  · subst h1; go_wp2; go_ret; exact ⟨rfl, rfl⟩
  by_cases h2 : a = 27
  · subst h2; go_wp2; go_ret; exact ⟨rfl, rfl⟩
  · have HW := Lib.hid (show pubS a = false by rw [pubS]; simp [h1, h2])
    go_wp2; go_ret; exact ⟨by rw [HW.out] <;> first | rfl | simp [h1, h2], rfl⟩
set_option maxRecDepth 100000 in
theorem rpub_calls (a : Int) (w : World) : Calls Try.prog 68 #[.int .i64 a] w fun e w' => e = .returned (.bool (pubS a)) ∧ w = w' := by
  go_enter Try.func68, Try.ntmps68
  by_cases h1 : a = 1
  · subst h1; go_wp2; go_ret; exact ⟨rfl, rfl⟩
  by_cases h2 : a = 27
  · subst h2; go_wp2; go_ret; exact ⟨rfl, rfl⟩
  · have HW := Lib.hid (show pubS a = false by rw [pubS]; simp [h1, h2])
    go_wp2; go_ret; exact ⟨by rw [HW.out] <;> first | rfl | simp [h1, h2], rfl⟩

theorem fmt_eq (c k : UInt8) : ((c.toNat : Int) == (k.toNat : Int)) = decide (c = k) := by
  by_cases h : c = k
  · subst h; simp
  · simp only [h, decide_false, beq_eq_false_iff_ne]
    intro e
    exact h (UInt8.toNat_inj.1 (by omega))
set_option maxRecDepth 100000 in
theorem isFormat_calls (c : UInt8) (w : World) : Calls Try.prog 58 #[.int .u8 (c.toNat : Int)] w fun e w' => e = .returned (.bool (fmtS c)) ∧ w = w' := by
  have e1 : ((c.toNat : Int) == 98) = decide (c = 98) := fmt_eq c 98
  have e2 : ((c.toNat : Int) == 116) = decide (c = 116) := fmt_eq c 116
  have e3 : ((c.toNat : Int) == 117) = decide (c = 117) := fmt_eq c 117
  have HW := Lib.hid (show fmtS c = (decide (c = 98) || decide (c = 116) || decide (c = 117)) from rfl)
  generalize decide (c = 98) = x at e1 HW
  generalize decide (c = 116) = y at e2 HW
  generalize decide (c = 117) = z at e3 HW
  go_enter Try.func58, Try.ntmps58
  cases x <;> cases y <;> (go_wp2; go_ret; exact ⟨by rw [HW.out]; simp, rfl⟩)
set_option maxRecDepth 100000 in
theorem rformat_calls (c : UInt8) (w : World) : Calls Try.prog 61 #[.int .u8 (c.toNat : Int)] w fun e w' => e = .returned (.bool (fmtS c)) ∧ w = w' := by
  have e1 : ((c.toNat : Int) == 98) = decide (c = 98) := fmt_eq c 98
  have e2 : ((c.toNat : Int) == 116) = decide (c = 116) := fmt_eq c 116
  have e3 : ((c.toNat : Int) == 117) = decide (c = 117) := fmt_eq c 117
  have HW := Lib.hid (show fmtS c = (decide (c = 98) || decide (c = 116) || decide (c = 117)) from rfl)
  generalize decide (c = 98) = x at e1 HW
  generalize decide (c = 116) = y at e2 HW
  generalize decide (c = 117) = z at e3 HW
  go_enter Try.func61, Try.ntmps61
  cases x <;> cases y <;> (go_wp2; go_ret; exact ⟨by rw [HW.out]; simp, rfl⟩)

/-- How many bytes a one-pass packet's salt and issuer have, by its version. -/
def sizeS (v a : Int) : Int × Int × Bool := if v = 3 then (0, 8, true) else if v = 6 then (saltS a, 32, true) else (0, 0, false)
set_option maxRecDepth 100000 in
theorem sizes_calls (v a : Int) (w : World) : Calls Try.prog 63 #[.int .i64 v, .int .i64 a] w fun e w' => e = .returned (.tuple #[.int .i64 (sizeS v a).1, .int .i64 (sizeS v a).2.1, .bool (sizeS v a).2.2]) ∧ w = w' := by
  have HC := Lib.hid (SaltSize_calls a w)
  go_enter Try.func63, Try.ntmps63
  by_cases h1 : v = 3
  · subst h1; go_wp2; go_ret3; exact ⟨rfl, rfl⟩
  by_cases h2 : v = 6
  · subst h2; go_wp2_with (go_at_call 66; refine HC.out.mono ?_; rintro e w1 ⟨rfl, rfl⟩); go_ret3; exact ⟨rfl, rfl⟩
  · have HS := Lib.hid (show sizeS v a = (0, 0, false) by rw [sizeS, if_neg h1, if_neg h2])
    go_wp2; go_ret3; exact ⟨by rw [HS.out] <;> rfl, rfl⟩
end Go.Proofs.Ytegbncngencfnaa
