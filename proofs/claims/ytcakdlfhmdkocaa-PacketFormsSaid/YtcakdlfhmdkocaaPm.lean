/- Which packets count. -/
import Derived.Test.YtcakdlfhmdkocaaPk
import Derived.Laws.Strings
namespace Go.Proofs.Ytcakdlfhmdkocaa
open Go.RowKit

/-- Does a packet count; why it may not be. -/
def countsS (tag : Int) (body : List UInt8) : Bool × Int :=
  if tag = 2 ∨ tag = 4 ∨ tag = 6 ∨ tag = 11 ∨ tag = 13 ∨ tag = 14 then (true, 0) else if tag = 12 ∨ tag = 21 then (false, 0)
  else if tag = 10 then (if body = [80, 71, 80] then (false, 0) else (false, 8)) else if 40 ≤ tag then (false, 0) else (false, 8)
def knownS (tag : Int) : Bool := tag == 2 || tag == 4 || tag == 6 || tag == 11 || tag == 13 || tag == 14

theorem strOf_toList (l : List UInt8) : (strOf l).toList = l := ByteArray.toList_mk l

set_option maxRecDepth 100000 in
set_option maxHeartbeats 3200000 in
theorem counts_calls (tag : Int) {A : Option Addr} {n c : Nat} {body : List UInt8} {w : World} (h : Bs w A n c body) :
    Calls Try.prog 65 #[.agg #[.int .i64 tag, .slice A n c]] w fun e w' => e = .returned (.tuple #[.bool (countsS tag body).1, .int .i64 (countsS tag body).2]) ∧ Below w.heap.size w w' := by
  have hb := (Below.refl w.heap.size w).alloc (Nat.le_refl _) (.cells #[.int .i64 tag, .slice A n c] 61)
  by_cases h1 : tag = 2 ∨ tag = 4 ∨ tag = 6 ∨ tag = 11 ∨ tag = 13 ∨ tag = 14
  · have ht := Lib.hid (show countsS tag body = (true, 0) by rw [countsS, if_pos h1])
    rcases h1 with rfl | rfl | rfl | rfl | rfl | rfl
    all_goals
      go_enter Try.func65, Try.ntmps65
      go_wp2
      go_ret2
      rw [ht.out]
      exact ⟨rfl, hb⟩
  · by_cases h2 : tag = 12 ∨ tag = 21
    · have ht := Lib.hid (show countsS tag body = (false, 0) by rw [countsS, if_neg h1, if_pos h2])
      clear h1
      rcases h2 with rfl | rfl
      all_goals
        go_enter Try.func65, Try.ntmps65
        go_wp2
        go_ret2
        rw [ht.out]
        exact ⟨rfl, hb⟩
    · by_cases h3 : tag = 10
      · have hs := (h.alloc (.cells #[.int .i64 tag, .slice A n c] 61)).str
        by_cases h4 : body = [80, 71, 80]
        · have ht := Lib.hid (show countsS tag body = (false, 0) by rw [countsS, if_neg h1, if_neg h2, if_pos h3, if_pos h4])
          have hq : ((strOf body).toList == [80, 71, 80]) = true := by rw [strOf_toList, h4]; rfl
          subst h3
          clear h1 h2 h4
          go_enter Try.func65, Try.ntmps65
          go_wp2
          go_ret2
          rw [ht.out]
          exact ⟨rfl, hb⟩
        · have ht := Lib.hid (show countsS tag body = (false, 8) by rw [countsS, if_neg h1, if_neg h2, if_pos h3, if_neg h4])
          have hq : ((strOf body).toList == [80, 71, 80]) = false := by
            rw [strOf_toList, beq_eq_false_iff_ne]
            exact h4
          subst h3
          clear h1 h2 h4
          go_enter Try.func65, Try.ntmps65
          go_wp2
          go_ret2
          rw [ht.out]
          exact ⟨rfl, hb⟩
      · have k1 : ((tag == 2) = false ∧ (tag == 4) = false ∧ (tag == 6) = false ∧ (tag == 11) = false ∧ (tag == 13) = false) ∧ ((tag == 14) = false ∧ (tag == 12) = false ∧ (tag == 21) = false ∧ (tag == 10) = false) := by
          simp only [beq_eq_false_iff_ne]
          omega
        obtain ⟨⟨a1, a2, a3, a4, a5⟩, a6, a7, a8, a9⟩ := k1
        by_cases h4 : 40 ≤ tag
        · have ht := Lib.hid (show countsS tag body = (false, 0) by rw [countsS, if_neg h1, if_neg h2, if_neg h3, if_pos h4])
          clear h1 h2 h3
          go_enter Try.func65, Try.ntmps65
          go_wp2
          go_ret2
          rw [ht.out]
          exact ⟨rfl, hb⟩
        · have ht := Lib.hid (show countsS tag body = (false, 8) by rw [countsS, if_neg h1, if_neg h2, if_neg h3, if_neg h4])
          clear h1 h2 h3
          go_enter Try.func65, Try.ntmps65
          go_wp2
          go_ret2
          rw [ht.out]
          exact ⟨rfl, hb⟩

set_option maxRecDepth 100000 in
set_option maxHeartbeats 1600000 in
theorem known_calls (tag : Int) (w : World) : Calls Try.prog 67 #[.int .i64 tag] w fun e w' => e = .returned (.bool (knownS tag)) ∧ w = w' := by
  go_enter Try.func67, Try.ntmps67
  go_wp2
  all_goals (go_ret; refine ⟨?_, rfl⟩; simp [knownS, *])

/-- Does a packet count for nothing? -/
def nothingS (tag : Int) (body : List UInt8) : Bool := (decide (tag = 10) && decide (body = [80, 71, 80])) || decide (tag = 12) || decide (tag = 21) || decide (40 ≤ tag)
theorem countsS_eq (tag : Int) (body : List UInt8) : countsS tag body = if nothingS tag body then (false, 0) else if knownS tag then (true, 0) else (false, 8) := by
  have hk : knownS tag = decide (tag = 2 ∨ tag = 4 ∨ tag = 6 ∨ tag = 11 ∨ tag = 13 ∨ tag = 14) := by
    simp only [knownS, Bool.decide_or]
    have e : ∀ k : Int, (tag == k) = decide (tag = k) := fun k => by by_cases h : tag = k <;> simp [h]
    simp only [e, Bool.or_assoc]
  rw [hk, countsS]
  by_cases h1 : tag = 2 ∨ tag = 4 ∨ tag = 6 ∨ tag = 11 ∨ tag = 13 ∨ tag = 14
  · have hn : nothingS tag body = false := by
      simp only [nothingS, Bool.or_eq_false_iff, Bool.and_eq_false_iff, decide_eq_false_iff_not]
      omega
    rw [if_pos h1, hn, decide_eq_true h1]
    rfl
  · rw [if_neg h1, decide_eq_false h1]
    by_cases h2 : tag = 12 ∨ tag = 21
    · have hn : nothingS tag body = true := by
        simp only [nothingS, Bool.or_eq_true, Bool.and_eq_true, decide_eq_true_eq]
        omega
      rw [if_pos h2, hn]
      rfl
    · rw [if_neg h2]
      by_cases h3 : tag = 10
      · rw [if_pos h3]
        by_cases h4 : body = [80, 71, 80]
        · rw [if_pos h4, show nothingS tag body = true by simp [nothingS, h3, h4]]
          rfl
        · rw [if_neg h4, show nothingS tag body = false by simp [nothingS, h3, h4]]
          rfl
      · rw [if_neg h3]
        by_cases h4 : 40 ≤ tag
        · rw [if_pos h4, show nothingS tag body = true by simp [nothingS, h4]]
          rfl
        · have hn : nothingS tag body = false := by
            simp only [nothingS, Bool.or_eq_false_iff, Bool.and_eq_false_iff, decide_eq_false_iff_not]
            omega
          rw [if_neg h4, hn]
          rfl

set_option maxRecDepth 100000 in
set_option maxHeartbeats 3200000 in
theorem nothing_calls (tag : Int) {A : Option Addr} {n c : Nat} {body : List UInt8} {w : World} (h : Bs w A n c body) :
    Calls Try.prog 66 #[.agg #[.int .i64 tag, .slice A n c]] w fun e w' => e = .returned (.bool (nothingS tag body)) ∧ Below w.heap.size w w' := by
  have hb := (Below.refl w.heap.size w).alloc (Nat.le_refl _) (.cells #[.int .i64 tag, .slice A n c] 61)
  have hs := (h.alloc (.cells #[.int .i64 tag, .slice A n c] 61)).str
  by_cases h3 : tag = 10
  · by_cases h4 : body = [80, 71, 80]
    · have ht := Lib.hid (show nothingS tag body = true by simp [nothingS, h3, h4])
      have hq : ((strOf body).toList == [80, 71, 80]) = true := by rw [strOf_toList, h4]; rfl
      subst h3
      clear h4
      go_enter Try.func66, Try.ntmps66
      go_wp2
      go_ret
      rw [ht.out]
      exact ⟨rfl, hb⟩
    · have ht := Lib.hid (show nothingS tag body = false by simp [nothingS, h3, h4])
      have hq : ((strOf body).toList == [80, 71, 80]) = false := by rw [strOf_toList, beq_eq_false_iff_ne]; exact h4
      subst h3
      clear h4
      go_enter Try.func66, Try.ntmps66
      go_wp2
      go_ret
      rw [ht.out]
      exact ⟨rfl, hb⟩
  · have a1 : (tag == 10) = false := by rw [beq_eq_false_iff_ne]; exact h3
    by_cases h12 : tag = 12
    · have ht := Lib.hid (show nothingS tag body = true by simp [nothingS, h12])
      subst h12
      clear h3
      go_enter Try.func66, Try.ntmps66
      go_wp2
      go_ret
      rw [ht.out]
      exact ⟨rfl, hb⟩
    · by_cases h21 : tag = 21
      · have ht := Lib.hid (show nothingS tag body = true by simp [nothingS, h21])
        subst h21
        clear h3 h12
        go_enter Try.func66, Try.ntmps66
        go_wp2
        go_ret
        rw [ht.out]
        exact ⟨rfl, hb⟩
      · have a2 : (tag == 12) = false := by rw [beq_eq_false_iff_ne]; exact h12
        have a3 : (tag == 21) = false := by rw [beq_eq_false_iff_ne]; exact h21
        have ht := Lib.hid (show nothingS tag body = decide (40 ≤ tag) by simp [nothingS, h3, h12, h21])
        clear h3 h12 h21
        go_enter Try.func66, Try.ntmps66
        go_wp2
        all_goals
          go_ret
          rw [ht.out]
          exact ⟨by simp, hb⟩
end Go.Proofs.Ytcakdlfhmdkocaa
