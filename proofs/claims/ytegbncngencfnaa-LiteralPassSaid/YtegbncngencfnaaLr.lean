/- Whether a name may be: literal.IsName and the document's. -/
import Derived.Test.YtegbncngencfnaaLa
import Derived.Test.YtegbncngencfnaaCur
import Derived.Lib.ConvBytes
namespace Go.Proofs.Ytegbncngencfnaa
open Go.RowKit

def okB (b : UInt8) : Bool := decide (32 ≤ b.toNat)
/-- Whether a name may be. -/
def nameS (s : ByteArray) : Bool := s.data.toList.all okB && decide (s.size ≤ 500)
theorem name_bad {s : ByteArray} {k : Nat} (hk : k < s.size) (h : (s[k].toNat : Int) < 32) : nameS s = false := by
  have h1 : s.data.toList.all okB = false := by
    rw [Bool.eq_false_iff]
    intro ha
    rw [List.all_eq_true] at ha
    have := ha s[k] (by
      show s.data[k] ∈ s.data.toList
      rw [Array.mem_toList_iff]
      exact Array.getElem_mem _)
    simp only [okB, decide_eq_true_eq] at this
    omega
  rw [nameS, h1, Bool.false_and]
theorem all_snoc {s : ByteArray} {k : Nat} (hk : k < s.size) (ha : (s.data.toList.take k).all okB = true) (h : ¬ (s[k].toNat : Int) < 32) : (s.data.toList.take (k + 1)).all okB = true := by
  rw [List.take_succ_eq_append_getElem (by simpa using hk), List.all_append, ha]
  have h2 : s.data.toList[k]'(by simpa using hk) = s[k] := rfl
  simp only [List.all_cons, List.all_nil, Bool.and_true, Bool.true_and, okB, h2, decide_eq_true_eq]
  omega
theorem name_good {s : ByteArray} (ha : (s.data.toList.take s.size).all okB = true) : nameS s = decide (s.size ≤ 500) := by
  rw [List.take_of_length_le (by simp)] at ha
  rw [nameS, ha, Bool.true_and]

/-- '[]byte(s)': a new row that reads as the string. -/
theorem conv_bytes (w : World) (s : ByteArray) : ∃ c W1, (convert 9 22 (.string s)).run Try.prog w = .ok (.slice (some ⟨w.heap.size, 0, none⟩) s.size c) W1 ∧
    (∀ j, (h : j < s.size) → W1.cell? ⟨w.heap.size, j, none⟩ = some (.int .u8 (s[j].toNat : Int))) ∧ Below w.heap.size w W1 := by
  refine ⟨_, _, Lib.run_convert_string_bytes w 9 22 5 s Try.underlying9 Try.underlying22 Try.underlying5, fun j hj => ?_, ⟨rfl, rfl, rfl, ?_, fun k hk => Lib.bytesWorld_at_old w _ s k hk⟩⟩
  · rw [Lib.bytesWorld_cell w _ s j hj]
    have h' : j < s.data.toList.length := by simpa using hj
    rw [List.getD, List.getElem?_eq_getElem h']
    simp
    rfl
  · rw [Lib.bytesWorld_size]; omega

set_option maxHeartbeats 800000 in
theorem IsName_calls (s : ByteArray) (hs : s.size ≤ 140737488355328) (w : World) : Calls Try.prog 49 #[.string s] w fun e w' => e = .returned (.bool (nameS s)) ∧ Below w.heap.size w w' := by
  obtain ⟨c, W1, hconv, hcell, hB⟩ := conv_bytes w s
  have HB := Lib.hid hB
  have HC := Lib.hid hcell
  clear hcell hB
  go_enter Try.func49, Try.ntmps49
  go_wp2
  clear hconv
  go_loop [4, 8] (fun _ i => ∃ k : Nat, k ≤ s.size ∧ i = .int .i64 (k : Int) ∧ Hid ((s.data.toList.take k).all okB = true)) (fun _ i => s.size - (intOf i).toNat)
  case atStart => exact ⟨0, Nat.zero_le _, rfl, Lib.hid (by simp)⟩
  case round =>
    obtain ⟨k, hk, rfl, ha⟩ := hrel
    by_cases hlt : k < s.size
    · have hcell := HC.out k hlt
      by_cases hb : (s[k].toNat : Int) < 32
      · have HN := Lib.hid (name_bad hlt hb)
        generalize s[k] = x at hcell hb
        go_wp2
        go_ret
        exact ⟨by rw [HN.out]; rfl, HB.out⟩
      · have HS := Lib.hid (all_snoc hlt ha.out hb)
        generalize s[k] = x at hcell hb
        go_wp2
        go_round
        case rel => exact ⟨k + 1, by omega, by go_num, HS⟩
        case measure => simp [intOf]; omega
    · obtain rfl : k = s.size := by omega
      have HN := Lib.hid (name_good ha.out)
      go_wp2
      go_ret
      exact ⟨by rw [HN.out]; simp; omega, HB.out⟩

set_option maxHeartbeats 800000 in
theorem rIsName_calls (s : ByteArray) (hs : s.size ≤ 140737488355328) (w : World) : Calls Try.prog 50 #[.string s] w fun e w' => e = .returned (.bool (nameS s)) ∧ w = w' := by
  go_enter Try.func50, Try.ntmps50
  go_wp2
  go_loop [3] (fun i => ∃ k : Nat, k ≤ s.size ∧ i = .int .i64 (k : Int) ∧ Hid ((s.data.toList.take k).all okB = true)) (fun i => s.size - (intOf i).toNat)
  case atStart => exact ⟨0, Nat.zero_le _, rfl, Lib.hid (by simp)⟩
  case round =>
    obtain ⟨k, hk, rfl, ha⟩ := hrel
    by_cases hlt : k < s.size
    · by_cases hb : (s[k].toNat : Int) < 32
      · have HN := Lib.hid (name_bad hlt hb)
        go_wp2
        go_ret
        exact ⟨by rw [HN.out]; rfl, rfl⟩
      · have HS := Lib.hid (all_snoc hlt ha.out hb)
        go_wp2
        go_round
        case rel => exact ⟨k + 1, by omega, by go_num, HS⟩
        case measure => simp [intOf]; omega
    · obtain rfl : k = s.size := by omega
      have HN := Lib.hid (name_good ha.out)
      go_wp2
      go_ret
      exact ⟨by rw [HN.out]; simp; omega, rfl⟩
end Go.Proofs.Ytegbncngencfnaa
