/- The heads of packets: what each call does. -/
import Derived.Test.YtcakdlfhmdkocaaPut
namespace Go.Proofs.Ytcakdlfhmdkocaa
open Go.RowKit

/-- May a packet come in parts? -/
def mayPart (t : Int) : Bool := t == 8 || t == 9 || t == 11 || t == 18
/-- Why a tag and a length may not be. -/
def checkS (tag n last : Int) : Int := if tag < 0 ∨ last < tag ∨ n < 0 then 1 else if 60000 < n then 4 else 0
/-- A new length. -/
def lenS (n : Nat) : List UInt8 := if n < 192 then [UInt8.ofNat n] else if n < 8384 then [UInt8.ofNat ((n - 192) / 256 + 192), UInt8.ofNat (n - 192)] else 255 :: be 4 n
def headS (tag n : Int) : List UInt8 × Int := if checkS tag n 63 = 0 then (UInt8.ofNat (192 + tag.toNat) :: lenS n.toNat, 0) else ([], checkS tag n 63)
/-- How an old length's width is told. -/
def oldW (n : Nat) : Nat := if n < 256 then 0 else if n < 65536 then 1 else 2
def oldS (tag n : Int) : List UInt8 × Int := if checkS tag n 15 = 0 then (UInt8.ofNat (128 + 4 * tag.toNat + oldW n.toNat) :: be (2 ^ oldW n.toNat) n.toNat, 0) else ([], checkS tag n 15)

set_option maxHeartbeats 400000 in
theorem MayPart_calls (t : Int) (w : World) : Calls Try.prog 23 #[.int .i64 t] w fun e w' => e = .returned (.bool (mayPart t)) ∧ w = w' := by
  go_enter Try.func23, Try.ntmps23
  go_wp2
  all_goals (go_ret; refine ⟨?_, rfl⟩; simp [mayPart, *])

set_option maxHeartbeats 400000 in
theorem rMayPart_calls (t : Int) (w : World) : Calls Try.prog 24 #[.int .i64 t] w fun e w' => e = .returned (.bool (mayPart t)) ∧ w = w' := by
  go_enter Try.func24, Try.ntmps24
  go_wp2
  all_goals (go_ret; refine ⟨?_, rfl⟩; simp [mayPart, *])

set_option maxHeartbeats 400000 in
theorem check_calls (tag n last : Int) (w : World) : Calls Try.prog 52 #[.int .i64 tag, .int .i64 n, .int .i64 last] w fun e w' => e = .returned (.int .i64 (checkS tag n last)) ∧ w = w' := by
  by_cases h : tag < 0 ∨ last < tag ∨ n < 0
  · have ht := Lib.hid (show checkS tag n last = 1 by rw [checkS, if_pos h])
    rcases h with h | h | h
    all_goals
      go_enter Try.func52, Try.ntmps52
      go_wp2
      all_goals (go_ret; rw [ht.out]; exact ⟨rfl, rfl⟩)
  · have h1 : ¬ tag < 0 := by omega
    have h2 : ¬ last < tag := by omega
    have h3 : ¬ n < 0 := by omega
    by_cases h4 : 60000 < n
    · have ht := Lib.hid (show checkS tag n last = 4 by rw [checkS, if_neg h, if_pos h4])
      clear h
      go_enter Try.func52, Try.ntmps52
      go_wp2
      go_ret
      rw [ht.out]
      exact ⟨rfl, rfl⟩
    · have ht := Lib.hid (show checkS tag n last = 0 by rw [checkS, if_neg h, if_neg h4])
      clear h
      go_enter Try.func52, Try.ntmps52
      go_wp2
      go_ret
      rw [ht.out]
      exact ⟨rfl, rfl⟩

theorem lenS_length (n : Nat) : (lenS n).length ≤ 5 := by
  unfold lenS
  split
  · simp
  · split
    · simp
    · simp [be_length]
theorem bvs_1 (n : Nat) (x : Int) (h : x = ((n % 256 : Nat) : Int)) : #[Value.int .u8 x].toList = bvs [UInt8.ofNat n] := by
  subst h
  simp [bvs, bv]
theorem bvs_2 (n m : Nat) (x y : Int) (h : x = ((n % 256 : Nat) : Int)) (h' : y = ((m % 256 : Nat) : Int)) : #[Value.int .u8 x, Value.int .u8 y].toList = bvs [UInt8.ofNat n, UInt8.ofNat m] := by
  subst h; subst h'
  simp [bvs, bv]

set_option maxRecDepth 100000 in
set_option maxHeartbeats 800000 in
theorem length_calls {B : Nat} {A : Option Addr} {m c : Nat} {l : List UInt8} {w : World} (h : Own w B A m c l) (hB : B ≤ w.heap.size) (hm : m ≤ 4294967200) (n : Nat) (hn : n ≤ 4294967200) :
    Calls Try.prog 53 #[.slice A m c, .int .i64 (n : Int)] w fun e w' => ∃ A' m' c', e = .returned (.slice A' m' c') ∧ Own w' B A' m' c' (l ++ lenS n) ∧ w.grownBy w' (A.map (·.block)) := by
  by_cases h1 : n < 192
  · have ht := Lib.hid (show lenS n = [UInt8.ofNat n] by rw [lenS, if_pos h1])
    go_enter Try.func53, Try.ntmps53
    go_wp2_with (at_builtin; go_must (refine app8_one (.tmp 10) (.tmp 13) rfl rfl rfl h [UInt8.ofNat n] _ (bvs_1 _ _ (by omega)) 1 rfl rfl (by omega) hB ?_); intro A1 c1 w1 hown1 hg1 hat1)
    go_ret
    rw [ht.out]
    exact ⟨_, _, _, rfl, hown1, hg1⟩
  · by_cases h2 : n < 8384
    · have ht := Lib.hid (show lenS n = [UInt8.ofNat ((n - 192) / 256 + 192), UInt8.ofNat (n - 192)] by rw [lenS, if_neg h1, if_pos h2])
      go_enter Try.func53, Try.ntmps53
      go_wp2_with (at_builtin; go_must (refine app8_one (.tmp 20) (.tmp 27) rfl rfl rfl h [UInt8.ofNat ((n - 192) / 256 + 192), UInt8.ofNat (n - 192)] _ (bvs_2 _ _ _ _ (by omega) (by omega)) 2 rfl rfl (by omega) hB ?_); intro A1 c1 w1 hown1 hg1 hat1)
      go_ret
      rw [ht.out]
      exact ⟨_, _, _, rfl, hown1, hg1⟩
    · have ht := Lib.hid (show lenS n = 255 :: be 4 n by rw [lenS, if_neg h1, if_neg h2])
      have hp := Lib.hid (show putS (l ++ [255]) n 4 = (l ++ [255] ++ be 4 n, 0) by rw [putS, if_pos ⟨by omega, by omega, by show n < 256 ^ 4; omega⟩]; rfl)
      go_enter Try.func53, Try.ntmps53
      go_wp2_with (at_builtin; go_must (refine app8_one (.tmp 30) (.tmp 31) rfl rfl rfl h [255] _ (by rfl) 1 rfl rfl (by omega) hB ?_); intro A1 c1 w1 hown1 hg1 hat1)
      refine (Put_any hown1.bs (by omega) n (by omega) 4).mono ?_
      rintro e w2 ⟨A2, m2, c2, r2, rfl, ho2, hr2, hb2⟩
      rw [hp.out] at ho2 hr2
      simp only at ho2 hr2
      subst hr2
      go_wp2
      go_ret
      rw [ht.out]
      exact ⟨_, _, _, rfl, by have := ho2.lower (B' := B) (Nat.le_trans hB hg1.size); simpa using this, grown_trans hg1 (grown_of_below hb2 _)⟩
end Go.Proofs.Ytcakdlfhmdkocaa
