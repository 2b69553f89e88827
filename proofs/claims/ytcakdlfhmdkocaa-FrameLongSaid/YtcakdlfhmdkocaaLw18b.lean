/- Lengths in five bytes; an old packet of all that is left. -/
import Derived.Test.YtcakdlfhmdkocaaLw18
import Derived.Test.YtcakdlfhmdkocaaTr
namespace Go.Proofs.Ytcakdlfhmdkocaa
open Go.RowKit

/-- A new head whose length has five bytes. -/
def longL (tag n : Nat) : List UInt8 := [UInt8.ofNat (192 + tag), 255, 0, 0, UInt8.ofNat (n / 256), UInt8.ofNat n]
theorem be4 {n : Nat} (hn : n < 65536) : be 4 n = [0, 0, UInt8.ofNat (n / 256), UInt8.ofNat n] := by
  have e1 : n / 16777216 = 0 := by omega
  have e2 : n / 65536 = 0 := by omega
  simp [be, e1, e2]
theorem take_long {tag : Nat} (ht : tag ≤ 63) {body : List UInt8} (hb : body.length ≤ 3000) : takeF (longL tag body.length ++ body) = ((tag : Int), body, [], 0) := by
  have h0 : Lk (longL tag body.length ++ body) 0 (UInt8.ofNat (192 + tag) :: 255 :: (be 4 body.length ++ body)) := by
    refine ⟨?_, Nat.zero_le _⟩
    rw [be4 (by omega)]; rfl
  generalize longL tag body.length ++ body = l at h0 ⊢
  have h1 := h0.cons
  have h6 : Lk l (1 + 5) body := by
    have := Lk.step (x := 255 :: be 4 body.length) (r := body) h1
    simpa [be_length] using this
  have h7 : Lk l (1 + 5) (body ++ []) := by simpa using h6
  have h := goT_new h0 ht
  rw [freshT_end (longT_five h1 (by omega)) h7 rfl (by simp; omega)] at h
  rw [takeF_ok h rfl, h7.step.1]
  rfl
theorem take_rest {tag : Nat} (ht : tag ≤ 15) {body : List UInt8} (hb : body.length ≤ 3000) : takeF (UInt8.ofNat (128 + 4 * tag + 3) :: body) = ((tag : Int), body, [], 0) := by
  have h0 := Lk.zero (UInt8.ofNat (128 + 4 * tag + 3) :: body)
  generalize hl : UInt8.ofNat (128 + 4 * tag + 3) :: body = l at h0 ⊢
  have h0 : Lk l 0 (UInt8.ofNat (128 + 4 * tag + 3) :: body) := by rw [hl]; exact h0
  have h1 := h0.cons
  have h2 : Lk l (0 + 1) (body ++ []) := by simpa using h1
  have h := goT_old h0 ht (by omega)
  rw [oldT_all h1 (by simp; omega)] at h
  rw [takeF_ok h rfl, h2.step.1]
  rfl

theorem long_cells {t n : Nat} (ht : t ≤ 63) (hn : n ≤ 3000) : #[Value.int .u8 (192 + (t : Int)), .int .u8 255, .int .u8 0, .int .u8 0, .int .u8 ((n : Int) / 256), .int .u8 ((n : Int) % 256)].toList = bvs (longL t n) := by
  simp only [bvs, longL, List.map_cons, List.map_nil, bv, List.cons.injEq, Value.int.injEq, true_and, UInt8.toNat_ofNat', and_true]
  refine ⟨by omega, by decide, by decide, by decide, by omega, by omega⟩
theorem old_cells (t : Nat) (ht : t ≤ 15) : #[Value.int .u8 (128 + 4 * (t : Int) + 3)].toList = bvs [UInt8.ofNat (128 + 4 * t + 3)] := by
  simp only [bvs, List.map_cons, List.map_nil, bv, List.cons.injEq, Value.int.injEq, true_and, UInt8.toNat_ofNat', and_true]
  omega

set_option maxRecDepth 100000 in
set_option maxHeartbeats 3200000 in
theorem FrameLong_walk (tag : Int) {A : Option Addr} {n c : Nat} {l : List UInt8} {w : World} (h : Bs w A n c l) :
    Calls Try.prog 6 #[.int .i64 tag, .slice A n c] w fun e w' => e = .returned (.bool true) ∧ Below w.heap.size w w' := by
  by_cases hq : 3000 < n ∨ tag < 0 ∨ 63 < tag
  · by_cases h1 : 3000 < n
    · clear hq
      go_enter Try.func6, Try.ntmps6
      go_wp2_with (go_at_call 22; refine (alive18_calls _).mono ?_; rintro e w1 ⟨rfl, hb1⟩)
      go_ret
      exact ⟨rfl, hb1⟩
    · by_cases h2 : tag < 0
      · clear hq
        go_enter Try.func6, Try.ntmps6
        go_wp2_with (go_at_call 22; refine (alive18_calls _).mono ?_; rintro e w1 ⟨rfl, hb1⟩)
        go_ret
        exact ⟨rfl, hb1⟩
      · have h3 : 63 < tag := by omega
        clear hq
        go_enter Try.func6, Try.ntmps6
        go_wp2_with (go_at_call 22; refine (alive18_calls _).mono ?_; rintro e w1 ⟨rfl, hb1⟩)
        go_ret
        exact ⟨rfl, hb1⟩
  · obtain ⟨t, rfl⟩ := Int.eq_ofNat_of_zero_le (by omega : 0 ≤ tag)
    have ht : t ≤ 63 := by omega
    have hn : n ≤ 3000 := by omega
    clear hq
    obtain rfl := h.2
    have hl := Lib.hid (take_long ht hn)
    have hlit := own_lit w #[.int .u8 (192 + t), .int .u8 255, .int .u8 0, .int .u8 0, .int .u8 ((l.length : Int) / 256), .int .u8 ((l.length : Int) % 256)] (longL t l.length) (long_cells ht hn) 6 rfl (by omega)
    have hal := h.alloc (.cells #[.int .u8 (192 + t), .int .u8 255, .int .u8 0, .int .u8 0, .int .u8 ((l.length : Int) / 256), .int .u8 ((l.length : Int) % 256)] 5)
    go_enter Try.func6, Try.ntmps6
    go_wp2_with (at_builtin; go_must (refine app8 (.tmp 31) (.tmp 32) rfl rfl rfl hlit rfl hal (by omega) (by simp) ?_); intro A1 c1 w1 hown1 hg1 hat1)
    have hb1 := below_lit hg1
    clear hlit hal hg1 hat1
    refine (takes_calls hown1.bs (by omega) (h.below hb1) (Bs.nil_ _) (t : Int) hl.out).mono ?_
    rintro e w2 ⟨rfl, hb2⟩
    have hB2 := below_then hb1 hb1.size hb2
    by_cases h15 : 15 < t
    · go_wp2_with (go_at_call 22; refine (alive18_calls _).mono ?_; rintro e w3 ⟨rfl, hb3⟩)
      go_ret
      exact ⟨rfl, below_then hB2 hB2.size hb3⟩
    · have hr := Lib.hid (take_rest (tag := t) (by omega) hn)
      have hlit := own_lit w2 #[.int .u8 (128 + 4 * (t : Int) + 3)] [UInt8.ofNat (128 + 4 * t + 3)] (old_cells t (by omega)) 1 rfl (by omega)
      have hal := ((h.below hb1).below hb2).alloc (.cells #[.int .u8 (128 + 4 * (t : Int) + 3)] 5)
      go_wp2_with (at_builtin; go_must (refine app8 (.tmp 47) (.tmp 48) rfl rfl rfl hlit rfl hal (by omega) (by simp) ?_); intro A3 c3 w3 hown3 hg3 hat3)
      have hb3 := below_lit hg3
      have hB3 := below_then hB2 hB2.size hb3
      clear hlit hal hg3 hat3
      refine (alive18_calls w3).mono ?_
      rintro e w4 ⟨rfl, hb4⟩
      have hB4 := below_then hB3 hB3.size hb4
      have ho4 := (hown3.below hb4).bs
      have hl4 := h.below hB4
      clear hown3 hB3 hb3 hb4 hB2 hb2 hb1
      go_wp2_with (go_at_call 25; go_must (refine (takes_calls ho4 (by omega) hl4 (Bs.nil_ _) (t : Int) hr.out).mono ?_; rintro e w5 ⟨rfl, hb5⟩))
      go_ret
      exact ⟨rfl, below_then hB4 hB4.size hb5⟩
end Go.Proofs.Ytcakdlfhmdkocaa
