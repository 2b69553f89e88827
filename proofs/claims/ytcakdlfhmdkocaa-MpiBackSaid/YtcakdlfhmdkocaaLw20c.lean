/- The statements of layer 20: MpiOnly, MpiBack. -/
import Derived.Test.YtcakdlfhmdkocaaLw20b
import Derived.Test.YtcakdlfhmdkocaaMv
namespace Go.Proofs.Ytcakdlfhmdkocaa
open Go.RowKit

theorem NatR.zero_len {w : World} {A : Option Addr} {m c : Nat} (h : NatR w A m c 0) : m = 0 := by
  obtain ⟨xs, h1, h2, h3, h4⟩ := h
  have := trim_zero (by decide) h3 h4
  have := h1.2
  subst xs
  simpa using this.symm
theorem NatR.short {w : World} {A : Option Addr} {m c N : Nat} (h : NatR w A m c N) (hb : nbits N ≤ 16384) : m ≤ 513 := by
  obtain ⟨xs, h1, h2, h3, h4⟩ := h
  have hm := h1.2
  by_cases h0 : xs = []
  · subst h0
    have : m = 0 := by simpa using hm.symm
    omega
  · have h5 := num_ge (by decide : 0 < 4294967296) h3 h0
    rw [h4, pow32] at h5
    have h6 := nbits_lt N
    have h7 : 2 ^ (32 * (xs.length - 1)) < 2 ^ nbits N := Nat.lt_of_le_of_lt h5 h6
    have := (Nat.pow_lt_pow_iff_right (by decide : 1 < 2)).1 h7
    omega
theorem strOf_size (l : List UInt8) : (strOf l).size = l.length := by simp [strOf, ByteArray.size]
theorem strOf_append (a b : List UInt8) : strOf a ++ strOf b = strOf (a ++ b) := by
  apply ByteArray.ext
  rw [ByteArray.data_append]
  simp [strOf]

set_option maxRecDepth 100000 in
set_option maxHeartbeats 3200000 in
theorem MpiOnly_walk {A : Option Addr} {n c : Nat} {l : List UInt8} {w : World} (h : Bs w A n c l) :
    Calls Try.prog 4 #[.slice A n c] w fun e w' => e = .returned (.bool true) ∧ Below w.heap.size w w' := by
  by_cases h1 : 300 < n
  · go_enter Try.func4, Try.ntmps4
    go_wp2_with (go_at_call 14; refine (alive20_calls _).mono ?_; rintro e w1 ⟨rfl, hb1⟩)
    go_ret
    exact ⟨rfl, hb1⟩
  · have h1' : n ≤ 300 := by omega
    clear h1
    have htk := mTake_calls h (by omega)
    rw [mTakeF_eq] at htk
    have hpt := put_take (l := l)
    have hte := rTakeF_err (l := l)
    generalize rTakeF l = R at htk hpt hte
    obtain ⟨N, rst, r⟩ := R
    simp only at htk hpt hte
    have HK := Lib.hid htk
    clear htk
    by_cases h0 : r = 0
    · subst h0
      obtain ⟨hb16, hjoin⟩ := hpt rfl
      have hmp : mputS [] N = (be 2 (nbits N) ++ bytesN N, 0) := by rw [mputS, if_neg (by omega), List.nil_append]
      have HM := Lib.hid hmp
      have HC := Lib.hid (show strOf (be 2 (nbits N) ++ bytesN N) ++ strOf rst = strOf l by rw [strOf_append, hjoin])
      have HS := Lib.hid (show ¬ 9223372036854775807 < (strOf (be 2 (nbits N) ++ bytesN N)).size + (strOf rst).size by
        rw [strOf_size, strOf_size, ← List.length_append, hjoin, h.2]; omega)
      have H16 := Lib.hid hb16
      clear hpt hte hmp hjoin hb16
      go_enter Try.func4, Try.ntmps4
      go_wp2_with fail
      refine HK.out.mono ?_
      rintro e w1 ⟨A1, m1, c1, A2, m2, c2, r1, rfl, hN1, ho2, hr1, hb1⟩
      obtain rfl : r1 = 0 := hr1
      have hm1 := hN1.short H16.out
      obtain ⟨xs, hx1, hx2, hx3, hx4⟩ := hN1
      go_wp2_with fail
      refine (mPut_calls (Bs.nil_ w1) (by omega) hx1 hx2 (by omega)).mono ?_
      rintro e w2 ⟨A3, m3, c3, r3, rfl, ho3, hr3, hb2⟩
      rw [hx4, HM.out] at ho3 hr3
      obtain rfl : r3 = 0 := hr3
      have hB2 := below_then hb1 hb1.size hb2
      go_wp2_with fail
      refine (alive20_calls w2).mono ?_
      rintro e w3 ⟨rfl, hb3⟩
      have hB3 := below_then hB2 hB2.size hb3
      have s1 := (ho3.below hb3).bs.str
      have s2 := ((ho2.below hb2).below hb3).bs.str
      have s3 := (h.below hB3).str
      have hcat := HC.out
      have hsz := HS.out
      clear ho2 ho3 hx1 hx2 hx3 hx4
      go_wp2
      go_ret
      exact ⟨by simp, hB3⟩
    · have hne : (r != 0) = true := by rw [bne_iff_ne]; exact h0
      obtain ⟨hN, hr⟩ := hte h0
      subst hN
      subst hr
      clear hpt hte
      go_enter Try.func4, Try.ntmps4
      go_wp2_with fail
      refine HK.out.mono ?_
      rintro e w1 ⟨A1, m1, c1, A2, m2, c2, r1, rfl, hN1, ho2, hr1, hb1⟩
      obtain rfl : r1 = r := hr1
      obtain rfl := hN1.zero_len
      obtain rfl : 0 = m2 := by have := ho2.2; simpa using this
      clear ho2
      go_wp2_with (go_at_call 14; refine (alive20_calls _).mono ?_; rintro e w2 ⟨rfl, hb2⟩)
      go_ret
      exact ⟨by simp, below_then hb1 hb1.size hb2⟩

set_option maxRecDepth 100000 in
set_option maxHeartbeats 3200000 in
theorem MpiBack_walk {A D : Option Addr} {n c m d : Nat} {xs : List Nat} {behind : List UInt8} {w : World} (h : Nr w .u32 A n c xs) (hlo : Lo 4294967296 xs) (h2 : Bs w D m d behind) :
    Calls Try.prog 8 #[.slice A n c, .slice D m d] w fun e w' => e = .returned (.bool true) ∧ Below w.heap.size w w' := by
  by_cases h1 : 520 < n
  · go_enter Try.func8, Try.ntmps8
    go_wp2_with (go_at_call 14; refine (alive20_calls _).mono ?_; rintro e w1 ⟨rfl, hb1⟩)
    go_ret
    exact ⟨rfl, hb1⟩
  · have h1' : n ≤ 520 := by omega
    clear h1
    by_cases h3 : 300 < m
    · go_enter Try.func8, Try.ntmps8
      go_wp2_with (go_at_call 14; refine (alive20_calls _).mono ?_; rintro e w1 ⟨rfl, hb1⟩)
      go_ret
      exact ⟨rfl, hb1⟩
    · have h3' : m ≤ 300 := by omega
      clear h3
      have hput := mPut_calls (Bs.nil_ w) (by omega) h hlo (by omega)
      have hbits := fun W (hW : Below w.heap.size w W) => Bits_calls (h.below hW) hlo (by omega)
      have hcmp := fun W (hW : Below w.heap.size w W) (A2 : Option Addr) (m2 c2 : Nat) (hN : NatR W A2 m2 c2 (num 4294967296 xs)) => (show Calls Try.prog 31 #[.slice A n c, .slice A2 m2 c2] W fun e w' => e = .returned (.int .i64 0) ∧ Below W.heap.size W w' from by
        obtain ⟨ys, g1, g2, g3, g4⟩ := hN
        exact Cmp_calls (h.below hW) hlo g1 g2 g4.symm (by omega))
      have hback := take_put (N := num 4294967296 xs)
      have hshort := take_put_short (N := num 4294967296 xs)
      have hml : (be 2 (nbits (num 4294967296 xs)) ++ bytesN (num 4294967296 xs)).length = 2 + nlen (num 4294967296 xs) := by rw [List.length_append, be_length, bytesN_length]
      have hnl := nlen_le hlo h.2
      have hmp : mputS [] (num 4294967296 xs) = if 16384 < nbits (num 4294967296 xs) then ([], 4) else (be 2 (nbits (num 4294967296 xs)) ++ bytesN (num 4294967296 xs), 0) := by rw [mputS, List.nil_append]
      generalize be 2 (nbits (num 4294967296 xs)) ++ bytesN (num 4294967296 xs) = X at hback hshort hml hmp
      rw [hmp] at hput
      generalize nlen (num 4294967296 xs) = L at hshort hml hnl
      generalize nbits (num 4294967296 xs) = q at hput hbits hback hshort hmp
      generalize num 4294967296 xs = N at hcmp hback hmp
      have HP := Lib.hid hput
      have HB := Lib.hid hbits
      have HCM := Lib.hid hcmp
      clear hput hbits hcmp hmp
      by_cases hq : 16384 < q
      · have hd : decide ((16384 : Int) < (q : Int)) = true := decide_eq_true (by omega)
        have HQ := Lib.hid hq
        clear hq hback hshort hml
        go_enter Try.func8, Try.ntmps8
        go_wp2_with fail
        refine HP.out.mono ?_
        rintro e w1 ⟨A1, m1, c1, r1, rfl, ho1, hr1, hb1⟩
        rw [if_pos HQ.out] at ho1 hr1
        obtain rfl : r1 = 4 := hr1
        obtain rfl : 0 = m1 := by have := ho1.2; simpa using this
        clear ho1
        go_wp2_with fail
        refine (alive20_calls _).mono ?_
        rintro e w2 ⟨rfl, hb2⟩
        have hB2 := below_then hb1 hb1.size hb2
        go_wp2_with (go_at_call 30; refine (HB.out _ hB2).mono ?_; rintro e w3 ⟨rfl, hb3⟩)
        go_ret
        exact ⟨by simp, below_then hB2 hB2.size hb3⟩
      · have hback := hback (by omega) behind
        have hshort := hshort (by omega)
        have HQ := Lib.hid hq
        have HBK := Lib.hid hback
        have HSH := Lib.hid hshort
        clear hq hback hshort
        go_enter Try.func8, Try.ntmps8
        go_wp2_with fail
        refine HP.out.mono ?_
        rintro e w1 ⟨A1, m1, c1, r1, rfl, ho1, hr1, hb1⟩
        rw [if_neg HQ.out] at ho1 hr1
        obtain rfl : r1 = 0 := hr1
        have hm1 := ho1.2
        simp only at hm1 ho1
        obtain ⟨t, ht⟩ : ∃ t, t = 1 + L := ⟨_, rfl⟩
        obtain rfl : m1 = t + 1 := by omega
        have hcap := ho1.bs.cap
        have hLL := h.2
        have ht3 : t ≤ 3000 := by omega
        have ht1 : 1 ≤ t := by omega
        have HT := Lib.hid (show 2 + L - 1 = t by omega)
        clear hm1 hml hnl hLL ht
        have htt : (((t + 1 : Nat) : Int)) - 1 = (t : Int) := by omega
        have hlt2 : ¬ (((t + 1 : Nat) : Int)) < 2 := by omega
        have HX := Lib.hid (ho1.bs.upto (k := t) (by omega))
        have hcc := hcap.1
        clear hcap
        go_wp2_with fail
        refine (mTake_calls HX.out (by omega)).mono ?_
        rintro e w2 ⟨A2, m2, c2, A3, m3, c3, r2, rfl, hN2, ho3, hr2, hb2⟩
        rw [mTakeF_eq, ← HT.out, HSH.out] at hr2
        obtain rfl : r2 = 2 := hr2
        have hB2 := below_then hb1 hb1.size hb2
        clear hN2 ho3
        have hem := empty8 w2
        have hal := (ho1.below hb2).bs.alloc (.cells #[] 5)
        go_wp2_with (first
          | (at_builtin; refine app8 (.tmp 58) (.tmp 59) rfl rfl rfl hem rfl hal (by omega) (by simp) ?_; intro A4 c4 w4 hown4 hg4 hat4; go_must (have hb4 := below_then hB2 hB2.size (below_empty hg4); rw [List.nil_append, Nat.zero_add] at hown4; have hown4 := hown4.lower (B' := w.heap.size) hB2.size; have hl4 := h2.below hb4))
          | (at_builtin; refine app8 (.tmp 61) (.tmp 62) rfl rfl rfl hown4 rfl hl4 (by omega) hb4.size ?_; intro A5 c5 w5 hown5 hg5 hat5; go_must (have hb5 := hown4.grew hb4 hb4.size hg5)))
        refine (mTake_calls hown5.bs (by omega)).mono ?_
        rintro e w6 ⟨A6, m6, c6, A7, m7, c7, r6, rfl, hN6, ho7, hr6, hb6⟩
        rw [mTakeF_eq, HBK.out] at hN6 ho7 hr6
        obtain rfl : r6 = 0 := hr6
        simp only at hN6 ho7
        have hB6 := below_then hb5 hb5.size hb6
        clear hem hal hown4 hown5 hg4 hg5 hat4 hat5 hl4
        go_wp2_with fail
        refine (alive20_calls _).mono ?_
        rintro e w7 ⟨rfl, hb7⟩
        have hB7 := below_then hB6 hB6.size hb7
        have hcmp := HCM.out w7 hB7 A6 m6 c6 (hN6.below hb7)
        have HC2 := Lib.hid hcmp
        have h7 := ho7.below hb7
        clear hcmp hN6 ho7
        go_wp2_with (go_at_call 31; refine HC2.out.mono ?_; rintro e w8 ⟨rfl, hb8⟩; have s1 := (h7.below hb8).bs.str; have hB8 := below_then hB7 hB7.size hb8; have s2 := (h2.below hB8).str)
        go_ret
        exact ⟨by simp, hB8⟩
end Go.Proofs.Ytcakdlfhmdkocaa
