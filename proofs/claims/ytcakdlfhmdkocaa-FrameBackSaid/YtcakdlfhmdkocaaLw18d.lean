/- There and back. -/
import Derived.Test.YtcakdlfhmdkocaaLw18
import Derived.Test.YtcakdlfhmdkocaaTs
namespace Go.Proofs.Ytcakdlfhmdkocaa
open Go.RowKit

theorem is_lit (w : World) (cs : Array Value) (zs : List Int) (hcs : cs.toList = zs.map (Value.int .i64)) (m : Nat) (hm : zs.length = m) (hm2 : m ≤ 1000) : Is (w.alloc (.cells cs 3)) (some ⟨w.heap.size, 0, none⟩) m m zs := by
  have hnew := heap_alloc_new w (.cells cs 3)
  refine ⟨⟨by simp [hm], by simp only [maxLen]; omega, fun hn => ⟨_, rfl, by simp, fun j u hu => ?_⟩⟩, hm⟩
  have := cell_of_row (w.alloc (.cells cs 3)) w.heap.size j cs 3 (0, 0) hnew
  have he : (⟨w.heap.size, 0, none⟩ : Addr).add j = ⟨w.heap.size, j, none⟩ := by
    unfold Addr.add; split
    · rename_i h0; rw [h0]
    · simp
  rw [he, this, ← Array.getElem?_toList, hcs]
  exact hu

theorem checkS_ok {tag n last : Int} (h1 : 0 ≤ tag) (h2 : tag ≤ last) (h3 : 0 ≤ n) (h4 : n ≤ 60000) : checkS tag n last = 0 := by rw [checkS, if_neg (by omega), if_neg (by omega)]
theorem checkS_arg {tag n last : Int} (h : tag < 0 ∨ last < tag ∨ n < 0) : checkS tag n last = 1 := by rw [checkS, if_pos h]
theorem lenS_pos (n : Nat) : 1 ≤ (lenS n).length := by
  unfold lenS
  split
  · simp
  · split <;> simp

set_option maxRecDepth 100000 in
set_option maxHeartbeats 6400000 in
theorem FrameBack_walk (tag : Int) {A D : Option Addr} {n c m d : Nat} {body behind : List UInt8} {w : World} (h : Bs w A n c body) (hh : Bs w D m d behind) :
    Calls Try.prog 10 #[.int .i64 tag, .slice A n c, .slice D m d] w fun e w' => e = .returned (.bool true) ∧ Below w.heap.size w w' := by
  by_cases hq : 3000 < n ∨ 3000 < m
  · by_cases h1 : 3000 < n
    · clear hq
      go_enter Try.func10, Try.ntmps10
      go_wp2_with (go_at_call 22; refine (alive18_calls _).mono ?_; rintro e w1 ⟨rfl, hb1⟩)
      go_ret
      exact ⟨rfl, hb1⟩
    · have h2 : 3000 < m := by omega
      clear hq
      go_enter Try.func10, Try.ntmps10
      go_wp2_with (go_at_call 22; refine (alive18_calls _).mono ?_; rintro e w1 ⟨rfl, hb1⟩)
      go_ret
      exact ⟨rfl, hb1⟩
  · have hn : n ≤ 3000 := by omega
    have hm : m ≤ 3000 := by omega
    clear hq
    obtain rfl := h.2
    obtain rfl := hh.2
    by_cases hck : checkS tag body.length 63 = 0
    · have hb : 0 ≤ tag ∧ tag ≤ 63 := by
        unfold checkS at hck
        split at hck
        · omega
        · omega
      obtain ⟨t, rfl⟩ := Int.eq_ofNat_of_zero_le hb.1
      have ht : t ≤ 63 := by omega
      have hH := Lib.hid (show headS t body.length = (UInt8.ofNat (192 + t) :: lenS body.length, 0) by rw [headS, if_pos hck]; simp)
      have hll := lenS_length body.length
      have hlp := lenS_pos body.length
      clear hck hb
      go_enter Try.func10, Try.ntmps10
      go_wp2_with fail
      refine (Head_calls t body.length w).mono ?_
      rintro e w1 ⟨A1, m1, c1, r1, rfl, ho1, hr1, hb1⟩
      rw [hH.out] at ho1 hr1
      simp only at ho1 hr1
      subst hr1
      have hm1 := ho1.2
      rw [List.length_cons] at hm1
      have hem := empty8 w1
      have hal := ho1.bs.alloc (.cells #[] 5)
      go_wp2_with (first
        | (at_builtin; refine app8 (.tmp 45) (.tmp 46) rfl rfl rfl hem rfl hal (by omega) (by simp) ?_; intro A2 c2 w2 hown2 hg2 hat2; go_must (have hb2 := below_then hb1 hb1.size (below_empty hg2); rw [List.nil_append, Nat.zero_add] at hown2; have hown2 := hown2.lower (B' := w.heap.size) hb1.size; have hl2 := h.below hb2))
        | (at_builtin; refine app8 (.tmp 48) (.tmp 49) rfl rfl rfl hown2 rfl hl2 (by omega) hb2.size ?_; intro A3 c3 w3 hown3 hg3 hat3; go_must (have hb3 := hown2.grew hb2 hb2.size hg3; have hc3 := hown3.bs.cap)))
      have hsh := Lib.hid (take_new_short ht (by omega : body.length ≤ 60000) (m1 + body.length - 1) (by rw [List.length_append, List.length_cons]; omega))
      refine (Take_calls (hown3.bs.upto (k := m1 + body.length - 1) (by omega)) (by omega)).mono ?_
      rintro e w4 ⟨A4, m4, c4, A5, m5, c5, tg, r4, rfl, _, hr4, _, _, hb4⟩
      rw [hsh.out] at hr4
      subst hr4
      have hB4 := below_then hb3 hb3.size hb4
      have hown4 := (hown3.below hb4).bs
      have hl4 := h.below hB4
      have hh4 := hh.below hB4
      clear hem hal hown2 hg2 hat2 hb2 hown3 hg3 hat3 hb3 hc3 ho1 hb1 hl2 hb4 hsh
      have hem := empty8 w4
      have hal := hown4.alloc (.cells #[] 5)
      have hTn := Lib.hid (take_new ht (by omega : body.length ≤ 60000) behind)
      go_wp2_with (first
        | (at_builtin; refine app8 (.tmp 63) (.tmp 64) rfl rfl rfl hem rfl hal (by omega) (by simp) ?_; intro A6 c6 w6 hown6 hg6 hat6; go_must (have hb6 := below_then hB4 hB4.size (below_empty hg6); rw [List.nil_append, Nat.zero_add] at hown6; have hown6 := hown6.lower (B' := w.heap.size) hB4.size; have hh6 := hh.below hb6))
        | (at_builtin; refine app8 (.tmp 66) (.tmp 67) rfl rfl rfl hown6 rfl hh6 (by omega) hb6.size ?_; intro A7 c7 w7 hown7 hg7 hat7; go_must (have hb7 := hown6.grew hb6 hb6.size hg7; have hl7 := h.below hb7; have hh7 := hh.below hb7))
        | (go_at_call 25; refine (takes_calls hown7.bs (by omega) hl7 hh7 (t : Int) hTn.out).mono ?_; rintro e w8 ⟨rfl, hb8⟩; go_must (have hB8 := below_then hb7 hb7.size hb8)))
      clear hem hal hown4 hown6 hown7 hg6 hat6 hg7 hat7 hB4 hb6 hh6 hb7 hl7 hh7 hb8 hTn hl4 hh4
      by_cases h15 : t ≤ 15
      focus
        have hO := Lib.hid (show oldS t body.length = (UInt8.ofNat (128 + 4 * t + oldW body.length) :: be (2 ^ oldW body.length) body.length, 0) by rw [oldS, if_pos (checkS_ok (by omega) (by omega) (by omega) (by omega))]; simp)
        have hbl := be_length (2 ^ oldW body.length) body.length
        have hTo := Lib.hid (take_old h15 (by omega : body.length ≤ 60000) behind)
        refine (Old_calls t body.length w8).mono ?_
        rintro e w9 ⟨A9, m9, c9, r9, rfl, ho9, hr9, hb9⟩
        rw [hO.out] at ho9 hr9
        simp only at ho9 hr9
        subst hr9
        have hm9 := ho9.2
        have hw9 : m9 ≤ 5 := by
          rw [List.length_cons, hbl] at hm9
          have : 2 ^ oldW body.length ≤ 2 ^ 2 := Nat.pow_le_pow_right (by omega) (by have := oldW_lt (n := body.length) (by omega); omega)
          omega
        have hB9 := below_then hB8 hB8.size hb9
        have hem := empty8 w9
        have hal := ho9.bs.alloc (.cells #[] 5)
        clear hm9 hbl
        go_wp2_with (first
          | (at_builtin; refine app8 (.tmp 88) (.tmp 89) rfl rfl rfl hem rfl hal (by omega) (by simp) ?_; intro A10 c10 w10 hown10 hg10 hat10; go_must (have hb10 := below_then hB9 hB9.size (below_empty hg10); rw [List.nil_append, Nat.zero_add] at hown10; have hown10 := hown10.lower (B' := w.heap.size) hB9.size; have hl10 := h.below hb10))
          | (at_builtin; refine app8 (.tmp 91) (.tmp 92) rfl rfl rfl hown10 rfl hl10 (by omega) hb10.size ?_; intro A11 c11 w11 hown11 hg11 hat11; go_must (have hb11 := hown10.grew hb10 hb10.size hg11; have hh11 := hh.below hb11))
          | (at_builtin; refine app8 (.tmp 94) (.tmp 95) rfl rfl rfl hown11 rfl hh11 (by omega) hb11.size ?_; intro A12 c12 w12 hown12 hg12 hat12; go_must (have hb12 := hown11.grew hb11 hb11.size hg12; have hl12 := h.below hb12; have hh12 := hh.below hb12))
          | (go_at_call 25; refine (takes_calls hown12.bs (by omega) hl12 hh12 (t : Int) hTo.out).mono ?_; rintro e wz ⟨rfl, hbz⟩; go_must (have hBz := below_then hb12 hb12.size hbz)))
        clear hO hTo ho9 hw9 hb9 hB9 hem hal hown10 hown11 hown12 hg10 hg11 hg12 hat10 hat11 hat12 hb10 hb11 hb12 hl10 hh11 hl12 hh12 hbz
      rotate_left
      focus
        have hO := Lib.hid (show oldS t body.length = ([], 1) by rw [oldS, checkS_arg (by omega), if_neg (by decide)])
        refine (Old_calls t body.length w8).mono ?_
        rintro e wz ⟨A9, m9, c9, r9, rfl, ho9, hr9, hb9⟩
        rw [hO.out] at ho9 hr9
        simp only at ho9 hr9
        subst hr9
        have hBz := below_then hB8 hB8.size hb9
        clear hO ho9 hb9
        go_wp2_with fail
      all_goals
        have hz3 := is_lit wz #[.int .i64 9, .int .i64 3, .int .i64 0] [9, 3, 0] rfl 3 rfl (by omega)
        have hlz := (h.below hBz).alloc (.cells #[.int .i64 9, .int .i64 3, .int .i64 0] 3)
        have hBy := hBz.alloc hBz.size (.cells #[.int .i64 9, .int .i64 3, .int .i64 0] 3)
        generalize wz.alloc (.cells #[.int .i64 9, .int .i64 3, .int .i64 0] 3) = wy at hz3 hlz hBy ⊢
        refine (Parts_calls t hlz (by omega) hz3 (by omega)).mono ?_
        rintro e wx ⟨A14, m14, c14, r14, rfl, ho14, hr14, hbx⟩
        have hBx := below_then hBy hBy.size hbx
        clear hz3 hlz hBy hBz hB8 hbx
        cases hmp : mayPart t with
        | false =>
          rw [show partsF t [9, 3, 0] body = ([], 1) by rw [partsF, if_neg (by simp [hmp])]] at ho14 hr14
          simp only at ho14 hr14
          subst hr14
          clear ho14
          go_wp2_with (first
            | (go_at_call 22; refine (alive18_calls _).mono ?_; rintro e w15 ⟨rfl, hb15⟩)
            | (go_at_call 23; refine (MayPart_calls t _).mono ?_; rw [hmp]; rintro e w16 ⟨rfl, rfl⟩))
          go_ret
          exact ⟨rfl, below_then hBx hBx.size hb15⟩
        | true =>
          have h3 := parts_three hmp (by omega : body.length ≤ 60000)
          by_cases h521 : body.length < 521
          · rw [if_pos h521] at h3
            rw [h3] at ho14 hr14
            simp only at ho14 hr14
            subst hr14
            clear ho14 h3
            have hd : decide ((body.length : Int) < 521) = true := decide_eq_true (by omega)
            go_wp2_with (first
              | (go_at_call 22; refine (alive18_calls _).mono ?_; rintro e w15 ⟨rfl, hb15⟩)
              | (go_at_call 23; refine (MayPart_calls t _).mono ?_; rw [hmp]; rintro e w16 ⟨rfl, rfl⟩))
            go_ret
            exact ⟨rfl, below_then hBx hBx.size hb15⟩
          · rw [if_neg h521] at h3
            have hTp := Lib.hid (take_parts hmp (by omega : body.length ≤ 60000) (by omega) behind)
            have hPl : (partsF t [9, 3, 0] body).1.length ≤ 4000 := by
              rw [h3]
              have := lenS_length (body.drop 521).length
              simp only [List.length_cons, List.length_append, List.length_take, List.length_drop] at this ⊢
              omega
            rw [h3] at hr14
            simp only at hr14
            subst hr14
            clear h3
            generalize (partsF t [9, 3, 0] body).1 = P at ho14 hTp hPl
            have hm14 := ho14.2
            have hem := empty8 wx
            have hal := ho14.bs.alloc (.cells #[] 5)
            go_wp2_with (first
              | (at_builtin; refine app8 (.tmp 123) (.tmp 124) rfl rfl rfl hem rfl hal (by omega) (by simp) ?_; intro A16 c16 w16 hown16 hg16 hat16; go_must (have hb16 := below_then hBx hBx.size (below_empty hg16); rw [List.nil_append, Nat.zero_add] at hown16; have hown16 := hown16.lower (B' := w.heap.size) hBx.size; have hh16 := hh.below hb16))
              | (at_builtin; refine app8 (.tmp 126) (.tmp 127) rfl rfl rfl hown16 rfl hh16 (by omega) hb16.size ?_; intro A17 c17 w17 hown17 hg17 hat17; go_must (have hb17 := hown16.grew hb16 hb16.size hg17))
              | (go_at_call 22; refine (alive18_calls _).mono ?_; rintro e w18 ⟨rfl, hb18⟩; go_must (have hB18 := below_then hb17 hb17.size hb18; have hl18 := h.below hB18; have hh18 := hh.below hB18; have hown18 := (hown17.below hb18).bs))
              | (go_at_call 25; refine (takes_calls hown18 (by omega) hl18 hh18 (t : Int) hTp.out).mono ?_; rintro e w19 ⟨rfl, hb19⟩))
            go_ret
            exact ⟨rfl, below_then hB18 hB18.size hb19⟩
    · have hta : tag < 0 ∨ 63 < tag := by
        rcases checkS_cases tag body.length 63 with ⟨_, h1⟩ | ⟨_, _, _, h1⟩ | ⟨h1, _⟩
        · omega
        · omega
        · exact absurd h1 hck
      have hH := Lib.hid (show headS tag body.length = ([], 1) by rw [headS, checkS_arg (by omega), if_neg (by decide)])
      clear hck hta
      go_enter Try.func10, Try.ntmps10
      go_wp2_with fail
      refine (Head_calls tag body.length w).mono ?_
      rintro e w1 ⟨A1, m1, c1, r1, rfl, ho1, hr1, hb1⟩
      rw [hH.out] at ho1 hr1
      simp only at ho1 hr1
      subst hr1
      obtain rfl : m1 = 0 := by have := ho1.2; simpa using this.symm
      go_wp2_with (go_at_call 22; refine (alive18_calls _).mono ?_; rintro e w2 ⟨rfl, hb2⟩)
      go_ret
      exact ⟨rfl, below_then hb1 hb1.size hb2⟩
end Go.Proofs.Ytcakdlfhmdkocaa
