/- The statements of layer 20: alive, MpiPut. -/
import Derived.Test.YtcakdlfhmdkocaaMu
import Derived.Test.YtcakdlfhmdkocaaMx
import Derived.Test.YtcakdlfhmdkocaaFs
namespace Go.Proofs.Ytcakdlfhmdkocaa
open Go.RowKit

theorem nr_lit (w : World) (cs : Array Value) (xs : List Nat) (hcs : cs.toList = nvs .u32 xs) (m : Nat) (hm : xs.length = m) (hm2 : m ≤ 1000) : Nr (w.alloc (.cells cs 63)) .u32 (some ⟨w.heap.size, 0, none⟩) m m xs := by
  have hnew := heap_alloc_new w (.cells cs 63)
  refine ⟨⟨by simp [hm], by simp only [maxLen]; omega, fun hn => ⟨_, rfl, by simp, fun j u hu => ?_⟩⟩, hm⟩
  have := cell_of_row (w.alloc (.cells cs 63)) w.heap.size j cs 63 (0, 0) hnew
  have he : (⟨w.heap.size, 0, none⟩ : Addr).add j = ⟨w.heap.size, j, none⟩ := by
    unfold Addr.add; split
    · rename_i h0; rw [h0]
    · simp
  rw [he, this, ← Array.getElem?_toList, hcs]
  exact hu

theorem alive20_put : mputS [] (num 4294967296 [511]) = ([0, 9, 1, 255], 0) := by
  have hn : nbits 511 = 9 := nbits_of (k := 8) (by decide) (by decide)
  have e : num 4294967296 [511] = 511 := by decide
  have hl : nlen 511 = 2 := by unfold nlen; rw [hn]
  rw [e, mputS, hn, if_neg (by decide), bytesN, hl]
  decide
theorem alive20_take : (mTakeF [0, 9, 0, 255]).2.2 = 3 := by
  have hn : nbits 255 = 8 := nbits_of (k := 7) (by decide) (by decide)
  have e1 : nb (([0, 9, 0, 255] : List UInt8).take 2) = 9 := by decide
  have e2 : nb ((([0, 9, 0, 255] : List UInt8).drop 2).take 2) = 255 := by decide
  rw [mTakeF_eq]
  unfold rTakeF
  rw [e1, if_neg (by decide), if_neg (by decide), if_neg (by decide)]
  rw [show (9 + 7) / 8 = 2 from rfl, e2, hn, if_pos (by decide)]

set_option maxRecDepth 100000 in
set_option maxHeartbeats 1600000 in
theorem alive20_calls (w : World) : Calls Try.prog 14 #[] w fun e w' => e = .returned (.bool true) ∧ Below w.heap.size w w' := by
  have hb0 := (Below.refl w.heap.size w).alloc (Nat.le_refl _) (.cells #[.int .u32 511] 63)
  have hlit := nr_lit w #[.int .u32 511] [511] rfl 1 rfl (by omega)
  go_enter Try.func14, Try.ntmps14
  go_wp2_with fail
  generalize w.alloc (.cells #[.int .u32 511] 63) = w1 at hb0 hlit ⊢
  refine (mPut_calls (Bs.nil_ w1) (by omega) hlit (fun x hx => by rw [List.mem_singleton.1 hx]; decide) (by omega)).mono ?_
  rintro e w2 ⟨A2, n2, c2, r2, rfl, ho2, hr2, hb2⟩
  rw [alive20_put] at ho2 hr2
  simp only at ho2 hr2
  subst hr2
  have hB2 := below_then hb0 hb0.size hb2
  clear hlit
  go_wp2_with fail
  have hl3 := own_lit w2 #[.int .u8 0, .int .u8 9, .int .u8 0, .int .u8 255] [0, 9, 0, 255] rfl 4 rfl (by omega)
  have hB3 := hB2.alloc hB2.size (.cells #[.int .u8 0, .int .u8 9, .int .u8 0, .int .u8 255] 5)
  have ho3 := ho2.alloc_ (.cells #[.int .u8 0, .int .u8 9, .int .u8 0, .int .u8 255] 5)
  generalize w2.alloc (.cells #[.int .u8 0, .int .u8 9, .int .u8 0, .int .u8 255] 5) = w3 at hl3 hB3 ho3 ⊢
  refine (mTake_calls hl3.bs (by omega)).mono ?_
  rintro e w4 ⟨A4, n4, c4, A5, n5, c5, r4, rfl, hN4, ho4, hr4, hb4⟩
  rw [alive20_take] at hr4
  subst hr4
  have s1 : (convert 22 9 (.slice A2 n2 c2)).run Try.prog w4 = .ok (.string ⟨#[0, 9, 1, 255]⟩) w4 := (ho3.below hb4).bs.str
  have hB4 := below_then hB3 hB3.size hb4
  clear ho2 ho3 ho4 hN4 hl3
  go_wp2
  go_ret
  exact ⟨rfl, hB4⟩

set_option maxRecDepth 100000 in
set_option maxHeartbeats 1600000 in
theorem MpiPut_walk {A D : Option Addr} {n c m d : Nat} {l : List UInt8} {xs : List Nat} {w : World} (h : Bs w A n c l) (h2 : Nr w .u32 D m d xs) (hlo : Lo 4294967296 xs) :
    Calls Try.prog 3 #[.slice A n c, .slice D m d] w fun e w' => e = .returned (.bool true) ∧ Below w.heap.size w w' := by
  by_cases h1 : 300 < n
  · go_enter Try.func3, Try.ntmps3
    go_wp2_with (go_at_call 14; refine (alive20_calls _).mono ?_; rintro e w1 ⟨rfl, hb1⟩)
    go_ret
    exact ⟨rfl, hb1⟩
  · by_cases h3 : 520 < m
    · have h1' : n ≤ 300 := by omega
      go_enter Try.func3, Try.ntmps3
      go_wp2_with (go_at_call 14; refine (alive20_calls _).mono ?_; rintro e w1 ⟨rfl, hb1⟩)
      go_ret
      exact ⟨rfl, hb1⟩
    · have h1' : n ≤ 300 := by omega
      have h3' : m ≤ 520 := by omega
      clear h1 h3
      have hmk : ∀ W : World, (Instr.makeSlice 22 (.int .i64 0) (.int .i64 ((n : Int) + 9))).run Try.prog W = .ok (.slice (some ⟨W.heap.size, 0, none⟩) 0 (n + 9)) (W.alloc (.cells (zcells (n + 9)) 5)) := run_make8 0 (n + 9) (by omega) (by omega) ((n : Int) + 9) (by omega)
      have hm0 := Own.made w w.heap.size 0 (n + 9) (Nat.le_refl _) (by omega) (by omega)
      have hb0 := (Below.refl w.heap.size w).alloc (Nat.le_refl _) (.cells (zcells (n + 9)) 5)
      have hl0 := h.below hb0
      simp only [List.replicate_zero] at hm0
      go_enter Try.func3, Try.ntmps3
      go_wp2_with (at_builtin; go_must (refine app8 (.tmp 23) (.tmp 24) rfl rfl rfl hm0 rfl hl0 (by omega) hb0.size ?_); intro A1 c1 w1 hown1 hg1 hat1)
      rw [List.nil_append, Nat.zero_add] at hown1
      have hb1 := hm0.grew hb0 hb0.size hg1
      clear hmk hm0 hl0 hb0 hg1 hat1
      refine (mPut_calls hown1.bs (by omega) (h2.below hb1) hlo (by omega)).mono ?_
      rintro e w2 ⟨A2, n2, c2, r2, rfl, ho2, hr2, hb2⟩
      have Hr2 := Lib.hid hr2
      clear hr2
      have hB2 := below_then hb1 hb1.size hb2
      go_wp2_with fail
      refine (rmPut_calls (h.below hB2) (by omega) (h2.below hB2) hlo (by omega)).mono ?_
      rintro e w3 ⟨A3, n3, c3, r3, rfl, ho3, hr3, hb3⟩
      obtain rfl : r2 = r3 := Hr2.out.trans hr3.symm
      clear hr3
      have hB3 := below_then hB2 hB2.size hb3
      go_wp2_with fail
      refine (alive20_calls w3).mono ?_
      rintro e w4 ⟨rfl, hb4⟩
      have hB4 := below_then hB3 hB3.size hb4
      have s1 := ((ho2.below hb3).below hb4).bs.str
      have s2 := (ho3.below hb4).bs.str
      have s3 := (((hown1.below hb2).below hb3).below hb4).bs.str
      have s4 := (h.below hB4).str
      clear ho2 ho3 hown1
      go_wp2
      all_goals
        go_ret
        exact ⟨by simp, hB4⟩
end Go.Proofs.Ytcakdlfhmdkocaa
