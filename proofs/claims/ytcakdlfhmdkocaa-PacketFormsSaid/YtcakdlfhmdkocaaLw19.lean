/- The statements of layer 19: alive; joining. -/
import Derived.Test.YtcakdlfhmdkocaaPs
import Derived.Test.YtcakdlfhmdkocaaPl
import Derived.Test.YtcakdlfhmdkocaaPn
import Derived.Test.YtcakdlfhmdkocaaPe
import Derived.Lib.SlBytesConst
namespace Go.Proofs.Ytcakdlfhmdkocaa
open Go.RowKit

theorem cleanT_len : ∀ (ps out : List (Int × List UInt8)), (cleanT ps out).1.length ≤ out.length + ps.length
  | [], out => by simp [cleanT]
  | p :: ps, out => by
    rw [cleanT]
    split
    · have := cleanT_len ps out
      simp only [List.length_cons]; omega
    · split
      · have := cleanT_len ps (out ++ [p])
        simp only [List.length_append, List.length_cons, List.length_nil] at this ⊢; omega
      · simp
theorem cleanF_len (ps : List (Int × List UInt8)) : (cleanF ps).1.length ≤ ps.length := by
  rw [cleanF]
  split
  · simp
  · have := cleanT_len ps []
    simpa using this

theorem bs_mark (w : World) (cs : Array Value) (l : List UInt8) (f : Nat × Nat) (hcs : cs.toList = bvs l) (m : Nat) (hm : l.length = m) (hm2 : m ≤ 140737488355328) : Bs (w.alloc (.cells cs 5 f)) (some ⟨w.heap.size, 0, none⟩) m m l := by
  have hnew := heap_alloc_new w (.cells cs 5 f)
  refine ⟨⟨by simp [hm], by simp only [maxLen]; omega, fun hn => ⟨_, rfl, by simp, fun j u hu => ?_⟩⟩, hm⟩
  have := cell_of_row (w.alloc (.cells cs 5 f)) w.heap.size j cs 5 f hnew
  have he : (⟨w.heap.size, 0, none⟩ : Addr).add j = ⟨w.heap.size, j, none⟩ := by
    unfold Addr.add; split
    · rename_i h0; rw [h0]
    · simp
  rw [he, this, ← Array.getElem?_toList, hcs]
  exact hu

/-- A block of one packet's cells reads as that packet. -/
theorem Ps.one {w : World} {g : Nat} {tag : Int} {Ak : Option Addr} {nk ck : Nat} {body : List UInt8} (h : w.heap[g]? = some (.cells #[.int .i64 tag, .slice Ak nk ck] 61 (0, 0))) (hb : Bs w Ak nk ck body) :
    Ps w (some ⟨g, 0, none⟩) 1 [(tag, body)] := by
  refine ⟨rfl, fun k hk => ?_⟩
  obtain rfl : k = 0 := by simpa using hk
  exact ⟨g, 0, Ak, nk, ck, rfl, blk_lt h, blk_cell h 0, blk_cell h 1, hb⟩

set_option maxRecDepth 100000 in
set_option maxHeartbeats 3200000 in
theorem alive19_calls (w : World) : Calls Try.prog 36 #[] w fun e w' => e = .returned (.bool true) ∧ Below w.heap.size w w' := by
  have t1 := Lib.hid (show splitF [205, 1, 65, 202, 3, 80, 71, 80] = ([(13, [65]), (10, [80, 71, 80])], 0) by decide +kernel)
  have t2 := Lib.hid (show cleanF [(13, [65]), (10, [80, 71, 80])] = ([(13, [65])], 0) by decide +kernel)
  have t3 := Lib.hid (show cleanF [(1, [])] = ([], 8) by decide +kernel)
  have kc := fun (w : World) (C : Array Value) (n c : Nat) => Lib.run_convert_bytes_const (P := Try.prog) w 22 5 C n c Try.underlying22 Try.underlying5
  have hlit := bs_mark w #[.int .u8 205, .int .u8 1, .int .u8 65, .int .u8 202, .int .u8 3, .int .u8 80, .int .u8 71, .int .u8 80] [205, 1, 65, 202, 3, 80, 71, 80] (8, 9) rfl 8 rfl (by omega)
  have hB0 := (Below.refl w.heap.size w).alloc (Nat.le_refl _) (.cells #[.int .u8 205, .int .u8 1, .int .u8 65, .int .u8 202, .int .u8 3, .int .u8 80, .int .u8 71, .int .u8 80] 5 (8, 9))
  go_enter Try.func36, Try.ntmps36
  go_wp2_with fail
  generalize w.alloc (.cells #[.int .u8 205, .int .u8 1, .int .u8 65, .int .u8 202, .int .u8 3, .int .u8 80, .int .u8 71, .int .u8 80] 5 (8, 9)) = w0 at hlit hB0 ⊢
  refine (Split_calls hlit).mono ?_
  rintro e w1 ⟨A1, m1, c1, r1, rfl, ho1, hr1, hb1⟩
  rw [t1.out] at ho1 hr1
  simp only at ho1 hr1
  subst hr1
  obtain rfl : 2 = m1 := ho1.len
  have hB1 := below_then hB0 hB0.size hb1
  go_wp2_with fail
  refine (Clean_calls ho1.ps (by omega) (by simp)).mono ?_
  rintro e w2 ⟨A2, m2, c2, r2, rfl, ho2, hr2, hb2⟩
  rw [t2.out] at ho2 hr2
  simp only at ho2 hr2
  subst hr2
  obtain rfl : 1 = m2 := ho2.len
  have hB2 := below_then hB1 hB1.size hb2
  clear ho1
  go_wp2_with fail
  have hnew := heap_alloc_new w2 (.cells #[.int .i64 1, .slice none 0 0] 61)
  have hB3 := hB2.alloc hB2.size (.cells #[.int .i64 1, .slice none 0 0] 61)
  have ho3 := ho2.below ((Below.refl w2.heap.size w2).alloc (Nat.le_refl _) (.cells #[.int .i64 1, .slice none 0 0] 61))
  generalize w2.alloc (.cells #[.int .i64 1, .slice none 0 0] 61) = w3 at hnew hB3 ho3 ⊢
  refine (Clean_calls (Ps.one hnew (Bs.nil_ _)) (by omega) (by simp)).mono ?_
  rintro e w4 ⟨A4, m4, c4, r4, rfl, ho4, hr4, hb4⟩
  rw [t3.out] at hr4
  simp only at hr4
  subst hr4
  have hB4 := below_then hB3 hB3.size hb4
  obtain ⟨b, off, Ak, nk, ck, rfl, hbl, q0, q1, hbs⟩ := (ho3.below hb4).ps.2 0 (by simp)
  simp only [Nat.zero_mul, Nat.add_zero, List.getElem_cons_zero] at q0 q1
  clear ho2 ho3 ho4 hnew hlit q1 hbs
  go_wp2
  go_ret
  exact ⟨rfl, hB4⟩
end Go.Proofs.Ytcakdlfhmdkocaa
