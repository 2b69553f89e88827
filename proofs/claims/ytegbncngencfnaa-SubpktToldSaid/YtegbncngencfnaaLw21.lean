/- The statements of layer 21: alive; SubpktParse. -/
import Derived.Test.YtegbncngencfnaaSg
import Derived.Test.YtegbncngencfnaaSh
namespace Go.Proofs.Ytegbncngencfnaa
open Go.RowKit

theorem Ss.one {w : World} {g : Nat} {tag : Int} {cr : Bool} {Ak : Option Addr} {nk ck : Nat} {body : List UInt8} (h : w.heap[g]? = some (.cells #[.int .i64 tag, .bool cr, .slice Ak nk ck] 78 (0, 0))) (hb : Bs w Ak nk ck body) :
    Ss w (some ⟨g, 0, none⟩) 1 [(tag, cr, body)] := by
  refine ⟨rfl, fun k hk => ?_⟩
  obtain rfl : k = 0 := by simpa using hk
  exact ⟨g, 0, Ak, nk, ck, rfl, blk_lt h, blk_cell h 0, blk_cell h 1, blk_cell h 2, hb⟩

set_option maxRecDepth 100000 in
set_option maxHeartbeats 3200000 in
theorem alive21_calls (w : World) : Calls Try.prog 12 #[] w fun e w' => e = .returned (.bool true) ∧ Below w.heap.size w w' := by
  have t1 := Lib.hid (show emitF [(2, true, [0, 0, 0, 9])] = ([5, 130, 0, 0, 0, 9], 0) by decide +kernel)
  have t2 := Lib.hid (show parseF [0] = ([], 3) by decide +kernel)
  have t3 := Lib.hid (show firstS 27 [] = -1 by decide +kernel)
  have t4 := Lib.hid (show hardS [] = true by decide +kernel)
  have hlit := own_lit w #[.int .u8 0, .int .u8 0, .int .u8 0, .int .u8 9] [0, 0, 0, 9] rfl 4 rfl (by omega)
  have hB0 := (Below.refl w.heap.size w).alloc (Nat.le_refl _) (.cells #[.int .u8 0, .int .u8 0, .int .u8 0, .int .u8 9] 5)
  have kstr : ({ data := #[5, 130, 0, 0, 0, 9] } : ByteArray) = strOf [5, 130, 0, 0, 0, 9] := by rfl
  go_enter Try.func12, Try.ntmps12
  go_wp2_with fail
  have hsz : (w.alloc (.cells #[.int .u8 0, .int .u8 0, .int .u8 0, .int .u8 9] 5)).heap.size = w.heap.size + 1 := by simp
  generalize w.alloc (.cells #[.int .u8 0, .int .u8 0, .int .u8 0, .int .u8 9] 5) = w0 at hlit hB0 hsz ⊢
  have hnew := heap_alloc_new w0 (.cells #[.int .i64 2, .bool true, .slice (some ⟨w.heap.size, 0, none⟩) 4 4] 78)
  have hB1 := hB0.alloc hB0.size (.cells #[.int .i64 2, .bool true, .slice (some ⟨w.heap.size, 0, none⟩) 4 4] 78)
  have hbs1 := (hlit.alloc_ (.cells #[.int .i64 2, .bool true, .slice (some ⟨w.heap.size, 0, none⟩) 4 4] 78)).bs
  rw [hsz] at hnew
  generalize w0.alloc (.cells #[.int .i64 2, .bool true, .slice (some ⟨w.heap.size, 0, none⟩) 4 4] 78) = w1 at hnew hB1 hbs1 ⊢
  refine (Emit_calls (Ss.one hnew hbs1) (by omega) (by simp)).mono ?_
  rintro e w2 ⟨A2, m2, c2, r2, rfl, ho2, hr2, hb2⟩
  rw [t1.out] at ho2 hr2
  simp only at ho2 hr2
  subst hr2
  have hB2 := below_then hB1 hB1.size hb2
  clear hlit hB0 hsz hnew hB1 hbs1
  go_wp2_with fail
  have hlit := own_lit w2 #[.int .u8 0] [0] rfl 1 rfl (by omega)
  have hbL := (Below.refl w2.heap.size w2).alloc (Nat.le_refl _) (.cells #[.int .u8 0] 5)
  have hB3 := below_then hB2 hB2.size hbL
  have ho3 := ho2.below hbL
  generalize w2.alloc (.cells #[.int .u8 0] 5) = w3 at hlit hbL hB3 ho3 ⊢
  refine (Parse_calls hlit.bs).mono ?_
  rintro e w4 ⟨A4, m4, c4, r4, rfl, ho4, hr4, hb4⟩
  rw [t2.out] at hr4
  simp only at hr4
  subst hr4
  have hB4 := below_then hB3 hB3.size hb4
  have s1 := (ho3.below hb4).bs.str
  have HU := Lib.hid (fun W => Uses_calls (c := 0) (Ss.nil_ W none) (by omega) (by simp))
  have HH := Lib.hid (fun W => Hard_calls (c := 0) (Ss.nil_ W none) (by omega) (by simp))
  clear hlit hbL hB3 ho3 ho4 ho2
  go_wp2_with (first
    | (go_at_call 37; refine (HU.out w4).mono ?_; rw [t3.out]; rintro e w5 ⟨rfl, hb5⟩)
    | (go_at_call 39; refine (HH.out w5).mono ?_; rw [t4.out]; rintro e w6 ⟨rfl, hb6⟩))
  go_ret
  exact ⟨rfl, below_then (below_then hB4 hB4.size hb5) (below_then hB4 hB4.size hb5).size hb6⟩

theorem parseT_len : ∀ (f : Nat) (acc : List SubV) (b : List UInt8), acc.length ≤ 40 → (parseT f acc b).1.length ≤ 40
  | 0, acc, b, h => h
  | f + 1, acc, b, h => by
    rw [parseT]
    split
    · exact h
    · split
      · simp
      · split
        · exact parseT_len f _ _ (by simp; omega)
        · simp
theorem parseF_len (b : List UInt8) : (parseF b).1.length ≤ 40 := by
  rw [parseF]
  split
  · simp
  · exact parseT_len _ _ _ (by simp)

set_option maxRecDepth 100000 in
set_option maxHeartbeats 3200000 in
theorem SubpktParse_walk {A : Option Addr} {n c : Nat} {l : List UInt8} {w : World} (h : Bs w A n c l) :
    Calls Try.prog 3 #[.slice A n c] w fun e w' => e = .returned (.bool true) ∧ Below w.heap.size w w' := by
  by_cases h41 : 4100 < n
  · have hd : decide ((4100 : Int) < (n : Int)) = true := decide_eq_true (by omega)
    clear h41
    go_enter Try.func3, Try.ntmps3
    go_wp2_with (go_at_call 12; refine (alive21_calls _).mono ?_; rintro e w1 ⟨rfl, hb1⟩)
    go_ret
    exact ⟨rfl, hb1⟩
  · have hd : decide ((4100 : Int) < (n : Int)) = false := decide_eq_false (by omega)
    have hn : 0 + n ≤ 140737488355328 := by omega
    have HN := Lib.hid hn
    clear h41 hn
    have hlit := own_lit w #[] [] rfl 0 rfl (by omega)
    have hbE := (Below.refl w.heap.size w).alloc (Nat.le_refl _) (.cells #[] 5)
    go_enter Try.func3, Try.ntmps3
    go_wp2_with (at_builtin; refine app8 (.tmp 12) (.tmp 13) rfl rfl rfl hlit rfl (h.below hbE) HN.out hbE.size ?_; intro A1 c1 w1 ho1 hg1 hat1)
    have hB1 : Below w.heap.size w w1 := hbE.grown hg1 hbE.size (fun i e => by cases e; exact Nat.le_refl _)
    have ho1 : Own w1 w.heap.size A1 n c1 l := own_zero ho1
    clear hlit hbE hg1 hat1
    refine (Parse_calls ho1.bs).mono ?_
    rintro e w2 ⟨A2, m2, c2, r2, rfl, ho2, hr2, hb2⟩
    have hB2 := below_then hB1 hB1.size hb2
    have HR2 := Lib.hid hr2
    clear hr2
    go_wp2_with fail
    refine (rParse_calls (h.below hB2)).mono ?_
    rintro e w3 ⟨A3, m3, c3, r3, rfl, ho3, hr3, hb3⟩
    obtain rfl : r2 = r3 := HR2.out.trans hr3.symm
    have hB3 := below_then hB2 hB2.size hb3
    clear hr3
    go_wp2_with fail
    refine (alive21_calls _).mono ?_
    rintro e w4 ⟨rfl, hb4⟩
    have hB4 := below_then hB3 hB3.size hb4
    have p2 := ((ho2.below hb3).below hb4).ss
    have p3 := (ho3.below hb4).ss
    have hm2 : m2 ≤ 9223372036854775807 := by have := p2.1; have := parseF_len l; omega
    have s0 := fun W (hW : Below w4.heap.size w4 W) => ((((ho1.below hb2).below hb3).below hb4).below hW).bs.str
    have s1 := fun W (hW : Below w4.heap.size w4 W) => (h.below (below_then hB4 hB4.size hW)).str
    have HS := Lib.hid (Same21_calls (c := c2) (d := c3) p2 p3 hm2)
    clear p2 p3 hm2 ho1 ho2 ho3
    go_wp2_with (go_at_call 15; refine HS.out.mono ?_; rintro e w5 ⟨rfl, hb5⟩; have s2 := s0 _ hb5; have s3 := s1 _ hb5)
    go_ret
    exact ⟨rfl, below_then hB4 hB4.size hb5⟩
end Go.Proofs.Ytegbncngencfnaa
