/- The statements of layer 24: LiteralEmit. -/
import Derived.Test.YtegbncngencfnaaLw24
namespace Go.Proofs.Ytegbncngencfnaa
open Go.RowKit

set_option maxRecDepth 100000 in
set_option maxHeartbeats 3200000 in
theorem LiteralEmit_walk (x : UInt8) {An Ad : Option Addr} {nn cn nd cd d : Nat} {name data : List UInt8} {w : World} (hn : Bs w An nn cn name) (hd : d < 4294967296) (hx : Bs w Ad nd cd data) :
    Calls Try.prog 6 #[.agg #[.int .u8 (x.toNat : Int), .slice An nn cn, .int .u32 (d : Int), .slice Ad nd cd]] w fun e w' => e = .returned (.bool true) ∧ Below w.heap.size w w' := by
  have hnew := heap_alloc_new w (.cells #[.int .u8 (x.toNat : Int), .slice An nn cn, .int .u32 (d : Int), .slice Ad nd cd] 35)
  have hba := (Below.refl w.heap.size w).alloc (Nat.le_refl _) (.cells #[.int .u8 (x.toNat : Int), .slice An nn cn, .int .u32 (d : Int), .slice Ad nd cd] 35)
  have HD := Lib.hid hd
  have HAl := Lib.hid (fun W => alive24_calls W)
  go_enter Try.func6, Try.ntmps6
  by_cases h1 : 600 < nn
  · have hd1 : decide ((600 : Int) < (nn : Int)) = true := decide_eq_true (by omega)
    go_wp2_with (go_at_call 18; refine (HAl.out _).mono ?_; rintro e w2 ⟨rfl, hb2⟩)
    go_ret
    exact ⟨rfl, below_then hba hba.size hb2⟩
  have hd1 : decide ((600 : Int) < (nn : Int)) = false := decide_eq_false (by omega)
  by_cases h2 : 600 < nd
  · have hd2 : decide ((600 : Int) < (nd : Int)) = true := decide_eq_true (by omega)
    go_wp2_with (go_at_call 18; refine (HAl.out _).mono ?_; rintro e w2 ⟨rfl, hb2⟩)
    go_ret
    exact ⟨rfl, below_then hba hba.size hb2⟩
  have hd2 : decide ((600 : Int) < (nd : Int)) = false := decide_eq_false (by omega)
  have H2 := Lib.hid (show nd ≤ 100000 by omega)
  go_wp2_with fail
  generalize hw1 : w.alloc (.cells #[.int .u8 (x.toNat : Int), .slice An nn cn, .int .u32 (d : Int), .slice Ad nd cd] 35) = w1 at hnew hba ⊢
  clear hw1 h1 h2 hd1 hd2
  refine (Emit24_calls x (hn.below hba) d HD.out (hx.below hba) H2.out).mono ?_
  rintro e w2 ⟨A2, m2, c2, r2, rfl, ho2, rfl, hb2⟩
  have hn2 := (hb2.block w.heap.size (blk_lt hnew)).trans hnew
  have hB2 := below_then hba hba.size hb2
  have k0 := blk_cell hn2 0
  have k1 : w2.cell? ⟨w.heap.size, 1, none⟩ = some (.slice An nn cn) := blk_cell hn2 1
  have k2 : w2.cell? ⟨w.heap.size, 2, none⟩ = some (.int .u32 (d : Int)) := blk_cell hn2 2
  have k3 : w2.cell? ⟨w.heap.size, 3, none⟩ = some (.slice Ad nd cd) := blk_cell hn2 3
  clear hnew hb2
  go_wp2_with fail
  refine (lit_calls (x.toNat : Int) An nn cn (d : Int) Ad nd cd w2).mono ?_
  rintro e w3 ⟨rfl, hb3⟩
  have hB3 := below_then hB2 hB2.size hb3
  have ho3 := ho2.below hb3
  clear k0 k1 k2 k3 hn2 hB2 hb3 ho2
  go_wp2_with fail
  refine (rEmit24_calls x (hn.below hB3) d HD.out (hx.below hB3) H2.out).mono ?_
  rintro e w4 ⟨A4, m4, c4, r4, rfl, ho4, rfl, hb4⟩
  have hB4 := below_then hB3 hB3.size hb4
  have ho5 := ho3.below hb4
  clear ho3 hb4 hB3
  go_wp2_with (go_at_call 18; refine (HAl.out _).mono ?_; rintro e w5 ⟨rfl, hb5⟩; have s1 := (ho5.below hb5).bs.str; have s2 := (ho4.below hb5).bs.str)
  go_ret
  exact ⟨rfl, below_then hB4 hB4.size hb5⟩
end Go.Proofs.Ytegbncngencfnaa
