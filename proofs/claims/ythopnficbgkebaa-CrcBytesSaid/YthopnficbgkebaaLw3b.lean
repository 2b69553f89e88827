/- A sum's bytes. -/
import Derived.Test.YthopnficbgkebaaLw3
import Derived.Deep.RegionHeld3
namespace Go.Proofs.Ythopnficbgkebaa
open Go.RowKit

/-- Block g is just these three bytes. -/
def B3 (w : World) (g : Nat) (a b c : UInt8) : Prop := w.heap[g]? = some (.cells #[.int .u8 (a.toNat : Int), .int .u8 (b.toNat : Int), .int .u8 (c.toNat : Int)] 33 (0, 0))
theorem B3.below {w w' : World} {g : Nat} {a b c : UInt8} (h : B3 w g a b c) (hb : Below w.heap.size w w') : B3 w' g a b c := (hb.block g (blk_lt h)).trans h
theorem B3.cells {w : World} {g : Nat} {a b c : UInt8} (h : B3 w g a b c) : w.cell? ⟨g, 0, none⟩ = some (.int .u8 (a.toNat : Int)) ∧ w.cell? ⟨g, 1, none⟩ = some (.int .u8 (b.toNat : Int)) ∧ w.cell? ⟨g, 2, none⟩ = some (.int .u8 (c.toNat : Int)) :=
  ⟨blk_cell h 0, blk_cell h 1, blk_cell h 2⟩

set_option maxHeartbeats 3200000 in
theorem CrcBytes_walk (x : Nat) (hx : x < 4294967296) (a b c : UInt8) (w : World) :
    Calls Try.prog 5 #[.int .u32 (x : Int), .agg #[.int .u8 (a.toNat : Int), .int .u8 (b.toNat : Int), .int .u8 (c.toNat : Int)]] w fun e w' => e = .returned (.bool true) ∧ Below w.heap.size w w' := by
  have hq := eql3
  have hE := by_rd3 a b c
  have c1 := fun W => Bytes_calls x W
  have c2 := fun W => rBytes_calls x W
  have c3 := fun W => Read_calls a b c W
  have c4 := fun W => rRead_calls a b c W
  have c5 := fun W => Bytes_calls (rd3 a b c) W
  rw [hE.1, hE.2.1, hE.2.2] at c5
  have c6 := fun W => Read_calls (by1 x) (by2 x) (by3 x) W
  rw [rd3_by] at c6
  unfold arr3 at c1 c2 c3 c4 c5 c6
  have C1 := Lib.hid c1
  have C2 := Lib.hid c2
  have C3 := Lib.hid c3
  have C4 := Lib.hid c4
  have C5 := Lib.hid c5
  have C6 := Lib.hid c6
  clear c1 c2 c3 c4 c5 c6 hE
  have hand := and_low hx
  have hh : B3 (w.alloc (.cells #[.int .u8 (a.toNat : Int), .int .u8 (b.toNat : Int), .int .u8 (c.toNat : Int)] 33)) w.heap.size a b c := heap_alloc_new w _
  have hbl : Below w.heap.size w (w.alloc (.cells #[.int .u8 (a.toNat : Int), .int .u8 (b.toNat : Int), .int .u8 (c.toNat : Int)] 33)) := (Below.refl _ _).alloc (Nat.le_refl _) _
  go_enter Try.func5, Try.ntmps5
  go_wp2_with fail
  obtain ⟨g, hg⟩ : ∃ g, g = w.heap.size := ⟨_, rfl⟩
  rw [← hg] at hh ⊢
  have Hg := Lib.hid hg
  clear hg
  generalize w.alloc (.cells #[.int .u8 (a.toNat : Int), .int .u8 (b.toNat : Int), .int .u8 (c.toNat : Int)] 33) = w0 at hh hbl ⊢
  have k0 := hh.cells
  have kk : w0.drew.cell? ⟨g, 0, none⟩ = some (.int .u8 (a.toNat : Int)) ∧ w0.drew.cell? ⟨g, 1, none⟩ = some (.int .u8 (b.toNat : Int)) ∧ w0.drew.cell? ⟨g, 2, none⟩ = some (.int .u8 (c.toNat : Int)) := hh.cells
  have hh : B3 w0.drew g a b c := hh
  have hbl : Below w.heap.size w w0.drew := hbl.drew
  go_region_held (fun w' => w'.cell? ⟨g, 0, none⟩ = some (.int .u8 (a.toNat : Int)) ∧ w'.cell? ⟨g, 1, none⟩ = some (.int .u8 (b.toNat : Int)) ∧ w'.cell? ⟨g, 2, none⟩ = some (.int .u8 (c.toNat : Int))) (first | exact k0 | exact kk) (first
    | (go_at_call 15; refine (alive3_calls _).mono ?_; rintro e w1 ⟨rfl, hb⟩; have hh := B3.below hh hb; have hbl := below_then hbl hbl.size hb; have kk := hh.cells)
    | (go_at_call 20; (with_reducible refine (C1.out _).mono ?_); rintro e w1 ⟨rfl, hb⟩; have hh := B3.below hh hb; have hbl := below_then hbl hbl.size hb; have kk := hh.cells)
    | (go_at_call 21; (with_reducible refine (C2.out _).mono ?_); rintro e w1 ⟨rfl, hb⟩; have hh := B3.below hh hb; have hbl := below_then hbl hbl.size hb; have kk := hh.cells)
    | (go_at_call 22; (with_reducible refine (C3.out _).mono ?_); rintro e w1 ⟨rfl, hb⟩; have hh := B3.below hh hb; have hbl := below_then hbl hbl.size hb; have kk := hh.cells)
    | (go_at_call 23; (with_reducible refine (C4.out _).mono ?_); rintro e w1 ⟨rfl, hb⟩; have hh := B3.below hh hb; have hbl := below_then hbl hbl.size hb; have kk := hh.cells)
    | (go_at_call 20; (with_reducible refine (C5.out _).mono ?_); rintro e w1 ⟨rfl, hb⟩; have hh := B3.below hh hb; have hbl := below_then hbl hbl.size hb; have kk := hh.cells)
    | (go_at_call 22; (with_reducible refine (C6.out _).mono ?_); rintro e w1 ⟨rfl, hb⟩; have hh := B3.below hh hb; have hbl := below_then hbl hbl.size hb; have kk := hh.cells))
  go_wp2
  go_ret
  exact ⟨rfl, hbl⟩
end Go.Proofs.Ythopnficbgkebaa
