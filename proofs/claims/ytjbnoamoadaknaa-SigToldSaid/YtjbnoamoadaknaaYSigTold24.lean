import Derived.Test.YtjbnoamoadaknaaYSigTold22
import Derived.Test.YtjbnoamoadaknaaYSigTold23
import Derived.Test.YtjbnoamoadaknaaYSigTold16
/- The statements of layer 22: SigEmit. -/
section
namespace Go.Proofs.Ytjbnoamoadaknaa
open Go.RowKit

theorem sigL_of_small {s : SigV} (h : (s.hs.length ≤ 60 ∧ ∀ x ∈ s.hs, x.2.2.length ≤ 5000) ∧ (s.us.length ≤ 60 ∧ ∀ x ∈ s.us, x.2.2.length ≤ 5000) ∧ s.salt.length ≤ 100 ∧ s.value.length ≤ 2100) : SigL s :=
  ⟨Nat.le_trans h.1.1 (by decide), fun x hx => Nat.le_trans (h.1.2 x hx) (by decide), Nat.le_trans h.2.1.1 (by decide), fun x hx => Nat.le_trans (h.2.1.2 x hx) (by decide), Nat.le_trans h.2.2.1 (by decide), Nat.le_trans h.2.2.2 (by decide)⟩

set_option maxRecDepth 100000 in
set_option maxHeartbeats 3200000 in
theorem SigEmit_walk {s : SigV} {a : SigA} (alg : Int) {w : World} (h : SigR w s a) (hb : SigB s a 140737488355328) :
    Calls Try.prog 4 #[.agg (sigC s a), .int .i64 alg] w fun e w' => e = .returned (.bool true) ∧ Below w.heap.size w w' := by
  have HAl := Lib.hid (fun W => alive22_calls W)
  have HR := Lib.hid h
  have HSm := Lib.hid (fun W (hW : Below w.heap.size w W) => Small_calls (h.below hW) hb)
  have HEm := Lib.hid (fun W (hW : Below w.heap.size w W) (hL : SigL s) => EmitG_calls (h.below hW) hL)
  have HRe := Lib.hid (fun W (hW : Below w.heap.size w W) (hL : SigL s) => rEmitG_calls (h.below hW) hL)
  have HHa := Lib.hid (fun W (hW : Below w.heap.size w W) (hL : SigL s) => Hashed_calls (h.below hW) hL)
  have HRh := Lib.hid (fun W (hW : Below w.heap.size w W) (hL : SigL s) => rHashed_calls (h.below hW) hL)
  have HS1 := Lib.hid (fun W => SaltSize_calls alg W)
  have HS2 := Lib.hid (fun W => rSaltSize_calls alg W)
  unfold HashedPost at HEm HRe HHa HRh
  generalize emitG s = X at HEm HRe
  generalize hashedG s = Y at HHa HRh
  generalize saltS alg = sz at HS1 HS2
  obtain ⟨em, er⟩ := X
  obtain ⟨hm, hr⟩ := Y
  simp only at HEm HRe HHa HRh
  clear h hb
  go_enter Try.func4, Try.ntmps4
  go_upto_region 1 with fail
  go_name_world w1 hw1
  have H1 : Box w w1 27 (sigC s a) := Box.mk_ hw1
  clear hw1
  have B1 := Lib.hid H1
  have k0 : w1.cell? ⟨w.heap.size, 0, none⟩ = some (.int .i64 s.ve) := H1.cell 0
  have k1 : w1.cell? ⟨w.heap.size, 1, none⟩ = some (.int .i64 s.ty) := H1.cell 1
  have k2 : w1.cell? ⟨w.heap.size, 2, none⟩ = some (.int .i64 s.pu) := H1.cell 2
  have k3 : w1.cell? ⟨w.heap.size, 3, none⟩ = some (.int .i64 s.ha) := H1.cell 3
  have k4 : w1.cell? ⟨w.heap.size, 4, none⟩ = some (.slice a.A4 a.n4 a.c4) := H1.cell 4
  have k5 : w1.cell? ⟨w.heap.size, 5, none⟩ = some (.slice a.A5 a.n5 a.c5) := H1.cell 5
  have k6 : w1.cell? ⟨w.heap.size, 6, none⟩ = some (.int .u8 (s.l0.toNat : Int)) := H1.cell 6
  have k7 : w1.cell? ⟨w.heap.size, 7, none⟩ = some (.int .u8 (s.l1.toNat : Int)) := H1.cell 7
  have k8 : w1.cell? ⟨w.heap.size, 8, none⟩ = some (.slice a.A8 a.n8 a.c8) := H1.cell 8
  have k9 : w1.cell? ⟨w.heap.size, 9, none⟩ = some (.slice a.A9 a.n9 a.c9) := H1.cell 9
  clear H1
  go_wp2_with fail
  refine (HSm.out w1 B1.out.B).mono ?_
  rintro e w2 ⟨⟨r, rfl, hr⟩, hb2⟩
  have B2 := Lib.hid (B1.out.below hb2)
  have HL := Lib.hid (fun h => sigL_of_small (hr h))
  clear hr hb2 k0 k1 k2 k3 k4 k5 k6 k7 k8 k9 B1
  have k0 : w2.cell? ⟨w.heap.size, 0, none⟩ = some (.int .i64 s.ve) := B2.out.cell 0
  have k1 : w2.cell? ⟨w.heap.size, 1, none⟩ = some (.int .i64 s.ty) := B2.out.cell 1
  have k2 : w2.cell? ⟨w.heap.size, 2, none⟩ = some (.int .i64 s.pu) := B2.out.cell 2
  have k3 : w2.cell? ⟨w.heap.size, 3, none⟩ = some (.int .i64 s.ha) := B2.out.cell 3
  have k4 : w2.cell? ⟨w.heap.size, 4, none⟩ = some (.slice a.A4 a.n4 a.c4) := B2.out.cell 4
  have k5 : w2.cell? ⟨w.heap.size, 5, none⟩ = some (.slice a.A5 a.n5 a.c5) := B2.out.cell 5
  have k6 : w2.cell? ⟨w.heap.size, 6, none⟩ = some (.int .u8 (s.l0.toNat : Int)) := B2.out.cell 6
  have k7 : w2.cell? ⟨w.heap.size, 7, none⟩ = some (.int .u8 (s.l1.toNat : Int)) := B2.out.cell 7
  have k8 : w2.cell? ⟨w.heap.size, 8, none⟩ = some (.slice a.A8 a.n8 a.c8) := B2.out.cell 8
  have k9 : w2.cell? ⟨w.heap.size, 9, none⟩ = some (.slice a.A9 a.n9 a.c9) := B2.out.cell 9
  by_cases hr : r = true
  rotate_left
  · obtain rfl : r = false := by simpa using hr
    clear hr
    go_wp2_with (go_at_call 7; refine (HAl.out _).mono ?_; rintro e w20 ⟨rfl, hb20⟩)
    go_ret
    exact ⟨rfl, below_then B2.out.B B2.out.B.size hb20⟩
  subst hr
  have HL2 := Lib.hid (HL.out rfl)
  clear HL
  go_wp2_with fail
  refine (HEm.out w2 B2.out.B HL2.out).mono ?_
  rintro e w3 ⟨A3, m3, c3, r3, rfl, ho3, rfl, hb3⟩
  have B3 := Lib.hid (B2.out.below hb3)
  have O3 := Lib.hid ho3
  clear hb3 ho3 k0 k1 k2 k3 k4 k5 k6 k7 k8 k9 B2
  have k0 : w3.cell? ⟨w.heap.size, 0, none⟩ = some (.int .i64 s.ve) := B3.out.cell 0
  have k1 : w3.cell? ⟨w.heap.size, 1, none⟩ = some (.int .i64 s.ty) := B3.out.cell 1
  have k2 : w3.cell? ⟨w.heap.size, 2, none⟩ = some (.int .i64 s.pu) := B3.out.cell 2
  have k3 : w3.cell? ⟨w.heap.size, 3, none⟩ = some (.int .i64 s.ha) := B3.out.cell 3
  have k4 : w3.cell? ⟨w.heap.size, 4, none⟩ = some (.slice a.A4 a.n4 a.c4) := B3.out.cell 4
  have k5 : w3.cell? ⟨w.heap.size, 5, none⟩ = some (.slice a.A5 a.n5 a.c5) := B3.out.cell 5
  have k6 : w3.cell? ⟨w.heap.size, 6, none⟩ = some (.int .u8 (s.l0.toNat : Int)) := B3.out.cell 6
  have k7 : w3.cell? ⟨w.heap.size, 7, none⟩ = some (.int .u8 (s.l1.toNat : Int)) := B3.out.cell 7
  have k8 : w3.cell? ⟨w.heap.size, 8, none⟩ = some (.slice a.A8 a.n8 a.c8) := B3.out.cell 8
  have k9 : w3.cell? ⟨w.heap.size, 9, none⟩ = some (.slice a.A9 a.n9 a.c9) := B3.out.cell 9
  go_wp2_with fail
  refine (HRe.out w3 B3.out.B HL2.out).mono ?_
  rintro e w4 ⟨A4, m4, c4, r4, rfl, ho4, rfl, hb4⟩
  have B4 := Lib.hid (B3.out.below hb4)
  have O3 := Lib.hid (O3.out.below hb4)
  have O4 := Lib.hid ho4
  clear hb4 ho4 k0 k1 k2 k3 k4 k5 k6 k7 k8 k9 B3
  have k0 : w4.cell? ⟨w.heap.size, 0, none⟩ = some (.int .i64 s.ve) := B4.out.cell 0
  have k1 : w4.cell? ⟨w.heap.size, 1, none⟩ = some (.int .i64 s.ty) := B4.out.cell 1
  have k2 : w4.cell? ⟨w.heap.size, 2, none⟩ = some (.int .i64 s.pu) := B4.out.cell 2
  have k3 : w4.cell? ⟨w.heap.size, 3, none⟩ = some (.int .i64 s.ha) := B4.out.cell 3
  have k4 : w4.cell? ⟨w.heap.size, 4, none⟩ = some (.slice a.A4 a.n4 a.c4) := B4.out.cell 4
  have k5 : w4.cell? ⟨w.heap.size, 5, none⟩ = some (.slice a.A5 a.n5 a.c5) := B4.out.cell 5
  have k6 : w4.cell? ⟨w.heap.size, 6, none⟩ = some (.int .u8 (s.l0.toNat : Int)) := B4.out.cell 6
  have k7 : w4.cell? ⟨w.heap.size, 7, none⟩ = some (.int .u8 (s.l1.toNat : Int)) := B4.out.cell 7
  have k8 : w4.cell? ⟨w.heap.size, 8, none⟩ = some (.slice a.A8 a.n8 a.c8) := B4.out.cell 8
  have k9 : w4.cell? ⟨w.heap.size, 9, none⟩ = some (.slice a.A9 a.n9 a.c9) := B4.out.cell 9
  go_wp2_with fail
  refine (HHa.out w4 B4.out.B HL2.out).mono ?_
  rintro e w5 ⟨A5, m5, c5, r5, rfl, ho5, rfl, hb5⟩
  have B5 := Lib.hid (B4.out.below hb5)
  have O3 := Lib.hid (O3.out.below hb5)
  have O4 := Lib.hid (O4.out.below hb5)
  have O5 := Lib.hid ho5
  clear hb5 ho5 k0 k1 k2 k3 k4 k5 k6 k7 k8 k9 B4
  have k0 : w5.cell? ⟨w.heap.size, 0, none⟩ = some (.int .i64 s.ve) := B5.out.cell 0
  have k1 : w5.cell? ⟨w.heap.size, 1, none⟩ = some (.int .i64 s.ty) := B5.out.cell 1
  have k2 : w5.cell? ⟨w.heap.size, 2, none⟩ = some (.int .i64 s.pu) := B5.out.cell 2
  have k3 : w5.cell? ⟨w.heap.size, 3, none⟩ = some (.int .i64 s.ha) := B5.out.cell 3
  have k4 : w5.cell? ⟨w.heap.size, 4, none⟩ = some (.slice a.A4 a.n4 a.c4) := B5.out.cell 4
  have k5 : w5.cell? ⟨w.heap.size, 5, none⟩ = some (.slice a.A5 a.n5 a.c5) := B5.out.cell 5
  have k6 : w5.cell? ⟨w.heap.size, 6, none⟩ = some (.int .u8 (s.l0.toNat : Int)) := B5.out.cell 6
  have k7 : w5.cell? ⟨w.heap.size, 7, none⟩ = some (.int .u8 (s.l1.toNat : Int)) := B5.out.cell 7
  have k8 : w5.cell? ⟨w.heap.size, 8, none⟩ = some (.slice a.A8 a.n8 a.c8) := B5.out.cell 8
  have k9 : w5.cell? ⟨w.heap.size, 9, none⟩ = some (.slice a.A9 a.n9 a.c9) := B5.out.cell 9
  go_wp2_with fail
  refine (HRh.out w5 B5.out.B HL2.out).mono ?_
  rintro e w6 ⟨A6, m6, c6, r6, rfl, ho6, rfl, hb6⟩
  have B6 := Lib.hid (B5.out.below hb6)
  have O3 := Lib.hid (O3.out.below hb6)
  have O4 := Lib.hid (O4.out.below hb6)
  have O5 := Lib.hid (O5.out.below hb6)
  have O6 := Lib.hid ho6
  clear hb6 ho6 k0 k1 k2 k3 k4 k5 k6 k7 k8 k9 B5
  go_wp2_with (first
    | (go_at_call 7; refine (HAl.out _).mono ?_; rintro e w7 ⟨rfl, hb7⟩; have s1 := (O3.out.below hb7).bs.str; have s2 := (O4.out.below hb7).bs.str; have s3 := (O5.out.below hb7).bs.str; have s4 := (O6.out.below hb7).bs.str)
    | (go_at_call 15; refine (HS1.out _).mono ?_; rintro e w8 ⟨rfl, rfl⟩)
    | (go_at_call 16; refine (HS2.out _).mono ?_; rintro e w8 ⟨rfl, rfl⟩))
  go_ret
  exact ⟨rfl, below_then B6.out.B B6.out.B.size hb7⟩
end Go.Proofs.Ytjbnoamoadaknaa
end
