import Derived.Test.YtjbnoamoadaknaaYSigBack22
import Derived.Test.YtjbnoamoadaknaaYSigBack23
import Derived.Test.YtjbnoamoadaknaaYSigBack16
import Derived.Test.YtjbnoamoadaknaaYSigBack5
import Derived.Test.YtjbnoamoadaknaaYSigBack20
import Derived.Test.YtjbnoamoadaknaaYSigBack14
import Derived.Test.YtjbnoamoadaknaaYSigBack6
/- The statements of layer 22: SigEmit. -/
section
namespace Go.Proofs.Ytjbnoamoadaknaa
open Go.RowKit

theorem sigL_of_small {s : SigV} (h : (s.hs.length ≤ 60 ∧ ∀ x ∈ s.hs, x.2.2.length ≤ 5000) ∧ (s.us.length ≤ 60 ∧ ∀ x ∈ s.us, x.2.2.length ≤ 5000) ∧ s.salt.length ≤ 100 ∧ s.value.length ≤ 2100) : SigL s :=
  ⟨Nat.le_trans h.1.1 (by decide), fun x hx => Nat.le_trans (h.1.2 x hx) (by decide), Nat.le_trans h.2.1.1 (by decide), fun x hx => Nat.le_trans (h.2.1.2 x hx) (by decide), Nat.le_trans h.2.2.1 (by decide), Nat.le_trans h.2.2.2 (by decide)⟩

set_option maxRecDepth 100000 in
set_option maxHeartbeats 3200000 in
theorem SigEmit_walk {s : SigV} {a : SigA} (alg : Int) {w : World} (h : SigR w s a) (hb : SigB s a 140737488355328) :
    Calls Try.prog 4 #[.agg (sigC s a), .int .i64 alg] w fun e w' => e = .returned (.bool true) ∧ Below w.heap.size w w' := by
  have HAl := Lib.hid (fun W => alive22_calls W)
  have HR := Lib.hid h
  have HSm := Lib.hid (fun W (hW : Below w.heap.size w W) => Small_calls (h.below hW) hb)
  have HEm := Lib.hid (fun W (hW : Below w.heap.size w W) (hL : SigL s) => EmitG_calls (h.below hW) hL)
  have HRe := Lib.hid (fun W (hW : Below w.heap.size w W) (hL : SigL s) => rEmitG_calls (h.below hW) hL)
  have HHa := Lib.hid (fun W (hW : Below w.heap.size w W) (hL : SigL s) => Hashed_calls (h.below hW) hL)
  have HRh := Lib.hid (fun W (hW : Below w.heap.size w W) (hL : SigL s) => rHashed_calls (h.below hW) hL)
  have HS1 := Lib.hid (fun W => SaltSize_calls alg W)
  have HS2 := Lib.hid (fun W => rSaltSize_calls alg W)
  unfold HashedPost at HEm HRe HHa HRh
  generalize emitG s = X at HEm HRe
  generalize hashedG s = Y at HHa HRh
  generalize saltS alg = sz at HS1 HS2
  obtain ⟨em, er⟩ := X
  obtain ⟨hm, hr⟩ := Y
  simp only at HEm HRe HHa HRh
  clear h hb
  go_enter Try.func4, Try.ntmps4
  go_upto_region 1 with fail
  go_name_world w1 hw1
  have H1 : Box w w1 27 (sigC s a) := Box.mk_ hw1
  clear hw1
  have B1 := Lib.hid H1
  have k0 : w1.cell? ⟨w.heap.size, 0, none⟩ = some (.int .i64 s.ve) := H1.cell 0
  have k1 : w1.cell? ⟨w.heap.size, 1, none⟩ = some (.int .i64 s.ty) := H1.cell 1
  have k2 : w1.cell? ⟨w.heap.size, 2, none⟩ = some (.int .i64 s.pu) := H1.cell 2
  have k3 : w1.cell? ⟨w.heap.size, 3, none⟩ = some (.int .i64 s.ha) := H1.cell 3
  have k4 : w1.cell? ⟨w.heap.size, 4, none⟩ = some (.slice a.A4 a.n4 a.c4) := H1.cell 4
  have k5 : w1.cell? ⟨w.heap.size, 5, none⟩ = some (.slice a.A5 a.n5 a.c5) := H1.cell 5
  have k6 : w1.cell? ⟨w.heap.size, 6, none⟩ = some (.int .u8 (s.l0.toNat : Int)) := H1.cell 6
  have k7 : w1.cell? ⟨w.heap.size, 7, none⟩ = some (.int .u8 (s.l1.toNat : Int)) := H1.cell 7
  have k8 : w1.cell? ⟨w.heap.size, 8, none⟩ = some (.slice a.A8 a.n8 a.c8) := H1.cell 8
  have k9 : w1.cell? ⟨w.heap.size, 9, none⟩ = some (.slice a.A9 a.n9 a.c9) := H1.cell 9
  clear H1
  go_wp2_with fail
  refine (HSm.out w1 B1.out.B).mono ?_
  rintro e w2 ⟨⟨r, rfl, hr⟩, hb2⟩
  have B2 := Lib.hid (B1.out.below hb2)
  have HL := Lib.hid (fun h => sigL_of_small (hr h))
  clear hr hb2 k0 k1 k2 k3 k4 k5 k6 k7 k8 k9 B1
  have k0 : w2.cell? ⟨w.heap.size, 0, none⟩ = some (.int .i64 s.ve) := B2.out.cell 0
  have k1 : w2.cell? ⟨w.heap.size, 1, none⟩ = some (.int .i64 s.ty) := B2.out.cell 1
  have k2 : w2.cell? ⟨w.heap.size, 2, none⟩ = some (.int .i64 s.pu) := B2.out.cell 2
  have k3 : w2.cell? ⟨w.heap.size, 3, none⟩ = some (.int .i64 s.ha) := B2.out.cell 3
  have k4 : w2.cell? ⟨w.heap.size, 4, none⟩ = some (.slice a.A4 a.n4 a.c4) := B2.out.cell 4
  have k5 : w2.cell? ⟨w.heap.size, 5, none⟩ = some (.slice a.A5 a.n5 a.c5) := B2.out.cell 5
  have k6 : w2.cell? ⟨w.heap.size, 6, none⟩ = some (.int .u8 (s.l0.toNat : Int)) := B2.out.cell 6
  have k7 : w2.cell? ⟨w.heap.size, 7, none⟩ = some (.int .u8 (s.l1.toNat : Int)) := B2.out.cell 7
  have k8 : w2.cell? ⟨w.heap.size, 8, none⟩ = some (.slice a.A8 a.n8 a.c8) := B2.out.cell 8
  have k9 : w2.cell? ⟨w.heap.size, 9, none⟩ = some (.slice a.A9 a.n9 a.c9) := B2.out.cell 9
  by_cases hr : r = true
  rotate_left
  · obtain rfl : r = false := by simpa using hr
    clear hr
    go_wp2_with (go_at_call 7; refine (HAl.out _).mono ?_; rintro e w20 ⟨rfl, hb20⟩)
    go_ret
    exact ⟨rfl, below_then B2.out.B B2.out.B.size hb20⟩
  subst hr
  have HL2 := Lib.hid (HL.out rfl)
  clear HL
  go_wp2_with fail
  refine (HEm.out w2 B2.out.B HL2.out).mono ?_
  rintro e w3 ⟨A3, m3, c3, r3, rfl, ho3, rfl, hb3⟩
  have B3 := Lib.hid (B2.out.below hb3)
  have O3 := Lib.hid ho3
  clear hb3 ho3 k0 k1 k2 k3 k4 k5 k6 k7 k8 k9 B2
  have k0 : w3.cell? ⟨w.heap.size, 0, none⟩ = some (.int .i64 s.ve) := B3.out.cell 0
  have k1 : w3.cell? ⟨w.heap.size, 1, none⟩ = some (.int .i64 s.ty) := B3.out.cell 1
  have k2 : w3.cell? ⟨w.heap.size, 2, none⟩ = some (.int .i64 s.pu) := B3.out.cell 2
  have k3 : w3.cell? ⟨w.heap.size, 3, none⟩ = some (.int .i64 s.ha) := B3.out.cell 3
  have k4 : w3.cell? ⟨w.heap.size, 4, none⟩ = some (.slice a.A4 a.n4 a.c4) := B3.out.cell 4
  have k5 : w3.cell? ⟨w.heap.size, 5, none⟩ = some (.slice a.A5 a.n5 a.c5) := B3.out.cell 5
  have k6 : w3.cell? ⟨w.heap.size, 6, none⟩ = some (.int .u8 (s.l0.toNat : Int)) := B3.out.cell 6
  have k7 : w3.cell? ⟨w.heap.size, 7, none⟩ = some (.int .u8 (s.l1.toNat : Int)) := B3.out.cell 7
  have k8 : w3.cell? ⟨w.heap.size, 8, none⟩ = some (.slice a.A8 a.n8 a.c8) := B3.out.cell 8
  have k9 : w3.cell? ⟨w.heap.size, 9, none⟩ = some (.slice a.A9 a.n9 a.c9) := B3.out.cell 9
  go_wp2_with fail
  refine (HRe.out w3 B3.out.B HL2.out).mono ?_
  rintro e w4 ⟨A4, m4, c4, r4, rfl, ho4, rfl, hb4⟩
  have B4 := Lib.hid (B3.out.below hb4)
  have O3 := Lib.hid (O3.out.below hb4)
  have O4 := Lib.hid ho4
  clear hb4 ho4 k0 k1 k2 k3 k4 k5 k6 k7 k8 k9 B3
  have k0 : w4.cell? ⟨w.heap.size, 0, none⟩ = some (.int .i64 s.ve) := B4.out.cell 0
  have k1 : w4.cell? ⟨w.heap.size, 1, none⟩ = some (.int .i64 s.ty) := B4.out.cell 1
  have k2 : w4.cell? ⟨w.heap.size, 2, none⟩ = some (.int .i64 s.pu) := B4.out.cell 2
  have k3 : w4.cell? ⟨w.heap.size, 3, none⟩ = some (.int .i64 s.ha) := B4.out.cell 3
  have k4 : w4.cell? ⟨w.heap.size, 4, none⟩ = some (.slice a.A4 a.n4 a.c4) := B4.out.cell 4
  have k5 : w4.cell? ⟨w.heap.size, 5, none⟩ = some (.slice a.A5 a.n5 a.c5) := B4.out.cell 5
  have k6 : w4.cell? ⟨w.heap.size, 6, none⟩ = some (.int .u8 (s.l0.toNat : Int)) := B4.out.cell 6
  have k7 : w4.cell? ⟨w.heap.size, 7, none⟩ = some (.int .u8 (s.l1.toNat : Int)) := B4.out.cell 7
  have k8 : w4.cell? ⟨w.heap.size, 8, none⟩ = some (.slice a.A8 a.n8 a.c8) := B4.out.cell 8
  have k9 : w4.cell? ⟨w.heap.size, 9, none⟩ = some (.slice a.A9 a.n9 a.c9) := B4.out.cell 9
  go_wp2_with fail
  refine (HHa.out w4 B4.out.B HL2.out).mono ?_
  rintro e w5 ⟨A5, m5, c5, r5, rfl, ho5, rfl, hb5⟩
  have B5 := Lib.hid (B4.out.below hb5)
  have O3 := Lib.hid (O3.out.below hb5)
  have O4 := Lib.hid (O4.out.below hb5)
  have O5 := Lib.hid ho5
  clear hb5 ho5 k0 k1 k2 k3 k4 k5 k6 k7 k8 k9 B4
  have k0 : w5.cell? ⟨w.heap.size, 0, none⟩ = some (.int .i64 s.ve) := B5.out.cell 0
  have k1 : w5.cell? ⟨w.heap.size, 1, none⟩ = some (.int .i64 s.ty) := B5.out.cell 1
  have k2 : w5.cell? ⟨w.heap.size, 2, none⟩ = some (.int .i64 s.pu) := B5.out.cell 2
  have k3 : w5.cell? ⟨w.heap.size, 3, none⟩ = some (.int .i64 s.ha) := B5.out.cell 3
  have k4 : w5.cell? ⟨w.heap.size, 4, none⟩ = some (.slice a.A4 a.n4 a.c4) := B5.out.cell 4
  have k5 : w5.cell? ⟨w.heap.size, 5, none⟩ = some (.slice a.A5 a.n5 a.c5) := B5.out.cell 5
  have k6 : w5.cell? ⟨w.heap.size, 6, none⟩ = some (.int .u8 (s.l0.toNat : Int)) := B5.out.cell 6
  have k7 : w5.cell? ⟨w.heap.size, 7, none⟩ = some (.int .u8 (s.l1.toNat : Int)) := B5.out.cell 7
  have k8 : w5.cell? ⟨w.heap.size, 8, none⟩ = some (.slice a.A8 a.n8 a.c8) := B5.out.cell 8
  have k9 : w5.cell? ⟨w.heap.size, 9, none⟩ = some (.slice a.A9 a.n9 a.c9) := B5.out.cell 9
  go_wp2_with fail
  refine (HRh.out w5 B5.out.B HL2.out).mono ?_
  rintro e w6 ⟨A6, m6, c6, r6, rfl, ho6, rfl, hb6⟩
  have B6 := Lib.hid (B5.out.below hb6)
  have O3 := Lib.hid (O3.out.below hb6)
  have O4 := Lib.hid (O4.out.below hb6)
  have O5 := Lib.hid (O5.out.below hb6)
  have O6 := Lib.hid ho6
  clear hb6 ho6 k0 k1 k2 k3 k4 k5 k6 k7 k8 k9 B5
  go_wp2_with (first
    | (go_at_call 7; refine (HAl.out _).mono ?_; rintro e w7 ⟨rfl, hb7⟩; have s1 := (O3.out.below hb7).bs.str; have s2 := (O4.out.below hb7).bs.str; have s3 := (O5.out.below hb7).bs.str; have s4 := (O6.out.below hb7).bs.str)
    | (go_at_call 15; refine (HS1.out _).mono ?_; rintro e w8 ⟨rfl, rfl⟩)
    | (go_at_call 16; refine (HS2.out _).mono ?_; rintro e w8 ⟨rfl, rfl⟩))
  go_ret
  exact ⟨rfl, below_then B6.out.B B6.out.B.size hb7⟩
end Go.Proofs.Ytjbnoamoadaknaa
end

/- The document's Same of a signature, on what reads alike. -/
section
namespace Go.Proofs.Ytjbnoamoadaknaa
open Go.RowKit

theorem eqArr2 (x0 x1 : Int) (w : World) : (Op.equalIn 10000 25 (.agg #[.int .u8 x0, .int .u8 x1]) (.agg #[.int .u8 x0, .int .u8 x1])).run Try.prog w = .ok true w := by
  have u3 := Try.underlying5
  have a3 := Try.isAgg5
  have z3 := Try.sizeOf5
  rw [show (10000 : Nat) = 9999 + 1 from rfl, Op.equalIn]
  simp only [Sem.run_bind, run_underlying Try.underlying25, Result.andThen_ok]
  simp only [Std.Legacy.Range.forIn_eq_forIn_range', Std.Legacy.Range.size, Nat.sub_zero, Nat.add_sub_cancel, Nat.div_one, List.range'_succ, List.range'_zero, List.forIn_cons, List.forIn_nil]
  go_simp

set_option maxRecDepth 100000 in
set_option maxHeartbeats 3200000 in
theorem Same22_calls {s : SigV} {a b : SigA} {w : World} (h : SigR w s a) (g : SigR w s b) (m4 : a.n4 ≤ 9223372036854775807) (m5 : a.n5 ≤ 9223372036854775807) :
    Calls Try.prog 9 #[.agg (sigC s a), .agg (sigC s b)] w fun e w' => e = .returned (.bool true) ∧ Below w.heap.size w w' := by
  have hq := eqArr2 s.l0.toNat s.l1.toNat
  have hnew := heap_alloc_new w (.cells (sigC s a) 27)
  have hba := (Below.refl w.heap.size w).alloc (Nat.le_refl _) (.cells (sigC s a) 27)
  generalize hw1 : w.alloc (.cells (sigC s a) 27) = w1 at hnew hba
  have hlt := blk_lt hnew
  have hba2 := (Below.refl w1.heap.size w1).alloc (Nat.le_refl _) (.cells (sigC s b) 27)
  have hnw := heap_alloc_new w1 (.cells (sigC s b) 27)
  have hnb := (hba2.block w.heap.size hlt).trans hnew
  generalize hw2 : w1.alloc (.cells (sigC s b) 27) = w2 at hba2 hnw hnb
  have hB2 := below_then hba hba.size hba2
  have c0 : w2.cell? ⟨w.heap.size, 0, none⟩ = some (.int .i64 s.ve) := blk_cell hnb 0
  have r0 : w2.cell? ⟨w1.heap.size, 0, none⟩ = some (.int .i64 s.ve) := blk_cell hnw 0
  have c1 : w2.cell? ⟨w.heap.size, 1, none⟩ = some (.int .i64 s.ty) := blk_cell hnb 1
  have r1 : w2.cell? ⟨w1.heap.size, 1, none⟩ = some (.int .i64 s.ty) := blk_cell hnw 1
  have c2 : w2.cell? ⟨w.heap.size, 2, none⟩ = some (.int .i64 s.pu) := blk_cell hnb 2
  have r2 : w2.cell? ⟨w1.heap.size, 2, none⟩ = some (.int .i64 s.pu) := blk_cell hnw 2
  have c3 : w2.cell? ⟨w.heap.size, 3, none⟩ = some (.int .i64 s.ha) := blk_cell hnb 3
  have r3 : w2.cell? ⟨w1.heap.size, 3, none⟩ = some (.int .i64 s.ha) := blk_cell hnw 3
  have c4 : w2.cell? ⟨w.heap.size, 4, none⟩ = some (.slice a.A4 a.n4 a.c4) := blk_cell hnb 4
  have r4 : w2.cell? ⟨w1.heap.size, 4, none⟩ = some (.slice b.A4 b.n4 b.c4) := blk_cell hnw 4
  have c5 : w2.cell? ⟨w.heap.size, 5, none⟩ = some (.slice a.A5 a.n5 a.c5) := blk_cell hnb 5
  have r5 : w2.cell? ⟨w1.heap.size, 5, none⟩ = some (.slice b.A5 b.n5 b.c5) := blk_cell hnw 5
  have HA := Lib.hid hnb
  have HN := Lib.hid hnw
  have HB := Lib.hid hB2
  have HS4 := Lib.hid (fun W (hW : Below w.heap.size w W) => Same21_calls (c := a.c4) (d := b.c4) (h.h4.below hW) (g.h4.below hW) m4)
  have HS5 := Lib.hid (fun W (hW : Below w.heap.size w W) => Same21_calls (c := a.c5) (d := b.c5) (h.h5.below hW) (g.h5.below hW) m5)
  have HR := Lib.hid h
  have HG := Lib.hid g
  clear hnew hba hba2 hnw hnb hB2 h g
  go_enter Try.func9, Try.ntmps9
  go_wp2_with fail
  refine (HS4.out w2 HB.out).mono ?_
  rintro e w3 ⟨rfl, hb3⟩
  have HA3 := Lib.hid ((hb3.block _ (blk_lt HA.out)).trans HA.out)
  have HN3 := Lib.hid ((hb3.block _ (blk_lt HN.out)).trans HN.out)
  have HB3 := Lib.hid (below_then HB.out HB.out.size hb3)
  clear hb3 c0 c1 c2 c3 c4 c5 r0 r1 r2 r3 r4 r5
  have c5 : w3.cell? ⟨w.heap.size, 5, none⟩ = some (.slice a.A5 a.n5 a.c5) := blk_cell HA3.out 5
  have r5 : w3.cell? ⟨w1.heap.size, 5, none⟩ = some (.slice b.A5 b.n5 b.c5) := blk_cell HN3.out 5
  go_wp2_with fail
  refine (HS5.out w3 HB3.out).mono ?_
  rintro e w4 ⟨rfl, hb4⟩
  have HA4 := Lib.hid ((hb4.block _ (blk_lt HA3.out)).trans HA3.out)
  have HN4 := Lib.hid ((hb4.block _ (blk_lt HN3.out)).trans HN3.out)
  have HB4 := Lib.hid (below_then HB3.out HB3.out.size hb4)
  clear hb4 c5 r5
  have c6 : w4.cell? ⟨w.heap.size, 6, none⟩ = some (.int .u8 (s.l0.toNat : Int)) := blk_cell HA4.out 6
  have r6 : w4.cell? ⟨w1.heap.size, 6, none⟩ = some (.int .u8 (s.l0.toNat : Int)) := blk_cell HN4.out 6
  have c7 : w4.cell? ⟨w.heap.size, 7, none⟩ = some (.int .u8 (s.l1.toNat : Int)) := blk_cell HA4.out 7
  have r7 : w4.cell? ⟨w1.heap.size, 7, none⟩ = some (.int .u8 (s.l1.toNat : Int)) := blk_cell HN4.out 7
  have c8 : w4.cell? ⟨w.heap.size, 8, none⟩ = some (.slice a.A8 a.n8 a.c8) := blk_cell HA4.out 8
  have r8 : w4.cell? ⟨w1.heap.size, 8, none⟩ = some (.slice b.A8 b.n8 b.c8) := blk_cell HN4.out 8
  have c9 : w4.cell? ⟨w.heap.size, 9, none⟩ = some (.slice a.A9 a.n9 a.c9) := blk_cell HA4.out 9
  have r9 : w4.cell? ⟨w1.heap.size, 9, none⟩ = some (.slice b.A9 b.n9 b.c9) := blk_cell HN4.out 9
  have s1 := (HR.out.below HB4.out).h8.str
  have s2 := (HG.out.below HB4.out).h8.str
  have s3 := (HR.out.below HB4.out).h9.str
  have s4 := (HG.out.below HB4.out).h9.str
  go_wp2
  go_ret
  exact ⟨by first | rfl | simp, HB4.out⟩
end Go.Proofs.Ytjbnoamoadaknaa
end

/- Subpackets that are written are read as they were: the plain law. -/
section
namespace Go.Proofs.Ytjbnoamoadaknaa
open Go.RowKit

theorem toNat_of (n : Nat) (h : n < 256) : (UInt8.ofNat n).toNat = n := UInt8.toNat_ofNat_of_lt' (by simp [UInt8.size]; omega)
theorem slenE_ne (n : Nat) : slenE n ≠ [] := by
  unfold slenE
  split
  · simp
  · split <;> simp
theorem slenR_E (m : Nat) (hm : m < 4294967296) (t : List UInt8) : slenR (slenE m ++ t) = (m, t, 0) := by
  unfold slenE
  split
  · rename_i h
    rw [List.singleton_append, slenR, toNat_of m (by omega), if_pos h]
  · rename_i h
    split
    · rename_i h2
      have e1 : (UInt8.ofNat ((m - 192) / 256 + 192)).toNat = (m - 192) / 256 + 192 := toNat_of _ (by omega)
      rw [List.cons_append, List.singleton_append, slenR, e1, if_neg (by omega), if_pos (by omega), twoR]
      have e2 : (UInt8.ofNat (m - 192)).toNat = (m - 192) % 256 := by simp
      rw [e2]
      simp only [Prod.mk.injEq, and_true]
      omega
    · rename_i h2
      rw [List.cons_append, slenR, if_neg (by decide), if_neg (by decide), if_neg (by simp [be_length])]
      have e3 : (be 4 m ++ t).take 4 = be 4 m := by rw [List.take_append_of_le_length (by rw [be_length]; omega)]; rw [List.take_of_length_le (by rw [be_length]; omega)]
      have e4 : (be 4 m ++ t).drop 4 = t := by
        have := List.drop_left (l₁ := be 4 m) (l₂ := t)
        rwa [be_length] at this
      rw [e3, e4]
      rw [val_be (by omega) (by rw [show 256 ^ 4 = 4294967296 by decide]; exact hm)]
      rfl
/-- The bytes x are taken as the subpacket s. -/
def EncS (s : SubV) (x : List UInt8) : Prop := x ≠ [] ∧ ∀ t, stakeR (x ++ t) = (s, t, 0)
theorem enc_sub {s : SubV} (h0 : 0 ≤ s.1) (h1 : s.1 ≤ 127) (hb : s.2.2.length ≤ 100000) : EncS s (subBytes s) := by
  obtain ⟨ty, cr, body⟩ := s
  simp only at h0 h1 hb
  obtain ⟨t, rfl⟩ := Int.eq_ofNat_of_zero_le h0
  refine ⟨by simp [subBytes], fun r => ?_⟩
  have hs : slenR (subBytes ((t : Int), cr, body) ++ r) = (body.length + 1, tyB ((t : Int), cr, body) :: body ++ r, 0) := by
    rw [subBytes, List.append_assoc, slenR_E _ (by simp only; omega)]
  have hty : (tyB ((t : Int), cr, body)).toNat = t + if cr then 128 else 0 := by
    rw [tyB]
    simp only [Int.toNat_natCast]
    rw [toNat_of _ (by cases cr <;> simp <;> omega)]
  rw [stakeR, hs]
  simp only [ne_eq, not_true_eq_false, if_false, List.cons_append, List.headD_cons, List.length_cons, List.length_append, hty]
  rw [if_neg (by omega), if_neg (by omega)]
  have e1 : (t + if cr = true then 128 else 0) % 128 = t := by cases cr <;> simp <;> omega
  have e2 : decide (128 ≤ t + if cr = true then 128 else 0) = cr := by cases cr <;> simp <;> omega
  rw [e1, e2]
  simp
theorem cut_sub {s : SubV} (hb : s.2.2.length ≤ 100000) : (subBytes s).dropLast ≠ [] ∧ stakeR (subBytes s).dropLast = ((0, false, []), [], 2) := by
  obtain ⟨ty, cr, body⟩ := s
  simp only at hb
  have e : (subBytes (ty, cr, body)).dropLast = slenE (body.length + 1) ++ (tyB (ty, cr, body) :: body).dropLast := by
    rw [subBytes, List.dropLast_append_of_ne_nil (by simp)]
  rw [e]
  refine ⟨by simp [slenE_ne], ?_⟩
  rw [stakeR, slenR_E _ (by omega)]
  simp only [ne_eq, not_true_eq_false, if_false, List.length_dropLast, List.length_cons]
  rw [if_neg (by omega), if_pos (by omega)]
/-- The bytes are subpackets, one behind the other. -/
def EncsS : List SubV → List UInt8 → Prop
  | [], b => b = []
  | s :: ss, b => ∃ x r, b = x ++ r ∧ EncS s x ∧ EncsS ss r
theorem parseT_encs : ∀ {ss : List SubV} {b : List UInt8} (z : List UInt8) (acc : List SubV) (f : Nat), EncsS ss b → acc.length + ss.length ≤ 40 → parseT (f + ss.length) acc (b ++ z) = parseT f (acc ++ ss) z
  | [], b, z, acc, f, h, _ => by
    have h' : b = [] := h
    subst h'
    simp
  | s :: ss, b, z, acc, f, ⟨x, r, e, ⟨hx, ht⟩, hr⟩, hl => by
    subst e
    simp only [List.length_cons] at hl
    rw [List.length_cons, ← Nat.add_assoc, parseT, if_neg (by simp [hx]), if_neg (by omega), List.append_assoc, ht]
    simp only [if_true]
    rw [parseT_encs z (acc ++ [s]) f hr (by simp; omega)]
    simp
theorem emitT_ok : ∀ (ss : List SubV) (out res : List UInt8), (∀ s ∈ ss, s.2.2.length ≤ 100000) → emitT ss out = some res → ∃ ys, res = out ++ ys ∧ EncsS ss ys
  | [], out, res, _, h => by
    rw [emitT] at h
    injection h with h
    exact ⟨[], by simp [h], rfl⟩
  | s :: ss, out, res, hl, h => by
    rw [emitT] at h
    split at h
    · cases h
    · rename_i hs
      obtain ⟨ys, rfl, hy⟩ := emitT_ok ss _ res (fun s hs => hl s (List.mem_cons_of_mem _ hs)) h
      exact ⟨subBytes s ++ ys, by simp, subBytes s, ys, rfl, enc_sub (by omega) (by omega) (hl s (by simp)), hy⟩
theorem emitT_app : ∀ (ss : List SubV) (s : SubV) (out : List UInt8), emitT (ss ++ [s]) out = (emitT ss out).bind fun o => emitT [s] o
  | [], s, out => rfl
  | q :: ss, s, out => by
    rw [List.cons_append, emitT, emitT]
    split
    · rfl
    · exact emitT_app ss s _
theorem emit_back {ss : List SubV} (hl : ∀ s ∈ ss, s.2.2.length ≤ 100000) (h : (emitF ss).2 = 0) : parseF (emitF ss).1 = (ss, 0) ∧ ((emitF ss).1 ≠ [] → parseF (emitF ss).1.dropLast = ([], 2)) := by
  rw [emitF] at h ⊢
  cases he : emitT ss [] with
  | none => rw [he] at h; cases h
  | some out =>
    rw [he, endE] at h
    split at h
    · cases h
    · rename_i hb
      rw [endE, if_neg hb]
      obtain ⟨ys, e, hy⟩ := emitT_ok ss [] out hl he
      obtain rfl : out = ys := e
      have h40 : ss.length ≤ 40 := by omega
      have h4 : out.length ≤ 4000 := by omega
      constructor
      · simp only
        rw [parseF, if_neg (by omega)]
        have := parseT_encs [] [] (41 - ss.length) hy (by simpa using h40)
        rw [List.append_nil, show 41 - ss.length + ss.length = 41 by omega, List.nil_append] at this
        rw [this, show 41 - ss.length = 40 - ss.length + 1 by omega, parseT, if_pos rfl]
      · intro hne
        rcases List.eq_nil_or_concat ss with rfl | ⟨init, s, rfl⟩
        · exact absurd hy hne
        · rw [List.concat_eq_append] at he hl h40
          rw [emitT_app] at he
          cases hi : emitT init [] with
          | none => rw [hi] at he; cases he
          | some o1 =>
            rw [hi] at he
            simp only [Option.bind_some, emitT] at he
            split at he
            · cases he
            · injection he with he
              obtain ⟨y1, e1, hy1⟩ := emitT_ok init [] o1 (fun q hq => hl q (by simp [hq])) hi
              obtain rfl : o1 = y1 := e1
              have hcut := cut_sub (s := s) (hl s (by simp))
              have ed : out.dropLast = o1 ++ (subBytes s).dropLast := by rw [← he, List.dropLast_append_of_ne_nil (by simp [subBytes])]
              simp only [List.length_append, List.length_singleton] at h40
              simp only
              rw [parseF, if_neg (by rw [List.length_dropLast]; omega), ed]
              have := parseT_encs (subBytes s).dropLast [] (41 - init.length) hy1 (by simp; omega)
              rw [show 41 - init.length + init.length = 41 by omega, List.nil_append] at this
              rw [this, show 41 - init.length = 40 - init.length + 1 by omega, parseT, if_neg hcut.1, if_neg (by omega), hcut.2]
              rfl
end Go.Proofs.Ytjbnoamoadaknaa
end
