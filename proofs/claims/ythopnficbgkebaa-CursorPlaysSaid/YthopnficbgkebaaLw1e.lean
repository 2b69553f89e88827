/- Any script of parts, forth and back. -/
import Derived.Test.YthopnficbgkebaaLw1
import Derived.Test.YthopnficbgkebaaRf
import Derived.BigQuiet
namespace Go.Proofs.Ythopnficbgkebaa
open Go.RowKit

/-- A slice of pairs of ints that reads as zs. -/
def As (w : World) (A : Option Addr) (n : Nat) (zs : List (Int × Int)) : Prop := zs.length = n ∧ ∀ k (hk : k < zs.length), ∃ b off, A = some ⟨b, off, none⟩ ∧ b < w.heap.size ∧ w.cell? ⟨b, off + k * 2, none⟩ = some (.int .i64 (zs[k]).1) ∧ w.cell? ⟨b, off + k * 2 + 1, none⟩ = some (.int .i64 (zs[k]).2)

set_option maxRecDepth 100000 in
set_option maxHeartbeats 6400000 in
theorem CursorPlays_walk {A D : Option Addr} {n m c d : Nat} {l : List UInt8} {zs : List (Int × Int)} {w : World} (h : Bs w A n c l) (hz : As w D m zs) (hm : m ≤ 9223372036854775807) :
    Calls Try.prog 11 #[.slice A n c, .slice D m d] w fun e w' => e = .returned (.bool true) ∧ Below w.heap.size w w' := by
  by_cases hn : 300 < n
  · go_enter Try.func11, Try.ntmps11
    go_wp2_with (go_at_call 12; refine (alive1_calls _).mono ?_; rintro e w1 ⟨rfl, hb1⟩)
    go_ret
    exact ⟨rfl, hb1⟩
  · obtain rfl := hz.1
    obtain rfl := h.2
    have hem := empty8 w
    have hal := h.alloc (.cells #[] 5)
    go_enter Try.func11, Try.ntmps11
    go_wp2_with (at_builtin; refine app8 (.tmp 21) (.tmp 22) rfl rfl rfl hem rfl hal (by omega) (by simp) ?_; intro A1 c1 w1 hown1 hg1 hat1)
    have hb1 := below_empty hg1
    rw [List.nil_append, Nat.zero_add] at hown1
    clear hg1 hat1 hem hal
    refine (Over_calls hown1.bs (by omega)).mono ?_
    rintro e w2 ⟨g, rfl, hg, hcur, hb2⟩
    go_wp2_with fail
    have hgl := hcur.lt
    have hcur2 := hcur.below ((Below.refl w2.heap.size w2).alloc (Nat.le_refl _) (.cells #[.slice A l.length c, .int .i64 0] 53))
    have hM := heap_alloc_new w2 (.cells #[.slice A l.length c, .int .i64 0] 53)
    have hB2 := hb2.alloc hb2.size (.cells #[.slice A l.length c, .int .i64 0] 53)
    generalize w2.alloc (.cells #[.slice A l.length c, .int .i64 0] 53) = w3 at hcur2 hM hB2 ⊢
    generalize w2.heap.size = M at hgl hM ⊢
    clear hcur hb2
    go_loopw [8] (fun i wr => ∃ (k at_ : Nat), k ≤ zs.length ∧ k ≤ 40 ∧ i = .int .i64 k ∧ Cur wr g at_ l ∧ wr.heap[M]? = some (.cells #[.slice A l.length c, .int .i64 (at_ : Int)] 53 (0, 0)) ∧ Below w1.heap.size w1 wr) (fun i _ => 40 - (intOf i).toNat)
    case atStart => exact ⟨0, 0, Nat.zero_le _, Nat.zero_le _, rfl, hcur2, hM, hB2⟩
    case round =>
      obtain ⟨k, at_, hk, hk40, rfl, hcr, hMr, hbr⟩ := hrel
      clear hcur2 hM hB2
      have hbw := below_then hb1 hb1.size hbr
      by_cases hlast : k < zs.length ∧ k < 40
      · obtain ⟨hk1, hk2⟩ := hlast
        obtain ⟨b, off, hD, hbk, hc0, hc1⟩ := hz.2 k hk1
        subst hD
        have r0 := (hbw.cell (p := ⟨b, off + k * 2, none⟩) hbk).trans hc0
        have r1 := (hbw.cell (p := ⟨b, off + k * 2 + 1, none⟩) hbk).trans hc1
        generalize zs[k] = z at r0 r1 hc0 hc1
        obtain ⟨kind, N⟩ := z
        simp only at r0 r1
        clear hc0 hc1
        have hMl := blk_lt hMr
        have hBa := (((Below.refl wr.heap.size wr).alloc (Nat.le_refl _) (.cells #[.int .i64 kind, .int .i64 N] 55)).alloc (by simp) (.cells #[] 5)).alloc (by simp; omega) (.cells #[] 5)
        have hcr2 := hcr.below hBa
        have hM2 := (hBa.block M hMl).trans hMr
        have hB2 := below_then hbr hbr.size hBa
        have ha0 : (((wr.alloc (.cells #[.int .i64 kind, .int .i64 N] 55)).alloc (.cells #[] 5)).alloc (.cells #[] 5)).heap[wr.heap.size]? = some (.cells #[.int .i64 kind, .int .i64 N] 55 (0, 0)) := by
          rw [heap_lt _ _ (by simp; omega), heap_lt _ _ (by simp), heap_alloc_new]
        have hat := hcr.len.1
        have hsz3 : wr.heap.size + 3 ≤ (((wr.alloc (.cells #[.int .i64 kind, .int .i64 N] 55)).alloc (.cells #[] 5)).alloc (.cells #[] 5)).heap.size := by simp
        have hx0 : Own (((wr.alloc (.cells #[.int .i64 kind, .int .i64 N] 55)).alloc (.cells #[] 5)).alloc (.cells #[] 5)) (M + 1) (some ⟨wr.heap.size + 1, 0, none⟩) 0 0 [] := by
          have := ((empty8 (wr.alloc (.cells #[.int .i64 kind, .int .i64 N] 55))).alloc_ (.cells #[] 5)).lower (B' := M + 1) (by simp; omega)
          simpa using this
        have hy0 : Bs (((wr.alloc (.cells #[.int .i64 kind, .int .i64 N] 55)).alloc (.cells #[] 5)).alloc (.cells #[] 5)) (some ⟨wr.heap.size + 1 + 1, 0, none⟩) 0 0 [] := by
          have := (empty8 ((wr.alloc (.cells #[.int .i64 kind, .int .i64 N] 55)).alloc (.cells #[] 5))).bs
          simpa using this
        rcases (show kind = 1 ∨ kind = 2 ∨ kind = 3 ∨ kind = 4 ∨ (kind ≠ 1 ∧ kind ≠ 2 ∧ kind ≠ 3 ∧ kind ≠ 4) by omega) with hkd | hkd | hkd | hkd | hkd
        · subst hkd
          have hrt := fun (W : World) (hW : Bs W A l.length c l) => rTake_calls hW hat (by omega) N
          have htk := Take_any hcr2 N
          generalize takeS l at_ N = x at hrt htk
          have Hrt := Lib.hid hrt
          clear hrt
          go_wp2_with fail
          refine htk.mono ?_
          rintro e w4 ⟨A3, m3, c3, r3, rfl, ho3, rfl, hc4, hg4⟩
          have hsz4 := hg4.size
          have ha4 := (hg4.block wr.heap.size (by omega) (fun e => by injection e with e; omega)).trans ha0
          have hM4 := (hg4.block M (by omega) (fun e => by injection e with e; omega)).trans hM2
          have hB4 := hB2.grown hg4 hB2.size (fun j e => by cases e; omega)
          have kM0 := blk_cell hM4 0
          have kM1 := blk_cell hM4 1
          have ka1 := blk_cell ha4 1
          go_wp2_with fail
          refine (Hrt.out w4 (h.below (below_then hb1 hb1.size hB4))).mono ?_
          rintro e w5 ⟨A4, m4, c4, rfl, ho5, hb5⟩
          have hM5 := (hb5.block M (by omega)).trans hM4
          have hc5 := hc4.below hb5
          have hox := (ho3.below hb5).lower (B' := M + 1) (by omega)
          have hsy := ho5.bs
          have hsyb : ∀ ad, A4 = some ad → M < ad.block := fun ad e => by have := (ho5.blk ad e).1; omega
          have hB5 := below_then hB4 hB4.size hb5
          have hMq0 := blk_cell hM5 0
          have hMq1 := blk_cell hM5 1
          have hMq2 := blk_frozen hM5 0
          have hMq3 := blk_frozen hM5 1
          clear kM0 kM1 ka1 ha4 hM4 hB4 hc4 ho3 ho5 hb5 hg4
          obtain ⟨X, er, at'⟩ := x
          simp only at *
          go_wp2_with fail
          have hMz := blk_set (blk_set hM5 0 (.slice A l.length c)) 1 (.int .i64 (at' : Int))
          have hgz : w5.grownBy ((w5.setCell ⟨M, 0, none⟩ (.slice A l.length c)).setCell ⟨M, 1, none⟩ (.int .i64 (at' : Int))) (some M) := grown_trans (grown_setCell _ _ _ _) (grown_setCell _ _ _ _)
          have hcz := hc5.grown hgz (fun j e => by injection e with e; omega)
          have hoz := hox.grown hgz (fun ad e e2 => by have := (hox.blk ad e).1; injection e2 with e2; omega)
          have hsz := hsy.grown hgz (fun ad e e2 => by have := hsyb ad e; injection e2 with e2; omega)
          have hBz := hB5.grown hgz hB5.size (fun j e => by cases e; omega)
          clear hM5 hc5 hox hsy hB5 hMq0 hMq1 hMq2 hMq3
          generalize (w5.setCell ⟨M, 0, none⟩ (.slice A l.length c)).setCell ⟨M, 1, none⟩ (.int .i64 (at' : Int)) = wz at hgz hMz hcz hoz hsz hBz ⊢
          clear ha0 hx0 hy0 hM2 hcr2 hB2 hBa r0 r1
          have hcD := hcz.drew
          have hwr : IntKind.i64.wrap ((l.length : Int) - at') = (l.length : Int) - at' := IntWalk.i64_in _ (by have := hcz.len; omega)
          have s1 := hoz.bs.drew.str
          have s2 := hsz.drew.str
          have k1 : wz.drew.cell? ⟨M, 1, none⟩ = some (.int .i64 (at' : Int)) := blk_cell hMz 1
          have t1 := fun q => (hoz.bs.drewN q).str
          have t2 := fun q => (hsz.drewN q).str
          have t3 : ∀ q, (wz.drewN q).cell? ⟨M, 1, none⟩ = some (.int .i64 (at' : Int)) := fun q => blk_cell hMz 1
          have T1 := Lib.hid t1
          have T2 := Lib.hid t2
          have T3 := Lib.hid t3
          clear t1 t2 t3
          go_region_held (fun w' => (convert 22 9 (.slice (A3) m3 c3)).run Try.prog w' = .ok (.string (strOf (X))) w' ∧ (convert 22 9 (.slice (A4) m4 c4)).run Try.prog w' = .ok (.string (strOf (X))) w' ∧ w'.cell? ⟨M, 1, none⟩ = some (.int .i64 (at' : Int))) (first | exact ⟨s1, s2, k1⟩ | exact ⟨T1.out _, T2.out _, T3.out _⟩) (first
            | (go_at_call 29; refine (At_calls hcD).mono ?_; rintro e w6 ⟨rfl, rfl⟩)
            | (go_at_call 28; refine (Left_calls hcD).mono ?_; rintro e w7 ⟨rfl, nq, rfl⟩))
          go_wp2_with fail
          have hcy := hcz.drewN (1 + nq)
          have hoy : Own (wz.drewN (1 + nq)) (M + 1) (A3) m3 c3 (X) := hoz
          have hMy : (wz.drewN (1 + nq)).heap[M]? = some (.cells #[.slice A l.length c, .int .i64 (at' : Int)] 53 (0, 0)) := hMz
          have hBy := below_drewN hBz (1 + nq)
          clear T1 T2 T3 s1 s2 k1 hcD hcz hoz hsz hMz hBz hwr
          have hmx := hoy.bs.cap
          unfold maxLen at hmx
          generalize wz.drewN (1 + nq) = wy at hcy hoy hMy hBy ⊢
          go_loopw [16] (fun j w' => ∃ (i : Nat) (X' : List UInt8), i ≤ m3 ∧ j = .int .i64 i ∧ Own w' (M + 1) (A3) m3 c3 X' ∧ Cur w' g at' l ∧ w'.heap[M]? = some (.cells #[.slice A l.length c, .int .i64 (at' : Int)] 53 (0, 0)) ∧ Below w1.heap.size w1 w') (fun j _ => m3 - (intOf j).toNat)
          case atStart => exact ⟨0, _, Nat.zero_le _, rfl, hoy, hcy, hMy, hBy⟩
          case round =>
            obtain ⟨i, X', hi, rfl, ho', hc', hM', hB'⟩ := hrel
            by_cases him : i < m3
            · obtain ⟨gx, hgx, hbx, hlx, kx, fx, hset⟩ := ho'.at_ (k := i) (by rw [ho'.2]; exact him)
              subst hgx
              have ho2 : Own (wr.setCell ⟨gx, i, none⟩ (.int .u8 71)) (M + 1) (some ⟨gx, 0, none⟩) m3 c3 (X'.set i 71) := hset 71
              have HO := Lib.hid ho2
              clear hset ho2
              go_wp2
              go_roundw
              case rel => exact ⟨i + 1, _, by omega, by go_num, HO.out, hc'.grown (grown_setCell _ _ _ _) (fun j e => by injection e with e; omega), ((grown_setCell _ gx i (.int .u8 71)).block M (blk_lt hM') (fun e => by injection e with e; omega)).trans hM', hB'.grown (grown_setCell _ _ _ _) hB'.size (fun j e => by cases e; omega)⟩
              case measure => simp [intOf]; omega
            · have hend : i = m3 := by omega
              go_wp2
              go_roundw
              case rel => exact ⟨k + 1, at', by omega, by omega, by go_num, hc', hM', hB'⟩
              case measure => simp [intOf]; omega
        · subst hkd
          have hrt := fun (W : World) (hW : Bs W A l.length c l) => rNumber_calls hW hat (by omega) N
          have htk := Number_any hcr2 N
          generalize numS l at_ N = x at hrt htk
          have Hrt := Lib.hid hrt
          clear hrt
          go_wp2_with fail
          refine htk.mono ?_
          rintro e w4 ⟨rfl, hc4, hg4⟩
          have hsz4 := hg4.size
          have ha4 := (hg4.block wr.heap.size (by omega) (fun e => by injection e with e; omega)).trans ha0
          have hM4 := (hg4.block M (by omega) (fun e => by injection e with e; omega)).trans hM2
          have hB4 := hB2.grown hg4 hB2.size (fun j e => by cases e; omega)
          have kM0 := blk_cell hM4 0
          have kM1 := blk_cell hM4 1
          have ka1 := blk_cell ha4 1
          have ho3 := hx0.grown hg4 (fun ad e e2 => by cases e; injection e2 with e2; simp only at e2; omega)
          have hy4 := hy0.grown hg4 (fun ad e e2 => by cases e; injection e2 with e2; simp only at e2; omega)
          go_wp2_with fail
          refine (Hrt.out w4 (h.below (below_then hb1 hb1.size hB4))).mono ?_
          rintro e w5 ⟨rfl, hb5⟩
          have hM5 := (hb5.block M (by omega)).trans hM4
          have hc5 := hc4.below hb5
          have hB5 := below_then hB4 hB4.size hb5
          have hMq0 := blk_cell hM5 0
          have hMq1 := blk_cell hM5 1
          have hMq2 := blk_frozen hM5 0
          have hMq3 := blk_frozen hM5 1
          have hox := ho3.below hb5
          have hsy := hy4.below hb5
          have hsyb : ∀ ad, some (⟨wr.heap.size + 1 + 1, 0, none⟩ : Addr) = some ad → M < ad.block := fun ad e => by cases e; show M < wr.heap.size + 1 + 1; omega
          clear kM0 kM1 ka1 ha4 hM4 hB4 hc4 ho3 hy4 hb5 hg4
          obtain ⟨V, er, at'⟩ := x
          simp only at *
          go_wp2_with fail
          have hMz := blk_set (blk_set hM5 0 (.slice A l.length c)) 1 (.int .i64 (at' : Int))
          have hgz : w5.grownBy ((w5.setCell ⟨M, 0, none⟩ (.slice A l.length c)).setCell ⟨M, 1, none⟩ (.int .i64 (at' : Int))) (some M) := grown_trans (grown_setCell _ _ _ _) (grown_setCell _ _ _ _)
          have hcz := hc5.grown hgz (fun j e => by injection e with e; omega)
          have hoz := hox.grown hgz (fun ad e e2 => by have := (hox.blk ad e).1; injection e2 with e2; omega)
          have hsz := hsy.grown hgz (fun ad e e2 => by have := hsyb ad e; injection e2 with e2; omega)
          have hBz := hB5.grown hgz hB5.size (fun j e => by cases e; omega)
          clear hM5 hc5 hox hsy hB5 hMq0 hMq1 hMq2 hMq3
          generalize (w5.setCell ⟨M, 0, none⟩ (.slice A l.length c)).setCell ⟨M, 1, none⟩ (.int .i64 (at' : Int)) = wz at hgz hMz hcz hoz hsz hBz ⊢
          clear ha0 hx0 hy0 hM2 hcr2 hB2 hBa r0 r1
          have hcD := hcz.drew
          have hwr : IntKind.i64.wrap ((l.length : Int) - at') = (l.length : Int) - at' := IntWalk.i64_in _ (by have := hcz.len; omega)
          have s1 := hoz.bs.drew.str
          have s2 := hsz.drew.str
          have k1 : wz.drew.cell? ⟨M, 1, none⟩ = some (.int .i64 (at' : Int)) := blk_cell hMz 1
          have t1 := fun q => (hoz.bs.drewN q).str
          have t2 := fun q => (hsz.drewN q).str
          have t3 : ∀ q, (wz.drewN q).cell? ⟨M, 1, none⟩ = some (.int .i64 (at' : Int)) := fun q => blk_cell hMz 1
          have T1 := Lib.hid t1
          have T2 := Lib.hid t2
          have T3 := Lib.hid t3
          clear t1 t2 t3
          go_region_held (fun w' => (convert 22 9 (.slice ((some ⟨wr.heap.size + 1, 0, none⟩ : Option Addr)) 0 0)).run Try.prog w' = .ok (.string (strOf ([]))) w' ∧ (convert 22 9 (.slice ((some ⟨wr.heap.size + 1 + 1, 0, none⟩ : Option Addr)) 0 0)).run Try.prog w' = .ok (.string (strOf ([]))) w' ∧ w'.cell? ⟨M, 1, none⟩ = some (.int .i64 (at' : Int))) (first | exact ⟨s1, s2, k1⟩ | exact ⟨T1.out _, T2.out _, T3.out _⟩) (first
            | (go_at_call 29; refine (At_calls hcD).mono ?_; rintro e w6 ⟨rfl, rfl⟩)
            | (go_at_call 28; refine (Left_calls hcD).mono ?_; rintro e w7 ⟨rfl, nq, rfl⟩))
          go_wp2_with fail
          have hcy := hcz.drewN (1 + nq)
          have hoy : Own (wz.drewN (1 + nq)) (M + 1) ((some ⟨wr.heap.size + 1, 0, none⟩ : Option Addr)) 0 0 ([]) := hoz
          have hMy : (wz.drewN (1 + nq)).heap[M]? = some (.cells #[.slice A l.length c, .int .i64 (at' : Int)] 53 (0, 0)) := hMz
          have hBy := below_drewN hBz (1 + nq)
          clear T1 T2 T3 s1 s2 k1 hcD hcz hoz hsz hMz hBz hwr
          have hmx := hoy.bs.cap
          unfold maxLen at hmx
          generalize wz.drewN (1 + nq) = wy at hcy hoy hMy hBy ⊢
          go_loopw [16] (fun j w' => ∃ (i : Nat) (X' : List UInt8), i ≤ 0 ∧ j = .int .i64 i ∧ Own w' (M + 1) ((some ⟨wr.heap.size + 1, 0, none⟩ : Option Addr)) 0 0 X' ∧ Cur w' g at' l ∧ w'.heap[M]? = some (.cells #[.slice A l.length c, .int .i64 (at' : Int)] 53 (0, 0)) ∧ Below w1.heap.size w1 w') (fun j _ => 0 - (intOf j).toNat)
          case atStart => exact ⟨0, _, Nat.zero_le _, rfl, hoy, hcy, hMy, hBy⟩
          case round =>
            obtain ⟨i, X', hi, rfl, ho', hc', hM', hB'⟩ := hrel
            obtain rfl : i = 0 := by omega
            go_wp2
            go_roundw
            case rel => exact ⟨k + 1, at', by omega, by omega, by go_num, hc', hM', hB'⟩
            case measure => simp [intOf]; omega
        · subst hkd
          obtain ⟨at', hat'⟩ : ∃ a, a = l.length := ⟨_, rfl⟩
          have hts : takeS l at_ ((l.length : Int) - at_) = (l.drop at_, 0, at') := by
            rw [takeS, if_neg (by omega), if_neg (by omega), show ((l.length : Int) - at_).toNat = l.length - at_ by omega, List.take_of_length_le (by simp), hat', show at_ + (l.length - at_) = l.length by omega]
          have hrt := fun (W : World) (hW : Bs W A l.length c l) => rTake_calls hW hat (by omega) ((l.length : Int) - at_)
          rw [hts] at hrt
          simp only at hrt
          have htk := Rest_calls hcr2
          rw [← hat'] at htk
          have Hrt := Lib.hid hrt
          clear hrt hts hat'
          go_wp2_with fail
          refine htk.mono ?_
          rintro e w4 ⟨A3, m3, c3, rfl, ho3, hc4, hg4⟩
          have hsz4 := hg4.size
          have ha4 := (hg4.block wr.heap.size (by omega) (fun e => by injection e with e; omega)).trans ha0
          have hM4 := (hg4.block M (by omega) (fun e => by injection e with e; omega)).trans hM2
          have hB4 := hB2.grown hg4 hB2.size (fun j e => by cases e; omega)
          have kM0 := blk_cell hM4 0
          have kM1 := blk_cell hM4 1
          have ka1 := blk_cell ha4 1
          go_wp2_with fail
          refine (Hrt.out w4 (h.below (below_then hb1 hb1.size hB4))).mono ?_
          rintro e w5 ⟨A4, m4, c4, rfl, ho5, hb5⟩
          have hM5 := (hb5.block M (by omega)).trans hM4
          have hc5 := hc4.below hb5
          have hB5 := below_then hB4 hB4.size hb5
          have hMq0 := blk_cell hM5 0
          have hMq1 := blk_cell hM5 1
          have hMq2 := blk_frozen hM5 0
          have hMq3 := blk_frozen hM5 1
          have hox := (ho3.below hb5).lower (B' := M + 1) (by omega)
          have hsy := ho5.bs
          have hsyb : ∀ ad, A4 = some ad → M < ad.block := fun ad e => by have := (ho5.blk ad e).1; omega
          clear kM0 kM1 ka1 ha4 hM4 hB4 hc4 ho3 ho5 hb5 hg4
          go_wp2_with fail
          have hMz := blk_set (blk_set hM5 0 (.slice A l.length c)) 1 (.int .i64 (at' : Int))
          have hgz : w5.grownBy ((w5.setCell ⟨M, 0, none⟩ (.slice A l.length c)).setCell ⟨M, 1, none⟩ (.int .i64 (at' : Int))) (some M) := grown_trans (grown_setCell _ _ _ _) (grown_setCell _ _ _ _)
          have hcz := hc5.grown hgz (fun j e => by injection e with e; omega)
          have hoz := hox.grown hgz (fun ad e e2 => by have := (hox.blk ad e).1; injection e2 with e2; omega)
          have hsz := hsy.grown hgz (fun ad e e2 => by have := hsyb ad e; injection e2 with e2; omega)
          have hBz := hB5.grown hgz hB5.size (fun j e => by cases e; omega)
          clear hM5 hc5 hox hsy hB5 hMq0 hMq1 hMq2 hMq3
          generalize (w5.setCell ⟨M, 0, none⟩ (.slice A l.length c)).setCell ⟨M, 1, none⟩ (.int .i64 (at' : Int)) = wz at hgz hMz hcz hoz hsz hBz ⊢
          clear ha0 hx0 hy0 hM2 hcr2 hB2 hBa r0 r1
          have hcD := hcz.drew
          have hwr : IntKind.i64.wrap ((l.length : Int) - at') = (l.length : Int) - at' := IntWalk.i64_in _ (by have := hcz.len; omega)
          have s1 := hoz.bs.drew.str
          have s2 := hsz.drew.str
          have k1 : wz.drew.cell? ⟨M, 1, none⟩ = some (.int .i64 (at' : Int)) := blk_cell hMz 1
          have t1 := fun q => (hoz.bs.drewN q).str
          have t2 := fun q => (hsz.drewN q).str
          have t3 : ∀ q, (wz.drewN q).cell? ⟨M, 1, none⟩ = some (.int .i64 (at' : Int)) := fun q => blk_cell hMz 1
          have T1 := Lib.hid t1
          have T2 := Lib.hid t2
          have T3 := Lib.hid t3
          clear t1 t2 t3
          go_region_held (fun w' => (convert 22 9 (.slice (A3) m3 c3)).run Try.prog w' = .ok (.string (strOf (l.drop at_))) w' ∧ (convert 22 9 (.slice (A4) m4 c4)).run Try.prog w' = .ok (.string (strOf (l.drop at_))) w' ∧ w'.cell? ⟨M, 1, none⟩ = some (.int .i64 (at' : Int))) (first | exact ⟨s1, s2, k1⟩ | exact ⟨T1.out _, T2.out _, T3.out _⟩) (first
            | (go_at_call 29; refine (At_calls hcD).mono ?_; rintro e w6 ⟨rfl, rfl⟩)
            | (go_at_call 28; refine (Left_calls hcD).mono ?_; rintro e w7 ⟨rfl, nq, rfl⟩))
          go_wp2_with fail
          have hcy := hcz.drewN (1 + nq)
          have hoy : Own (wz.drewN (1 + nq)) (M + 1) (A3) m3 c3 (l.drop at_) := hoz
          have hMy : (wz.drewN (1 + nq)).heap[M]? = some (.cells #[.slice A l.length c, .int .i64 (at' : Int)] 53 (0, 0)) := hMz
          have hBy := below_drewN hBz (1 + nq)
          clear T1 T2 T3 s1 s2 k1 hcD hcz hoz hsz hMz hBz hwr
          have hmx := hoy.bs.cap
          unfold maxLen at hmx
          generalize wz.drewN (1 + nq) = wy at hcy hoy hMy hBy ⊢
          go_loopw [16] (fun j w' => ∃ (i : Nat) (X' : List UInt8), i ≤ m3 ∧ j = .int .i64 i ∧ Own w' (M + 1) (A3) m3 c3 X' ∧ Cur w' g at' l ∧ w'.heap[M]? = some (.cells #[.slice A l.length c, .int .i64 (at' : Int)] 53 (0, 0)) ∧ Below w1.heap.size w1 w') (fun j _ => m3 - (intOf j).toNat)
          case atStart => exact ⟨0, _, Nat.zero_le _, rfl, hoy, hcy, hMy, hBy⟩
          case round =>
            obtain ⟨i, X', hi, rfl, ho', hc', hM', hB'⟩ := hrel
            by_cases him : i < m3
            · obtain ⟨gx, hgx, hbx, hlx, kx, fx, hset⟩ := ho'.at_ (k := i) (by rw [ho'.2]; exact him)
              subst hgx
              have ho2 : Own (wr.setCell ⟨gx, i, none⟩ (.int .u8 71)) (M + 1) (some ⟨gx, 0, none⟩) m3 c3 (X'.set i 71) := hset 71
              have HO := Lib.hid ho2
              clear hset ho2
              go_wp2
              go_roundw
              case rel => exact ⟨i + 1, _, by omega, by go_num, HO.out, hc'.grown (grown_setCell _ _ _ _) (fun j e => by injection e with e; omega), ((grown_setCell _ gx i (.int .u8 71)).block M (blk_lt hM') (fun e => by injection e with e; omega)).trans hM', hB'.grown (grown_setCell _ _ _ _) hB'.size (fun j e => by cases e; omega)⟩
              case measure => simp [intOf]; omega
            · have hend : i = m3 := by omega
              go_wp2
              go_roundw
              case rel => exact ⟨k + 1, at', by omega, by omega, by go_num, hc', hM', hB'⟩
              case measure => simp [intOf]; omega
        · subst hkd
          have hrt := fun (W : World) => rBack_calls (A := A) (c := c) (w := W) hat (by omega) N
          have htk := Back_any hcr2 N
          generalize backS at_ N = x at hrt htk
          have Hrt := Lib.hid hrt
          clear hrt
          go_wp2_with fail
          refine htk.mono ?_
          rintro e w4 ⟨rfl, hc4, hg4⟩
          have hsz4 := hg4.size
          have ha4 := (hg4.block wr.heap.size (by omega) (fun e => by injection e with e; omega)).trans ha0
          have hM4 := (hg4.block M (by omega) (fun e => by injection e with e; omega)).trans hM2
          have hB4 := hB2.grown hg4 hB2.size (fun j e => by cases e; omega)
          have kM0 := blk_cell hM4 0
          have kM1 := blk_cell hM4 1
          have ka1 := blk_cell ha4 1
          have ho3 := hx0.grown hg4 (fun ad e e2 => by cases e; injection e2 with e2; simp only at e2; omega)
          have hy4 := hy0.grown hg4 (fun ad e e2 => by cases e; injection e2 with e2; simp only at e2; omega)
          go_wp2_with fail
          refine (Hrt.out w4).mono ?_
          rintro e w5 ⟨rfl, hb5⟩
          have hM5 := (hb5.block M (by omega)).trans hM4
          have hc5 := hc4.below hb5
          have hB5 := below_then hB4 hB4.size hb5
          have hMq0 := blk_cell hM5 0
          have hMq1 := blk_cell hM5 1
          have hMq2 := blk_frozen hM5 0
          have hMq3 := blk_frozen hM5 1
          have hox := ho3.below hb5
          have hsy := hy4.below hb5
          have hsyb : ∀ ad, some (⟨wr.heap.size + 1 + 1, 0, none⟩ : Addr) = some ad → M < ad.block := fun ad e => by cases e; show M < wr.heap.size + 1 + 1; omega
          clear kM0 kM1 ka1 ha4 hM4 hB4 hc4 ho3 hy4 hb5 hg4
          obtain ⟨er, at'⟩ := x
          simp only at *
          go_wp2_with fail
          have hMz := blk_set (blk_set hM5 0 (.slice A l.length c)) 1 (.int .i64 (at' : Int))
          have hgz : w5.grownBy ((w5.setCell ⟨M, 0, none⟩ (.slice A l.length c)).setCell ⟨M, 1, none⟩ (.int .i64 (at' : Int))) (some M) := grown_trans (grown_setCell _ _ _ _) (grown_setCell _ _ _ _)
          have hcz := hc5.grown hgz (fun j e => by injection e with e; omega)
          have hoz := hox.grown hgz (fun ad e e2 => by have := (hox.blk ad e).1; injection e2 with e2; omega)
          have hsz := hsy.grown hgz (fun ad e e2 => by have := hsyb ad e; injection e2 with e2; omega)
          have hBz := hB5.grown hgz hB5.size (fun j e => by cases e; omega)
          clear hM5 hc5 hox hsy hB5 hMq0 hMq1 hMq2 hMq3
          generalize (w5.setCell ⟨M, 0, none⟩ (.slice A l.length c)).setCell ⟨M, 1, none⟩ (.int .i64 (at' : Int)) = wz at hgz hMz hcz hoz hsz hBz ⊢
          clear ha0 hx0 hy0 hM2 hcr2 hB2 hBa r0 r1
          have hcD := hcz.drew
          have hwr : IntKind.i64.wrap ((l.length : Int) - at') = (l.length : Int) - at' := IntWalk.i64_in _ (by have := hcz.len; omega)
          have s1 := hoz.bs.drew.str
          have s2 := hsz.drew.str
          have k1 : wz.drew.cell? ⟨M, 1, none⟩ = some (.int .i64 (at' : Int)) := blk_cell hMz 1
          have t1 := fun q => (hoz.bs.drewN q).str
          have t2 := fun q => (hsz.drewN q).str
          have t3 : ∀ q, (wz.drewN q).cell? ⟨M, 1, none⟩ = some (.int .i64 (at' : Int)) := fun q => blk_cell hMz 1
          have T1 := Lib.hid t1
          have T2 := Lib.hid t2
          have T3 := Lib.hid t3
          clear t1 t2 t3
          go_region_held (fun w' => (convert 22 9 (.slice ((some ⟨wr.heap.size + 1, 0, none⟩ : Option Addr)) 0 0)).run Try.prog w' = .ok (.string (strOf ([]))) w' ∧ (convert 22 9 (.slice ((some ⟨wr.heap.size + 1 + 1, 0, none⟩ : Option Addr)) 0 0)).run Try.prog w' = .ok (.string (strOf ([]))) w' ∧ w'.cell? ⟨M, 1, none⟩ = some (.int .i64 (at' : Int))) (first | exact ⟨s1, s2, k1⟩ | exact ⟨T1.out _, T2.out _, T3.out _⟩) (first
            | (go_at_call 29; refine (At_calls hcD).mono ?_; rintro e w6 ⟨rfl, rfl⟩)
            | (go_at_call 28; refine (Left_calls hcD).mono ?_; rintro e w7 ⟨rfl, nq, rfl⟩))
          go_wp2_with fail
          have hcy := hcz.drewN (1 + nq)
          have hoy : Own (wz.drewN (1 + nq)) (M + 1) ((some ⟨wr.heap.size + 1, 0, none⟩ : Option Addr)) 0 0 ([]) := hoz
          have hMy : (wz.drewN (1 + nq)).heap[M]? = some (.cells #[.slice A l.length c, .int .i64 (at' : Int)] 53 (0, 0)) := hMz
          have hBy := below_drewN hBz (1 + nq)
          clear T1 T2 T3 s1 s2 k1 hcD hcz hoz hsz hMz hBz hwr
          have hmx := hoy.bs.cap
          unfold maxLen at hmx
          generalize wz.drewN (1 + nq) = wy at hcy hoy hMy hBy ⊢
          go_loopw [16] (fun j w' => ∃ (i : Nat) (X' : List UInt8), i ≤ 0 ∧ j = .int .i64 i ∧ Own w' (M + 1) ((some ⟨wr.heap.size + 1, 0, none⟩ : Option Addr)) 0 0 X' ∧ Cur w' g at' l ∧ w'.heap[M]? = some (.cells #[.slice A l.length c, .int .i64 (at' : Int)] 53 (0, 0)) ∧ Below w1.heap.size w1 w') (fun j _ => 0 - (intOf j).toNat)
          case atStart => exact ⟨0, _, Nat.zero_le _, rfl, hoy, hcy, hMy, hBy⟩
          case round =>
            obtain ⟨i, X', hi, rfl, ho', hc', hM', hB'⟩ := hrel
            obtain rfl : i = 0 := by omega
            go_wp2
            go_roundw
            case rel => exact ⟨k + 1, at', by omega, by omega, by go_num, hc', hM', hB'⟩
            case measure => simp [intOf]; omega
        · obtain ⟨n1, n2, n3, n4⟩ := hkd
          obtain ⟨at', rfl⟩ : ∃ a, a = at_ := ⟨_, rfl⟩
          go_wp2_with fail
          have hMz := hM2
          have hcz := hcr2
          have hoz := hx0
          have hsz := hy0
          have hBz := hB2
          generalize (((wr.alloc (.cells #[.int .i64 kind, .int .i64 N] 55)).alloc (.cells #[] 5)).alloc (.cells #[] 5)) = wz at hMz hcz hoz hsz hBz ⊢
          clear ha0 hx0 hy0 hM2 hcr2 hB2 hBa r0 r1
          have hcD := hcz.drew
          have hwr : IntKind.i64.wrap ((l.length : Int) - at') = (l.length : Int) - at' := IntWalk.i64_in _ (by have := hcz.len; omega)
          have s1 := hoz.bs.drew.str
          have s2 := hsz.drew.str
          have k1 : wz.drew.cell? ⟨M, 1, none⟩ = some (.int .i64 (at' : Int)) := blk_cell hMz 1
          have t1 := fun q => (hoz.bs.drewN q).str
          have t2 := fun q => (hsz.drewN q).str
          have t3 : ∀ q, (wz.drewN q).cell? ⟨M, 1, none⟩ = some (.int .i64 (at' : Int)) := fun q => blk_cell hMz 1
          have T1 := Lib.hid t1
          have T2 := Lib.hid t2
          have T3 := Lib.hid t3
          clear t1 t2 t3
          go_region_held (fun w' => (convert 22 9 (.slice ((some ⟨wr.heap.size + 1, 0, none⟩ : Option Addr)) 0 0)).run Try.prog w' = .ok (.string (strOf ([]))) w' ∧ (convert 22 9 (.slice ((some ⟨wr.heap.size + 1 + 1, 0, none⟩ : Option Addr)) 0 0)).run Try.prog w' = .ok (.string (strOf ([]))) w' ∧ w'.cell? ⟨M, 1, none⟩ = some (.int .i64 (at' : Int))) (first | exact ⟨s1, s2, k1⟩ | exact ⟨T1.out _, T2.out _, T3.out _⟩) (first
            | (go_at_call 29; refine (At_calls hcD).mono ?_; rintro e w6 ⟨rfl, rfl⟩)
            | (go_at_call 28; refine (Left_calls hcD).mono ?_; rintro e w7 ⟨rfl, nq, rfl⟩))
          go_wp2_with fail
          have hcy := hcz.drewN (1 + nq)
          have hoy : Own (wz.drewN (1 + nq)) (M + 1) ((some ⟨wr.heap.size + 1, 0, none⟩ : Option Addr)) 0 0 ([]) := hoz
          have hMy : (wz.drewN (1 + nq)).heap[M]? = some (.cells #[.slice A l.length c, .int .i64 (at' : Int)] 53 (0, 0)) := hMz
          have hBy := below_drewN hBz (1 + nq)
          clear T1 T2 T3 s1 s2 k1 hcD hcz hoz hsz hMz hBz hwr
          have hmx := hoy.bs.cap
          unfold maxLen at hmx
          generalize wz.drewN (1 + nq) = wy at hcy hoy hMy hBy ⊢
          go_loopw [16] (fun j w' => ∃ (i : Nat) (X' : List UInt8), i ≤ 0 ∧ j = .int .i64 i ∧ Own w' (M + 1) ((some ⟨wr.heap.size + 1, 0, none⟩ : Option Addr)) 0 0 X' ∧ Cur w' g at' l ∧ w'.heap[M]? = some (.cells #[.slice A l.length c, .int .i64 (at' : Int)] 53 (0, 0)) ∧ Below w1.heap.size w1 w') (fun j _ => 0 - (intOf j).toNat)
          case atStart => exact ⟨0, _, Nat.zero_le _, rfl, hoy, hcy, hMy, hBy⟩
          case round =>
            obtain ⟨i, X', hi, rfl, ho', hc', hM', hB'⟩ := hrel
            obtain rfl : i = 0 := by omega
            go_wp2
            go_roundw
            case rel => exact ⟨k + 1, at', by omega, by omega, by go_num, hc', hM', hB'⟩
            case measure => simp [intOf]; omega
      · have hend : (k : Int) < (zs.length : Int) → (k : Int) < 40 → False := fun h1 h2 => hlast ⟨by omega, by omega⟩
        by_cases hk1 : k < zs.length
        · have hk2 : k = 40 := by omega
          subst hk2
          clear hlast hend
          go_wp2_with (go_at_call 12; refine (alive1_calls _).mono ?_; rintro e w5 ⟨rfl, hb5⟩; have hB5 := below_then hbw hbw.size hb5; have s1 := ((hown1.bs.below hbr).below hb5).str; have s2 := (h.below hB5).str)
          go_ret
          exact ⟨rfl, hB5⟩
        · have hk2 : k = zs.length := by omega
          clear hlast hend
          go_wp2_with (go_at_call 12; refine (alive1_calls _).mono ?_; rintro e w5 ⟨rfl, hb5⟩; have hB5 := below_then hbw hbw.size hb5; have s1 := ((hown1.bs.below hbr).below hb5).str; have s2 := (h.below hB5).str)
          go_ret
          exact ⟨rfl, hB5⟩
end Go.Proofs.Ythopnficbgkebaa
