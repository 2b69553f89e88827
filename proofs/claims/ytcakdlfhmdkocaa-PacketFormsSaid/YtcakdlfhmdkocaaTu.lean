/- A packet in parts: the document's answer. -/
import Derived.Test.YtcakdlfhmdkocaaTt
namespace Go.Proofs.Ytcakdlfhmdkocaa
open Go.RowKit

set_option maxRecDepth 100000 in
set_option maxHeartbeats 3200000 in
theorem rParts_calls (tag : Int) {A D : Option Addr} {n c m d : Nat} {l : List UInt8} {zs : List Int} {w : World} (h : Bs w A n c l) (hn : n ≤ 4294967) (hz : Is w D m d zs) (hm : m ≤ 4294967) :
    Calls Try.prog 33 #[.int .i64 tag, .slice A n c, .slice D m d] w fun e w' => ∃ A' m' c' r, e = .returned (.tuple #[.slice A' m' c', .int .i64 r]) ∧ Own w' w.heap.size A' m' c' (partsF tag zs l).1 ∧ r = (partsF tag zs l).2 ∧ Below w.heap.size w w' := by
  by_cases hp : mayPart tag = true
  · have ht := Lib.hid (show partsF tag zs l = endT l.length (partsT true zs [UInt8.ofNat (192 + tag.toNat)] l) by rw [partsF, if_pos hp])
    obtain ⟨t, rfl, ht18⟩ := mayPart_le hp
    simp only [Int.toNat_natCast] at ht
    obtain rfl := h.2
    obtain rfl := hz.2
    have hlit := own_lit w #[.int .u8 (192 + (t : Int))] [UInt8.ofNat (192 + t)] (bvs_1 _ _ (by omega)) 1 rfl (by omega)
    have hb1 := (Below.refl w.heap.size w).alloc (Nat.le_refl _) (.cells #[.int .u8 (192 + (t : Int))] 5)
    go_enter Try.func33, Try.ntmps33
    go_wp2_with (go_at_call 24; refine (rMayPart_calls _ _).mono ?_; rw [hp]; rintro e w1 ⟨rfl, rfl⟩)
    generalize w.alloc (.cells #[.int .u8 (192 + (t : Int))] 5) = w1 at hlit hb1 ⊢
    go_loopw [8, 9, 10] (fun o r i wr => ∃ (k : Nat) (Ao : Option Addr) (mo co : Nat) (Ar : Option Addr) (mr cr : Nat) (outl restl : List UInt8), k ≤ zs.length ∧ i = .int .i64 k ∧ o = .slice Ao mo co ∧ r = .slice Ar mr cr ∧
      Own wr w.heap.size Ao mo co outl ∧ Bs w Ar mr cr restl ∧ Below w.heap.size w wr ∧ mo + mr ≤ 1 + l.length + k ∧ Hid (partsT (k == 0) (zs.drop k) outl restl = partsT true zs [UInt8.ofNat (192 + t)] l)) (fun _ _ i _ => zs.length - (intOf i).toNat)
    case atStart => exact ⟨0, _, _, _, _, _, _, _, _, Nat.zero_le _, rfl, rfl, rfl, hlit, h, hb1, by omega, Lib.hid rfl⟩
    case round =>
      obtain ⟨k, Ao, mo, co, Ar, mr, cr, outl, restl, hk, rfl, rfl, rfl, hown, hr, hbr, hmo, hfi⟩ := hrel
      by_cases hk1 : k < zs.length
      · obtain ⟨b, off, hD, hbk, hcell0⟩ := hz.at_ hk1
        subst hD
        have hcell := (hbr.cell (p := ⟨b, off + k, none⟩) hbk).trans hcell0
        have hdr : zs.drop k = zs[k] :: zs.drop (k + 1) := List.drop_eq_getElem_cons hk1
        have hbad := fun (hh : badSize (k == 0) (zs[k]) restl.length = true) => partsT_bad (first := (k == 0)) (z := zs[k]) (zs := zs.drop (k + 1)) (out := outl) (rest := restl) hh
        have hon := fun (hh : badSize (k == 0) (zs[k]) restl.length = false) => partsT_on (first := (k == 0)) (z := zs[k]) (zs := zs.drop (k + 1)) (out := outl) (rest := restl) hh
        rw [← hdr, hfi.out] at hbad hon
        have Hbad := Lib.hid hbad
        have Hon := Lib.hid hon
        generalize zs[k] = z at hcell0 hcell Hbad Hon
        clear hdr hbad hon
        have hrl : restl.length = mr := hr.2
        by_cases z0 : z < 0
        · have hB : badSize (k == 0) z restl.length = true := by simp [badSize, z0]
          have hfin := Lib.hid (Hbad.out hB)
          clear hB hrl
          go_wp2
          go_ret2
          rw [ht.out, hfin.out, endT]
          exact ⟨_, _, _, _, rfl, Own.nil_ _ _, rfl, hbr⟩
        · by_cases z30 : 30 < z
          · have hB : badSize (k == 0) z restl.length = true := by simp [badSize, z30]
            have hfin := Lib.hid (Hbad.out hB)
            clear hB hrl
            go_wp2
            go_ret2
            rw [ht.out, hfin.out, endT]
            exact ⟨_, _, _, _, rfl, Own.nil_ _ _, rfl, hbr⟩
          · obtain ⟨j, rfl⟩ := Int.eq_ofNat_of_zero_le (by omega : 0 ≤ z)
            have hj : j ≤ 30 := by omega
            obtain ⟨p, hpe⟩ : ∃ p, p = 2 ^ j := ⟨_, rfl⟩
            have Hpe := Lib.hid hpe
            have hw : wrap64 ((2 : Int) ^ j) = (p : Int) := by rw [wrap_pow hj, hpe]; simp
            have hw2 : IntKind.i64.wrap ((2 : Int) ^ j) = (p : Int) := by rw [IntWalk.i64_in _ (by have := pow_le30 hj; omega), hpe]; simp
            have hc0 : k = 0 → wr.cell? ⟨b, off, none⟩ = some (.int .i64 (j : Int)) := fun e => by rw [e, Nat.add_zero] at hcell; exact hcell
            have hbS : badSize (k == 0) (j : Int) restl.length = ((k == 0) && decide (j < 9) || decide (mr < p)) := by
              unfold badSize
              rw [hrl, Int.toNat_natCast, ← hpe, decide_eq_false (by omega : ¬ (j : Int) < 0), decide_eq_false (by omega : ¬ 30 < (j : Int)), show decide ((j : Int) < 9) = decide (j < 9) from decide_eq_decide.mpr (by omega)]
              simp
            have hpp : 1 ≤ p := by rw [hpe]; exact Nat.pow_pos (by omega)
            clear hpe hrl
            by_cases hsz : mr < p
            · have hB : badSize (k == 0) (j : Int) restl.length = true := by rw [hbS]; simp [hsz]
              have hfin := Lib.hid (Hbad.out hB)
              clear hB hbS
              go_wp2
              all_goals
                go_ret2
                rw [ht.out, hfin.out, endT]
                exact ⟨_, _, _, _, rfl, Own.nil_ _ _, rfl, hbr⟩
            · by_cases z9 : k = 0 ∧ j < 9
              · have hB : badSize (k == 0) (j : Int) restl.length = true := by rw [hbS]; simp [z9]
                have hfin := Lib.hid (Hbad.out hB)
                obtain ⟨hk0, hj9⟩ := z9
                clear hB hbS
                subst hk0
                rw [Nat.add_zero] at hcell
                go_wp2
                go_ret2
                rw [ht.out, hfin.out, endT]
                exact ⟨_, _, _, _, rfl, Own.nil_ _ _, rfl, hbr⟩
              · have hB : badSize (k == 0) (j : Int) restl.length = false := by
                  rw [hbS, decide_eq_false hsz]
                  simp only [Bool.or_false, Bool.and_eq_false_iff, beq_eq_false_iff_ne, decide_eq_false_iff_not]
                  omega
                have hfin := Hon.out hB
                rw [Int.toNat_natCast, ← Hpe.out] at hfin
                have Hfin := Lib.hid hfin
                have hk9 : k = 0 → 9 ≤ j := by omega
                clear hB hbS hfin
                have hup := hr.upto (k := p) (by omega)
                have hpc : p ≤ cr := by have := hr.cap; omega
                have hbs := hbr.size
                go_wp2_with (first
                  | (at_builtin; refine app8_one (.tmp 66) (.tmp 73) rfl rfl rfl hown [UInt8.ofNat (224 + j)] _ (bvs_1 _ (224 + (j : Int)) (by omega)) 1 rfl rfl (by omega) hbs ?_; intro A3 c3 w3 hown3 hg3 hat3; go_must (have hb3 : Below w.heap.size w w3 := hown.grew hbr hbr.size hg3; have hcell := (hb3.cell (p := ⟨b, off + k, none⟩) hbk).trans hcell0))
                  | (at_builtin; refine app8 (.tmp 75) (.tmp 78) rfl rfl rfl hown3 rfl (hup.below hb3) (by omega) hb3.size ?_; intro A4 c4 w4 hown4 hg4 hat4))
                all_goals
                  have hb4 : Below w.heap.size w w4 := hb3.grown hg4 hb3.size (fun i e => by
                    cases A3 with
                    | none => cases e
                    | some ad => cases e; exact (hown3.blk _ rfl).1)
                  go_roundw
                  case rel => exact ⟨k + 1, A4, _, c4, _, _, _, _, _, by omega, by go_num, rfl, rfl, hown4, hr.from_ (k := p) (by omega), hb4, by omega, Lib.hid (by rw [Hfin.out]; simp)⟩
                  case measure => simp [intOf]; omega
      · have hk2 : k = zs.length := by omega
        have hfin := hfi.out
        rw [hk2, List.drop_length, partsT] at hfin
        have Hfin := Lib.hid hfin.symm
        have hrl : restl.length = mr := hr.2
        clear hfin
        by_cases hlim : 60000 < l.length
        · go_wp2
          go_ret2
          rw [ht.out, Hfin.out, endT, if_pos hlim]
          exact ⟨_, _, _, _, rfl, Own.nil_ _ _, rfl, hbr⟩
        · have hE := Lib.hid (show endT l.length (some (outl, restl)) = (outl ++ lenS mr ++ restl, 0) by rw [endT, if_neg hlim, hrl])
          have hrb := hr.below hbr
          go_wp2_with (first
            | (go_at_call 54; go_must (refine (rLength_calls mr (by omega) wr).mono ?_; rintro e w3 ⟨A3, m3, c3, rfl, hown3, hb3⟩; have hown' := hown.below hb3; have hB3 := below_then hbr hbr.size hb3; have hm3 : m3 ≤ 5 := (by have h1 := hown3.2; have h3 := lenS_length mr; omega)))
            | (at_builtin; refine app8 (.tmp 86) (.tmp 89) rfl rfl rfl hown' rfl hown3.bs (by omega) hB3.size ?_; intro A4 c4 w4 hown4 hg4 hat4; go_must (have hB4 : Below w.heap.size w w4 := hown'.grew hB3 hB3.size hg4))
            | (at_builtin; refine app8 (.tmp 91) (.tmp 92) rfl rfl rfl hown4 rfl (hr.below hB4) (by omega) hB4.size ?_; intro A5 c5 w5 hown5 hg5 hat5))
          go_ret2
          rw [ht.out, Hfin.out, hE.out]
          exact ⟨_, _, _, _, rfl, hown5, rfl, hB4.grown hg5 hB4.size (fun i e => by
                        cases A4 with
                        | none => cases e
                        | some ad => cases e; exact (hown4.blk _ rfl).1)⟩
  · have ht := Lib.hid (show partsF tag zs l = ([], 1) by rw [partsF, if_neg hp])
    have hp : mayPart tag = false := by simpa using hp
    go_enter Try.func33, Try.ntmps33
    go_wp2_with (go_at_call 24; refine (rMayPart_calls _ _).mono ?_; rw [hp]; rintro e w1 ⟨rfl, rfl⟩)
    go_ret2
    rw [ht.out]
    exact ⟨_, _, _, _, rfl, Own.nil_ _ _, rfl, Below.refl _ _⟩
end Go.Proofs.Ytcakdlfhmdkocaa
