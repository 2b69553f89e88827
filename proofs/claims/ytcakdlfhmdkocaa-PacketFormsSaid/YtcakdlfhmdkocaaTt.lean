/- A packet in parts. -/
import Derived.Test.YtcakdlfhmdkocaaFs
import Derived.Test.YtcakdlfhmdkocaaFt
import Derived.Test.YtcakdlfhmdkocaaTm
import Derived.Test.YtcakdlfhmdkocaaIw
import Derived.Test.YtcakdlfhmdkocaaSt
namespace Go.Proofs.Ytcakdlfhmdkocaa
open Go.RowKit

/-- May a part of size z (its exponent) not be? -/
def badSize (first : Bool) (z : Int) (m : Nat) : Bool := decide (z < 0) || decide (30 < z) || (first && decide (z < 9)) || decide (m < 2 ^ z.toNat)
/-- The parts of those sizes, behind out; what is left of the bytes. -/
def partsT : Bool → List Int → List UInt8 → List UInt8 → Option (List UInt8 × List UInt8)
  | _, [], out, rest => some (out, rest)
  | first, z :: zs, out, rest => if badSize first z rest.length then none else partsT false zs (out ++ UInt8.ofNat (224 + z.toNat) :: rest.take (2 ^ z.toNat)) (rest.drop (2 ^ z.toNat))
def endT (n : Nat) : Option (List UInt8 × List UInt8) → List UInt8 × Int
  | none => ([], 1)
  | some (out, rest) => if 60000 < n then ([], 4) else (out ++ lenS rest.length ++ rest, 0)
/-- The bytes b in parts. -/
def partsF (tag : Int) (zs : List Int) (b : List UInt8) : List UInt8 × Int :=
  if mayPart tag then endT b.length (partsT true zs [UInt8.ofNat (192 + tag.toNat)] b) else ([], 1)

theorem partsT_bad {first : Bool} {z : Int} {zs : List Int} {out rest : List UInt8} (h : badSize first z rest.length = true) : partsT first (z :: zs) out rest = none := by rw [partsT, if_pos h]
theorem partsT_on {first : Bool} {z : Int} {zs : List Int} {out rest : List UInt8} (h : badSize first z rest.length = false) : partsT first (z :: zs) out rest = partsT false zs (out ++ UInt8.ofNat (224 + z.toNat) :: rest.take (2 ^ z.toNat)) (rest.drop (2 ^ z.toNat)) := by rw [partsT, h]; rfl
theorem mayPart_le {tag : Int} (h : mayPart tag = true) : ∃ t : Nat, tag = t ∧ t ≤ 18 := by
  unfold mayPart at h
  simp only [Bool.or_eq_true, beq_iff_eq] at h
  exact ⟨tag.toNat, by omega, by omega⟩
theorem div_pow_zero {p j : Nat} (h : p = 2 ^ j) (m : Nat) : (((m : Int) / 2 ^ j == 0) : Bool) = decide (m < p) := by
  subst h
  have hp : 0 < 2 ^ j := Nat.pow_pos (by omega)
  have e : (m : Int) / 2 ^ j = ((m / 2 ^ j : Nat) : Int) := by simp
  rw [e]
  by_cases hm : m < 2 ^ j
  · rw [Nat.div_eq_of_lt hm]; simp [hm]
  · have : 0 < m / 2 ^ j := Nat.div_pos (by omega) hp
    rw [decide_eq_false hm, beq_eq_false_iff_ne]
    omega

set_option maxRecDepth 100000 in
set_option maxHeartbeats 3200000 in
theorem Parts_calls (tag : Int) {A D : Option Addr} {n c m d : Nat} {l : List UInt8} {zs : List Int} {w : World} (h : Bs w A n c l) (hn : n ≤ 4294967) (hz : Is w D m d zs) (hm : m ≤ 4294967) :
    Calls Try.prog 32 #[.int .i64 tag, .slice A n c, .slice D m d] w fun e w' => ∃ A' m' c' r, e = .returned (.tuple #[.slice A' m' c', .int .i64 r]) ∧ Own w' w.heap.size A' m' c' (partsF tag zs l).1 ∧ r = (partsF tag zs l).2 ∧ Below w.heap.size w w' := by
  by_cases hp : mayPart tag = true
  · have ht := Lib.hid (show partsF tag zs l = endT l.length (partsT true zs [UInt8.ofNat (192 + tag.toNat)] l) by rw [partsF, if_pos hp])
    obtain ⟨t, rfl, ht18⟩ := mayPart_le hp
    simp only [Int.toNat_natCast] at ht
    obtain rfl := h.2
    obtain rfl := hz.2
    have hlit := own_lit w #[.int .u8 (192 + (t : Int))] [UInt8.ofNat (192 + t)] (bvs_1 _ _ (by omega)) 1 rfl (by omega)
    have hb1 := (Below.refl w.heap.size w).alloc (Nat.le_refl _) (.cells #[.int .u8 (192 + (t : Int))] 5)
    go_enter Try.func32, Try.ntmps32
    go_wp2_with (go_at_call 23; refine (MayPart_calls _ _).mono ?_; rw [hp]; rintro e w1 ⟨rfl, rfl⟩)
    generalize w.alloc (.cells #[.int .u8 (192 + (t : Int))] 5) = w1 at hlit hb1 ⊢
    go_loopw [8, 9, 22] (fun o r i wr => ∃ (k : Nat) (Ao : Option Addr) (mo co : Nat) (Ar : Option Addr) (mr cr : Nat) (outl restl : List UInt8), k ≤ zs.length ∧ i = .int .i64 k ∧ o = .slice Ao mo co ∧ r = .slice Ar mr cr ∧
      Own wr w.heap.size Ao mo co outl ∧ Bs w Ar mr cr restl ∧ Below w.heap.size w wr ∧ mo + mr ≤ 1 + l.length + k ∧ Hid (partsT (k == 0) (zs.drop k) outl restl = partsT true zs [UInt8.ofNat (192 + t)] l)) (fun _ _ i _ => zs.length - (intOf i).toNat)
    case atStart => exact ⟨0, _, _, _, _, _, _, _, _, Nat.zero_le _, rfl, rfl, rfl, hlit, h, hb1, by omega, Lib.hid rfl⟩
    case round =>
      obtain ⟨k, Ao, mo, co, Ar, mr, cr, outl, restl, hk, rfl, rfl, rfl, hown, hr, hbr, hmo, hfi⟩ := hrel
      by_cases hk1 : k < zs.length
      · obtain ⟨b, off, hD, hbk, hcell0⟩ := hz.at_ hk1
        subst hD
        have hcell := (hbr.cell (p := ⟨b, off + k, none⟩) hbk).trans hcell0
        have hdr : zs.drop k = zs[k] :: zs.drop (k + 1) := List.drop_eq_getElem_cons hk1
        have hbad := fun (hh : badSize (k == 0) (zs[k]) restl.length = true) => partsT_bad (first := (k == 0)) (z := zs[k]) (zs := zs.drop (k + 1)) (out := outl) (rest := restl) hh
        have hon := fun (hh : badSize (k == 0) (zs[k]) restl.length = false) => partsT_on (first := (k == 0)) (z := zs[k]) (zs := zs.drop (k + 1)) (out := outl) (rest := restl) hh
        rw [← hdr, hfi.out] at hbad hon
        have Hbad := Lib.hid hbad
        have Hon := Lib.hid hon
        generalize zs[k] = z at hcell Hbad Hon
        clear hdr hbad hon hcell0
        have hrl : restl.length = mr := hr.2
        by_cases z0 : z < 0
        · have hB : badSize (k == 0) z restl.length = true := by simp [badSize, z0]
          have hfin := Lib.hid (Hbad.out hB)
          clear hB hrl
          go_wp2
          go_ret2
          rw [ht.out, hfin.out, endT]
          exact ⟨_, _, _, _, rfl, Own.nil_ _ _, rfl, hbr⟩
        · by_cases z30 : 30 < z
          · have hB : badSize (k == 0) z restl.length = true := by simp [badSize, z30]
            have hfin := Lib.hid (Hbad.out hB)
            clear hB hrl
            go_wp2
            go_ret2
            rw [ht.out, hfin.out, endT]
            exact ⟨_, _, _, _, rfl, Own.nil_ _ _, rfl, hbr⟩
          · obtain ⟨j, rfl⟩ := Int.eq_ofNat_of_zero_le (by omega : 0 ≤ z)
            have hj : j ≤ 30 := by omega
            obtain ⟨p, hpe⟩ : ∃ p, p = 2 ^ j := ⟨_, rfl⟩
            have Hpe := Lib.hid hpe
            have hdv : (((mr : Int) / 2 ^ j == 0) : Bool) = decide (mr < p) := div_pow_zero hpe mr
            have hw : wrap64 ((2 : Int) ^ j) = (p : Int) := by rw [wrap_pow hj, hpe]; simp
            have hw2 : IntKind.i64.wrap ((2 : Int) ^ j) = (p : Int) := by rw [IntWalk.i64_in _ (by have := pow_le30 hj; omega), hpe]; simp
            have hbS : badSize (k == 0) (j : Int) restl.length = ((k == 0) && decide (j < 9) || decide (mr < p)) := by
              unfold badSize
              rw [hrl, Int.toNat_natCast, ← hpe, decide_eq_false (by omega : ¬ (j : Int) < 0), decide_eq_false (by omega : ¬ 30 < (j : Int)), show decide ((j : Int) < 9) = decide (j < 9) from decide_eq_decide.mpr (by omega)]
              simp
            have hpp : 1 ≤ p := by rw [hpe]; exact Nat.pow_pos (by omega)
            clear hpe hrl
            by_cases hsz : mr < p
            · have hB : badSize (k == 0) (j : Int) restl.length = true := by rw [hbS]; simp [hsz]
              have hfin := Lib.hid (Hbad.out hB)
              rw [decide_eq_true hsz] at hdv
              clear hB hbS hw hw2
              go_wp2
              all_goals
                go_ret2
                rw [ht.out, hfin.out, endT]
                exact ⟨_, _, _, _, rfl, Own.nil_ _ _, rfl, hbr⟩
            · by_cases z9 : k = 0 ∧ j < 9
              · have hB : badSize (k == 0) (j : Int) restl.length = true := by rw [hbS]; simp [z9]
                have hfin := Lib.hid (Hbad.out hB)
                rw [decide_eq_false hsz] at hdv
                obtain ⟨hk0, hj9⟩ := z9
                clear hB hbS hw hw2
                subst hk0
                rw [Nat.add_zero] at hcell
                go_wp2
                go_ret2
                rw [ht.out, hfin.out, endT]
                exact ⟨_, _, _, _, rfl, Own.nil_ _ _, rfl, hbr⟩
              · have hB : badSize (k == 0) (j : Int) restl.length = false := by
                  rw [hbS, decide_eq_false hsz]
                  simp only [Bool.or_false, Bool.and_eq_false_iff, beq_eq_false_iff_ne, decide_eq_false_iff_not]
                  omega
                have hfin := Hon.out hB
                rw [Int.toNat_natCast, ← Hpe.out] at hfin
                have Hfin := Lib.hid hfin
                rw [decide_eq_false hsz] at hdv
                have hk9 : k = 0 → 9 ≤ j := by omega
                clear hB hbS hfin
                have hu8 : IntKind.u8.wrap (IntKind.i64.wrap (224 + (j : Int))) = (((224 + j) % 256 : Nat) : Int) := by rw [IntWalk.i64_in _ (by omega), IntKind.wrap_u8]; omega
                have hbD : Below w.heap.size w (wr.alloc (.cells #[.int .u8 (IntKind.u8.wrap (IntKind.i64.wrap (224 + (j : Int))))] 5)).drew := (hbr.alloc hbr.size _).drew
                have hownD : Own (wr.alloc (.cells #[.int .u8 (IntKind.u8.wrap (IntKind.i64.wrap (224 + (j : Int))))] 5)).drew w.heap.size Ao mo co outl := Own.alloc_ (w := wr) hown _
                have hlit2 : Own (wr.alloc (.cells #[.int .u8 (IntKind.u8.wrap (IntKind.i64.wrap (224 + (j : Int))))] 5)).drew wr.heap.size (some ⟨wr.heap.size, 0, none⟩) 1 1 [UInt8.ofNat (224 + j)] := own_lit wr _ [UInt8.ofNat (224 + j)] (bvs_1 _ _ hu8) 1 rfl (by omega)
                have HU := Lib.hid hu8
                clear hu8
                have hup := hr.upto (k := p) (by omega)
                have hpc : p ≤ cr := by have := hr.cap; omega
                go_wp2
                all_goals
                  go_region_held_law (fun _ => True) (trivial) ((first
                    | (refine step_app8 (.tmp 48) (.tmp 52) (by rfl) (by rfl) (by rfl) hownD (by rfl) hlit2.bs (by omega) hbD.size ?_; intro A3 c3 w3 hown3 hg3 hat3; have hb3 : Below w.heap.size w w3 := (hbD.grown hg3 hbD.size (fun i e => by
                        cases Ao with
                        | none => cases e
                        | some ad => cases e; exact (hown.blk _ rfl).1)))
                    | (refine step_app8 (.tmp 53) (.tmp 57) (by rfl) (by rfl) (by rfl) hown3 (by rfl) (hup.below hb3) (by omega) hb3.size ?_; intro A4 c4 w4 hown4 hg4 hat4)))
                  go_wp2
                  have hb4 : Below w.heap.size w w4 := hb3.grown hg4 hb3.size (fun i e => by
                    cases A3 with
                    | none => cases e
                    | some ad => cases e; exact (hown3.blk _ rfl).1)
                  go_roundw
                  case rel => exact ⟨k + 1, A4, _, c4, _, _, _, _, _, by omega, by go_num, rfl, rfl, hown4, hr.from_ (k := p) (by omega), hb4, by omega, Lib.hid (by rw [Hfin.out]; simp)⟩
                  case measure => simp [intOf]; omega
      · have hk2 : k = zs.length := by omega
        have hfin := hfi.out
        rw [hk2, List.drop_length, partsT] at hfin
        have Hfin := Lib.hid hfin.symm
        have hrl : restl.length = mr := hr.2
        clear hfin
        by_cases hlim : 60000 < l.length
        · go_wp2
          go_ret2
          rw [ht.out, Hfin.out, endT, if_pos hlim]
          exact ⟨_, _, _, _, rfl, Own.nil_ _ _, rfl, hbr⟩
        · have hE := Lib.hid (show endT l.length (some (outl, restl)) = (outl ++ lenS mr ++ restl, 0) by rw [endT, if_neg hlim, hrl])
          go_wp2_with (first
            | (go_at_call 53; go_must (refine (length_calls hown hbr.size (by omega) mr (by omega)).mono ?_; rintro e w3 ⟨A3, m3, c3, rfl, hown3, hg3⟩; have hb3 : Below w.heap.size w w3 := (hbr.grown hg3 hbr.size (fun i e => by
                        cases Ao with
                        | none => cases e
                        | some ad => cases e; exact (hown.blk _ rfl).1)); have hm3 : m3 ≤ 140737000000000 := (by have h1 := hown3.2; have h2 := hown.2; have h3 := lenS_length mr; rw [← h1, List.length_append]; omega)))
            | (at_builtin; go_must (refine app8 (.tmp 70) (.tmp 71) rfl rfl rfl hown3 rfl (hr.below hb3) (by omega) hb3.size ?_); intro A4 c4 w4 hown4 hg4 hat4))
          go_ret2
          rw [ht.out, Hfin.out, hE.out]
          exact ⟨_, _, _, _, rfl, hown4, rfl, hb3.grown hg4 hb3.size (fun i e => by
                        cases A3 with
                        | none => cases e
                        | some ad => cases e; exact (hown3.blk _ rfl).1)⟩
  · have ht := Lib.hid (show partsF tag zs l = ([], 1) by rw [partsF, if_neg hp])
    have hp : mayPart tag = false := by simpa using hp
    go_enter Try.func32, Try.ntmps32
    go_wp2_with (go_at_call 23; refine (MayPart_calls _ _).mono ?_; rw [hp]; rintro e w1 ⟨rfl, rfl⟩)
    go_ret2
    rw [ht.out]
    exact ⟨_, _, _, _, rfl, Own.nil_ _ _, rfl, Below.refl _ _⟩
end Go.Proofs.Ytcakdlfhmdkocaa
