/- The document's numbers: Read. -/
import Derived.Test.YtcakdlfhmdkocaaNi
namespace Go.Proofs.Ytcakdlfhmdkocaa
open Go.RowKit

theorem pow_half (i : Nat) : 256 ^ i = 65536 ^ (i / 2) * 256 ^ (i % 2) := by
  rw [show (65536 : Nat) = 256 ^ 2 from rfl, ← Nat.pow_mul, ← Nat.pow_add]
  congr 1
  omega
/-- One byte more, from the last one on. -/
theorem rread_step {ds : List Nat} {N i p x y : Nat} (hlo : Lo 65536 ds) (hv : num 65536 ds = N) (hN : N < 256 ^ i) (hpi : p = i / 2) (hp : p < ds.length) (hx : x < 256) (hy : y = if i % 2 = 1 then x * 256 else x) :
    ds[p] + y < 65536 ∧ Lo 65536 (ds.set p (ds[p] + y)) ∧ num 65536 (ds.set p (ds[p] + y)) = x * 256 ^ i + N := by
  subst hpi
  have hB := pow_half i
  have hs := num_set (β := 65536) (xs := ds) (k := i / 2) (ds[i / 2] + y) hp
  have hd := num_digit (by decide : 0 < 65536) (i / 2) hlo
  have hl := hlo.at_ hp
  rw [List.getD_eq_getElem?_getD, List.getElem?_eq_getElem hp, Option.getD_some, hv] at hd
  have hP : 0 < 65536 ^ (i / 2) := Nat.pow_pos (by decide)
  have hq : N / 65536 ^ (i / 2) < 256 ^ (i % 2) := by rw [Nat.div_lt_iff_lt_mul hP, Nat.mul_comm, ← hB]; exact hN
  generalize N / 65536 ^ (i / 2) = X at hd hq
  have key : ds[i / 2] + y < 65536 ∧ y = x * 256 ^ (i % 2) := by
    rcases (by omega : i % 2 = 0 ∨ i % 2 = 1) with h2 | h2
    · rw [h2] at hq hy ⊢
      rw [if_neg (by decide)] at hy
      simp only [Nat.pow_zero, Nat.mul_one] at hq ⊢
      have : X = 0 := by omega
      rw [this] at hd
      omega
    · rw [h2] at hq hy ⊢
      rw [if_pos rfl] at hy
      simp only [Nat.pow_one] at hq ⊢
      rw [Nat.mod_eq_of_lt (by omega)] at hd
      omega
  refine ⟨key.1, hlo.set key.1, ?_⟩
  rw [Nat.mul_add, hv] at hs
  have e : x * 256 ^ i = 65536 ^ (i / 2) * y := by
    rw [hB, key.2]
    simp only [Nat.mul_assoc, Nat.mul_comm]
  rw [e]
  omega

set_option maxRecDepth 100000 in
set_option maxHeartbeats 3200000 in
theorem rRead_calls {A : Option Addr} {n c : Nat} {l : List UInt8} {w : World} (h : Bs w A n c l) (hn : n ≤ 100000) :
    Calls Try.prog 56 #[.slice A n c] w fun e w' => ∃ A' m c' xs, e = .returned (.slice A' m c') ∧ Nr w' .u32 A' m c' xs ∧ Lo 4294967296 xs ∧ Trim xs ∧ num 4294967296 xs = nb l ∧ (∀ ad, A' = some ad → w.heap.size ≤ ad.block) ∧ m ≤ n + 2 ∧ Below w.heap.size w w' := by
  obtain rfl := h.2
  obtain ⟨m, hmm⟩ : ∃ m, m = l.length / 2 + 1 := ⟨_, rfl⟩
  have HM := Lib.hid hmm
  have hm := run_makeN (P := Try.prog) (S := 94) (T := 65) (k := .u64) (bytes := 8) Try.underlying94 (by kernel_rfl) (by omega) m (by omega) ((l.length : Int) / 2 + 1) (by omega)
  have hown0 := OwnN.made w 65 .u64 w.heap.size m (Nat.le_refl _) (by omega)
  have hb0 := (Below.refl w.heap.size w).alloc (Nat.le_refl _) (.cells (ncells .u64 m) 65)
  clear hmm
  go_enter Try.func56, Try.ntmps56
  go_wp2_with fail
  generalize w.alloc (.cells (ncells .u64 m) 65) = w0 at hown0 hb0 ⊢
  go_loopw [4] (fun v wr => ∃ (i : Nat) (ds : List Nat), v = .int .i64 i ∧ i ≤ l.length ∧ OwnN wr w.heap.size 65 .u64 (some ⟨w.heap.size, 0, none⟩) m m ds ∧ Hid (Lo 65536 ds ∧ num 65536 ds = nb (l.drop (l.length - i))) ∧ Below w.heap.size w wr) (fun v _ => l.length - (intOf v).toNat)
  case atStart => exact ⟨0, _, rfl, Nat.zero_le _, hown0, Lib.hid ⟨Lo.zeros (by decide) _, by rw [num_zeros]; simp [nb]⟩, hb0⟩
  case round =>
    obtain ⟨i, ds, rfl, hi, hown, hv, hbr⟩ := hrel
    clear hown0 hb0 hm
    by_cases hlt : i < l.length
    · have hr := h.below hbr
      obtain ⟨q, hq⟩ : ∃ q, q = l.length - 1 - i := ⟨_, rfl⟩
      obtain ⟨p, hp⟩ : ∃ p, p = i / 2 := ⟨_, rfl⟩
      have hql : q < l.length := by omega
      obtain ⟨b, off, rfl, hbl, hcell⟩ := hr.byte hql
      have hlx := hown.2
      have hp4 : p < ds.length := by have := HM.out; omega
      have hp5 : p < m := by omega
      have hx := (l[q]).toNat_lt
      have hdr : l.drop (l.length - (i + 1)) = l[q] :: l.drop (l.length - i) := by
        have e := List.drop_eq_getElem_cons hql
        rw [show l.length - (i + 1) = q by omega, show l.length - i = q + 1 by omega]
        exact e
      have hnl := nb_lt (l.drop (l.length - i))
      have hll : (l.drop (l.length - i)).length = i := by rw [List.length_drop]; omega
      rw [hll] at hnl
      have hnc : nb (l.drop (l.length - (i + 1))) = (l[q]).toNat * 256 ^ i + nb (l.drop (l.length - i)) := by rw [hdr, nb_cons, hll]
      have hstep := fun y hy => rread_step (y := y) hv.out.1 hv.out.2 hnl hp hp4 hx hy
      have hx2 : (l[q]).toNat < 256 := hx
      generalize (l[q]).toNat = x at hcell hnc hstep hx2
      obtain ⟨g, hg, hBg, hgl, hcg, hfr, hset⟩ := hown.at_ hp4
      injection hg with hg
      injection hg with hg
      subst hg
      have hj : (l.length : Int) - 1 - (i : Int) = (q : Int) := by omega
      have hdi : (i : Int) / 2 = (p : Int) := by omega
      have HS := Lib.hid hset
      have HT := Lib.hid hstep
      have HC := Lib.hid hnc
      have HQ := Lib.hid hq
      have hlo := hv.out.1.at_ hp4
      clear hset hstep hnc hdr hnl hll hx hq
      clear hp
      have hi2 : (i : Int).tmod 2 = ((i % 2 : Nat) : Int) := by rw [Int.tmod_eq_emod_of_nonneg (by omega)]; omega
      by_cases h2 : i % 2 = 1
      · have HT2 := Lib.hid (HT.out (x * 256) (by rw [if_pos h2]))
        have hyb := HT2.out.1
        have hm2 : (i : Int) % 2 = 1 := by omega
        generalize ds[p] = y at hcg HT2 hyb hlo HS
        clear h2 hi2
        go_wp2
        go_roundw
        case rel =>
          have e1 : (y : Int) + (x : Int) * 256 = ((y + x * 256 : Nat) : Int) := by omega
          refine ⟨i + 1, _, by go_num, by omega, ?_, Lib.hid ⟨HT2.out.2.1, ?_⟩, ?_⟩
          · rw [e1]
            exact HS.out _
          · rw [HT2.out.2.2, HC.out]
          · exact hbr.setCell (p := ⟨w.heap.size, p, none⟩) (Nat.le_refl _) _
        case measure => simp [intOf]; omega
      · have HT2 := Lib.hid (HT.out x (by rw [if_neg h2]))
        have hyb := HT2.out.1
        have hm2 : (i : Int) % 2 = 0 := by omega
        generalize ds[p] = y at hcg HT2 hyb hlo HS
        clear h2 hi2
        go_wp2
        go_roundw
        case rel =>
          have e1 : (y : Int) + (x : Int) = ((y + x : Nat) : Int) := by omega
          refine ⟨i + 1, _, by go_num, by omega, ?_, Lib.hid ⟨HT2.out.2.1, ?_⟩, ?_⟩
          · rw [e1]
            exact HS.out _
          · rw [HT2.out.2.2, HC.out]
          · exact hbr.setCell (p := ⟨w.heap.size, p, none⟩) (Nat.le_refl _) _
        case measure => simp [intOf]; omega
    · have hke : i = l.length := by omega
      subst hke
      go_wp2_with fail
      refine (Whole_calls hown.nr hv.out.1 (by have := HM.out; omega)).mono ?_
      rintro e w1 ⟨A1, m1, c1, xs, rfl, hr1, hlo1, ht1, hn1, hbk1, hml1, hb1⟩
      go_wp2
      go_ret
      refine ⟨A1, m1, c1, xs, rfl, hr1, hlo1, ht1, ?_, fun ad e => Nat.le_trans hbr.size (hbk1 ad e), by have := HM.out; omega, below_then hbr hbr.size hb1⟩
      rw [hn1, hv.out.2]
      simp
end Go.Proofs.Ytcakdlfhmdkocaa
