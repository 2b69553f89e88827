/- The document's numbers: fill, Bytes, Bits, Same. -/
import Derived.Test.YtcakdlfhmdkocaaNj
namespace Go.Proofs.Ytcakdlfhmdkocaa
open Go.RowKit

/-- A byte of a number is one of its digits'. -/
theorem byte_digit {ds : List Nat} (hlo : Lo 65536 ds) (i : Nat) : num 65536 ds / 256 ^ i % 256 = ds.getD (i / 2) 0 / 256 ^ (i % 2) % 256 := by
  have hd := num_digit (by decide : 0 < 65536) (i / 2) hlo
  rw [pow_half i, ← Nat.div_div_eq_div_mul, ← hd]
  generalize num 65536 ds / 65536 ^ (i / 2) = X
  have hr : i % 2 < 2 := Nat.mod_lt _ (by decide)
  generalize i % 2 = r at hr
  rcases (by omega : r = 0 ∨ r = 1) with rfl | rfl <;> omega

set_option maxRecDepth 100000 in
set_option maxHeartbeats 3200000 in
theorem fill_calls {A : Option Addr} {n c : Nat} {ds : List Nat} {w : World} (h : Nr w .u64 A n c ds) (hlo : Lo 65536 ds) (k : Nat) (hk : k ≤ 1000000) (x : Int) (hx : x = k) :
    Calls Try.prog 71 #[.slice A n c, .int .i64 x] w fun e w' => ∃ A' c', e = .returned (.slice A' k c') ∧ Own w' w.heap.size A' k c' (be k (num 65536 ds)) ∧ Below w.heap.size w w' := by
  subst hx
  have hm := run_make8 k k (Nat.le_refl _) (by omega) (k : Int) rfl
  have hown0 := Own.made w w.heap.size k k (Nat.le_refl _) (Nat.le_refl _) (by omega)
  have hb0 := (Below.refl w.heap.size w).alloc (Nat.le_refl _) (.cells (zcells k) 5)
  have hbw := Lib.hid (byte_digit hlo)
  have hdl := Lib.hid (show ∀ j, ds.getD j 0 < 65536 from fun j => by
    rw [List.getD_eq_getElem?_getD]
    by_cases hj : j < ds.length
    · rw [List.getElem?_eq_getElem hj]; exact hlo.at_ hj
    · rw [List.getElem?_eq_none (by omega)]; decide)
  go_enter Try.func71, Try.ntmps71
  go_wp2_with fail
  generalize w.alloc (.cells (zcells k) 5) = w0 at hown0 hb0 ⊢
  go_loopw [6] (fun v wr => ∃ i : Nat, v = .int .i64 i ∧ i ≤ k ∧ Own wr w.heap.size (some ⟨w.heap.size, 0, none⟩) k k (List.replicate (k - i) 0 ++ be i (num 65536 ds)) ∧ Below w.heap.size w wr) (fun v _ => k - (intOf v).toNat)
  case atStart => exact ⟨0, rfl, Nat.zero_le _, by simpa [be] using hown0, hb0⟩
  case round =>
    obtain ⟨i, rfl, hi, hown, hbr⟩ := hrel
    clear hown0 hb0 hm
    by_cases hlt : i < k
    · obtain ⟨g, hg, hBg, hgl, hcell, hfr, hset⟩ := hown.at_ (k := k - 1 - i) (by simp [be_length]; omega)
      injection hg with hg
      injection hg with hg
      subst hg
      have hr := h.below hbr
      have HS := Lib.hid hset
      clear hset
      have hj : (k : Int) - 1 - (i : Int) = ((k - 1 - i : Nat) : Int) := by omega
      have hdg := hdl.out (i / 2)
      have hbi := hbw.out i
      have hcl := Lib.hid (digit_calls hr (i / 2) ((i : Int) / 2) (by omega))
      generalize ds.getD (i / 2) 0 = y at hdg hbi hcl
      by_cases h2 : i % 2 = 1
      · have hm2 : (i : Int) % 2 = 1 := by omega
        rw [h2] at hbi
        have HB := Lib.hid hbi
        clear h2 hbi
        go_wp2_with (go_at_call 81; refine hcl.out.mono ?_; rintro e w1 ⟨rfl, rfl⟩)
        go_roundw
        case rel =>
          have hv : ((y : Nat) : Int) / 256 % 256 = ((UInt8.ofNat (num 65536 ds / 256 ^ i)).toNat : Int) := by
            rw [UInt8.toNat_ofNat']
            show _ = ((num 65536 ds / 256 ^ i % 256 : Nat) : Int)
            rw [HB.out]
            simp
          have hv2 : ((y : Nat) : Int) / 256 = ((UInt8.ofNat (num 65536 ds / 256 ^ i)).toNat : Int) := by omega
          first | rw [hv] | rw [hv2]
          have ho := HS.out (UInt8.ofNat (num 65536 ds / 256 ^ i))
          rw [be_step hlt _ _ rfl] at ho
          exact ⟨i + 1, by go_num, by omega, ho, hbr.setCell (p := ⟨w.heap.size, k - 1 - i, none⟩) (Nat.le_refl _) _⟩
        case measure => simp [intOf]; omega
      · have hm2 : (i : Int) % 2 = 0 := by omega
        rw [show i % 2 = 0 by omega] at hbi
        have HB := Lib.hid hbi
        clear h2 hbi
        go_wp2_with (go_at_call 81; refine hcl.out.mono ?_; rintro e w1 ⟨rfl, rfl⟩)
        go_roundw
        case rel =>
          have hv : ((y : Nat) : Int) % 256 = ((UInt8.ofNat (num 65536 ds / 256 ^ i)).toNat : Int) := by
            rw [UInt8.toNat_ofNat']
            show _ = ((num 65536 ds / 256 ^ i % 256 : Nat) : Int)
            rw [HB.out]
            simp
          rw [hv]
          have ho := HS.out (UInt8.ofNat (num 65536 ds / 256 ^ i))
          rw [be_step hlt _ _ rfl] at ho
          exact ⟨i + 1, by go_num, by omega, ho, hbr.setCell (p := ⟨w.heap.size, k - 1 - i, none⟩) (Nat.le_refl _) _⟩
        case measure => simp [intOf]; omega
    · have hke : i = k := by omega
      go_wp2
      go_ret
      subst hke
      exact ⟨_, _, rfl, by simpa using hown, hbr⟩

theorem nbits_half {x : Nat} (h : x ≠ 0) : nbits x = nbits (x / 2) + 1 := by
  have h1 := nbits_le h
  have h2 := nbits_lt x
  have hp := nbits_pos h
  by_cases h0 : x / 2 = 0
  · rw [h0, nbits_zero]
    have : x = 1 := by omega
    subst this
    rfl
  · obtain ⟨k, hk⟩ : ∃ k, nbits x = k + 1 := ⟨nbits x - 1, by omega⟩
    rw [hk] at h1 h2
    simp only [Nat.add_sub_cancel] at h1
    cases k with
    | zero => simp at h1 h2; omega
    | succ k =>
      rw [hk, nbits_of (n := x / 2) (k := k) (by rw [Nat.pow_succ] at h1; omega) (by rw [Nat.pow_succ] at h2; omega)]
theorem digits_bits {ds : List Nat} (hlo : Lo 65536 ds) (hne : 0 < ds.length) (hl : ds[ds.length - 1]'(by omega) ≠ 0) : nbits (num 65536 ds) = 16 * (ds.length - 1) + nbits (ds[ds.length - 1]'(by omega)) := by
  have e := take_snoc ds (ds.length - 1) (by omega)
  rw [show ds.length - 1 + 1 = ds.length by omega, List.take_length] at e
  have hlt := num_lt (by decide : 0 < 65536) (hlo.take (k := ds.length - 1))
  rw [List.length_take, Nat.min_eq_left (by omega), show (65536 : Nat) = 2 ^ 16 from rfl, ← Nat.pow_mul] at hlt
  have e2 : num 65536 ds = num 65536 (ds.take (ds.length - 1)) + 2 ^ (16 * (ds.length - 1)) * ds[ds.length - 1]'(by omega) := by
    have := congrArg (num 65536) e
    rw [num_append, List.length_take, Nat.min_eq_left (by omega)] at this
    rw [this, Nat.pow_mul]
    simp [num]
  rw [e2]
  exact nbits_top hl hlt

set_option maxRecDepth 100000 in
set_option maxHeartbeats 3200000 in
theorem rBits_calls {A : Option Addr} {m c : Nat} {xs : List Nat} {w : World} (h : Nr w .u32 A m c xs) (hlo : Lo 4294967296 xs) (hm : m ≤ 100000) :
    Calls Try.prog 46 #[.slice A m c] w fun e w' => e = .returned (.int .i64 (nbits (num 4294967296 xs) : Nat)) ∧ Below w.heap.size w w' := by
  go_enter Try.func46, Try.ntmps46
  go_wp2_with fail
  refine (Digits_calls h hlo hm).mono ?_
  rintro e w1 ⟨A1, k, c1, ds, rfl, hr, hld, htd, hn, hk2, hb⟩
  have hN := Lib.hid hn
  clear hn
  obtain rfl := hr.2
  rcases Nat.eq_zero_or_pos ds.length with h0 | hp
  · have hz : nbits (num 4294967296 xs) = 0 := by
      rw [← hN.out, List.eq_nil_of_length_eq_zero h0]
      rfl
    have HZ := Lib.hid hz
    clear hz
    go_wp2
    go_ret
    rw [HZ.out]
    exact ⟨rfl, hb⟩
  · obtain ⟨q, hq⟩ : ∃ q, q = ds.length - 1 := ⟨_, rfl⟩
    have hql : q < ds.length := by omega
    obtain ⟨b, off, rfl, hbl, hcell⟩ := hr.at_ hql
    have hne : ds[q] ≠ 0 := htd ds[q] (by rw [List.getLast?_eq_getElem?, ← hq, List.getElem?_eq_getElem hql])
    have hlt := hld.at_ hql
    have hdb := digits_bits hld hp (by subst hq; exact hne)
    rw [hN.out] at hdb
    have hj : (ds.length : Int) - 1 = (q : Int) := by omega
    have hd0 : ds[ds.length - 1]'(by omega) = ds[q] := by subst hq; rfl
    rw [hd0, ← hq] at hdb
    have HB := Lib.hid hdb
    have hzl : ¬ (ds.length : Int) = 0 := by omega
    have HQ := Lib.hid hq
    clear hdb hd0 hq
    generalize ds[q] = y at hcell hne hlt HB
    clear hne
    go_wp2_with fail
    go_loop [4, 5] (fun n x => ∃ a z : Nat, n = .int .i64 a ∧ x = .int .u64 z ∧ z < 65536 ∧ a ≤ 4000000 ∧ Hid (a + nbits z = nbits (num 4294967296 xs))) (fun _ x => (intOf x).toNat)
    case atStart => exact ⟨16 * q, y, by go_num, rfl, hlt, by omega, Lib.hid HB.out.symm⟩
    case round =>
      obtain ⟨a, z, rfl, rfl, hz, ha, hs⟩ := hrel
      rcases Nat.eq_zero_or_pos z with rfl | hzp
      · go_wp2
        go_ret
        have := hs.out
        rw [nbits_zero] at this
        exact ⟨by rw [← this]; rfl, hb⟩
      · have hh := Lib.hid (nbits_half (x := z) (by omega))
        have hbz := nbits_le_of (k := 32 * m) (by have := num_lt (by decide : 0 < 4294967296) hlo; rw [h.2, pow32] at this; exact this)
        have hsb := hs.out
        have hhb := hh.out
        have hab : a + 1 ≤ 4000000 := by omega
        clear hsb hhb hbz
        go_wp2
        go_round
        case rel => exact ⟨a + 1, z / 2, by go_num, by go_num, by omega, hab, Lib.hid (by have := hs.out; have := hh.out; omega)⟩
        case measure => simp [intOf]; omega

set_option maxRecDepth 100000 in
set_option maxHeartbeats 1600000 in
theorem rBytes_calls {A : Option Addr} {m c : Nat} {xs : List Nat} {w : World} (h : Nr w .u32 A m c xs) (hlo : Lo 4294967296 xs) (hm : m ≤ 100000) :
    Calls Try.prog 48 #[.slice A m c] w fun e w' => ∃ A' n' c', e = .returned (.slice A' n' c') ∧ Own w' w.heap.size A' n' c' (bytesN (num 4294967296 xs)) ∧ Below w.heap.size w w' := by
  have hl := nlen_le hlo h.2
  have hlb := nbits_le_of (k := 32 * m) (by have := num_lt (by decide : 0 < 4294967296) hlo; rw [h.2, pow32] at this; exact this)
  have HL := Lib.hid (show nlen (num 4294967296 xs) = (nbits (num 4294967296 xs) + 7) / 8 from rfl)
  go_enter Try.func48, Try.ntmps48
  go_wp2_with fail
  refine (Digits_calls h hlo hm).mono ?_
  rintro e w1 ⟨A1, k, c1, ds, rfl, hr, hld, htd, hn, hk2, hb1⟩
  have hN := Lib.hid hn
  clear hn
  have h1 := h.below hb1
  go_wp2_with fail
  refine (rBits_calls h1 hlo hm).mono ?_
  rintro e w2 ⟨rfl, hb2⟩
  have hr2 := hr.below hb2
  have hB2 := below_then hb1 hb1.size hb2
  go_wp2_with (go_at_call 71; refine (fill_calls hr2 hld (nlen (num 4294967296 xs)) (by omega) _ (by have := HL.out; omega)).mono ?_; rintro e w3 ⟨A3, c3, rfl, ho3, hb3⟩)
  go_ret
  refine ⟨_, _, _, rfl, ?_, below_then hB2 hB2.size hb3⟩
  have := ho3.lower hB2.size
  rw [hN.out] at this
  exact this

set_option maxRecDepth 100000 in
set_option maxHeartbeats 1600000 in
theorem Same04_calls {A D : Option Addr} {n c m d : Nat} {xs : List Nat} {w : World} (h : Nr w .u32 A n c xs) (h2 : Nr w .u32 D m d xs) (hn : n ≤ 9223372036854775807) :
    Calls Try.prog 29 #[.slice A n c, .slice D m d] w fun e w' => e = .returned (.bool true) ∧ Below w.heap.size w w' := by
  obtain rfl := h.2
  obtain rfl := h2.2
  go_enter Try.func29, Try.ntmps29
  go_wp2_with fail
  go_loopw [5] (fun i wr => ∃ k : Nat, k ≤ xs.length ∧ i = .int .i64 k ∧ Below w.heap.size w wr) (fun i _ => xs.length - (intOf i).toNat)
  case atStart => exact ⟨0, Nat.zero_le _, rfl, Below.refl _ _⟩
  case round =>
    obtain ⟨k, hk, rfl, hbr⟩ := hrel
    by_cases hlt : k < xs.length
    · obtain ⟨b, off, rfl, hbl, hc⟩ := h.at_ hlt
      obtain ⟨b2, off2, rfl, hbl2, hc2⟩ := h2.at_ hlt
      have q0 : wr.cell? ⟨b, off + k, none⟩ = some (.int .u32 (xs[k] : Int)) := (hbr.cell (p := ⟨b, off + k, none⟩) hbl).trans hc
      have q1 : wr.cell? ⟨b2, off2 + k, none⟩ = some (.int .u32 (xs[k] : Int)) := (hbr.cell (p := ⟨b2, off2 + k, none⟩) hbl2).trans hc2
      have hi0 : (0 : Int) ≤ (k : Int) := by omega
      have hi1 : (k : Int) < (xs.length : Int) := by omega
      clear hc hc2
      go_wp2_with fail
      go_quiet (fail)
      go_wp2
      go_roundw
      case rel => exact ⟨k + 1, by omega, by go_num, below_drewN hbr _⟩
      case measure => simp [intOf]; omega
    · have hke : k = xs.length := by omega
      go_wp2
      go_ret
      exact ⟨rfl, hbr⟩
end Go.Proofs.Ytcakdlfhmdkocaa
