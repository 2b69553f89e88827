/- nat.Read. -/
import Derived.Test.YtcakdlfhmdkocaaNf
import Derived.Laws.BitsAllLaws
import Derived.StillTailTactics
import Derived.IntWalk
namespace Go.Proofs.Ytcakdlfhmdkocaa
open Go.RowKit

theorem pow_split (q : Nat) : 256 ^ q = 4294967296 ^ (q / 4) * 256 ^ (q % 4) := by
  rw [← pow4, ← Nat.pow_mul, ← Nat.pow_add]
  congr 1
  omega
theorem or_word {N y r x : Nat} (hd : N * (256 ^ r * 256) % 4294967296 = y) (hr : r < 4) (hx : x < 256) :
    bits BinOp.or .u32 (y : Int) (IntKind.u32.wrap ((x : Int) * 2 ^ min (8 * r) 32)) = ((y + x * 256 ^ r : Nat) : Int) ∧ y + x * 256 ^ r < 4294967296 := by
  rw [IntKind.wrap_u32]
  rcases (by omega : r = 0 ∨ r = 1 ∨ r = 2 ∨ r = 3) with rfl | rfl | rfl | rfl
  · have hd' : N * 256 % 4294967296 = y := hd
    have e : (2 : Int) ^ min (8 * 0) 32 = 1 := by decide
    have e' : 256 ^ 0 = 1 := by decide
    rw [e, e', u32_or _ _ (by omega) (by omega) (by omega) (by omega), nat_join 8 _ _ (by omega) (by omega)]
    omega
  · have hd' : N * 65536 % 4294967296 = y := hd
    have e : (2 : Int) ^ min (8 * 1) 32 = 256 := by decide
    have e' : 256 ^ 1 = 256 := by decide
    rw [e, e', u32_or _ _ (by omega) (by omega) (by omega) (by omega), nat_join 16 _ _ (by omega) (by omega)]
    omega
  · have hd' : N * 16777216 % 4294967296 = y := hd
    have e : (2 : Int) ^ min (8 * 2) 32 = 65536 := by decide
    have e' : 256 ^ 2 = 65536 := by decide
    rw [e, e', u32_or _ _ (by omega) (by omega) (by omega) (by omega), nat_join 24 _ _ (by omega) (by omega)]
    omega
  · have hd' : N * 4294967296 % 4294967296 = y := hd
    have e : (2 : Int) ^ min (8 * 3) 32 = 16777216 := by decide
    have e' : 256 ^ 3 = 16777216 := by decide
    rw [e, e', u32_or _ _ (by omega) (by omega) (by omega) (by omega), nat_join 32 _ _ (by omega) (by omega)]
    omega
/-- One byte more. -/
theorem read_step {xs : List Nat} {N i n q p r s x : Nat} (hlo : Lo 4294967296 xs) (hv : num 4294967296 xs = N * 256 ^ (n - i)) (hi : i < n) (hq : q = n - 1 - i ∧ p = q / 4 ∧ r = q % 4 ∧ s = 8 * r) (hp : p < xs.length) (hx : x < 256) :
    bits BinOp.or .u32 (xs[p] : Int) (IntKind.u32.wrap ((x : Int) * 2 ^ min s 32)) = ((xs[p] + x * 256 ^ r : Nat) : Int) ∧ Lo 4294967296 (xs.set p (xs[p] + x * 256 ^ r)) ∧
      num 4294967296 (xs.set p (xs[p] + x * 256 ^ r)) = (N * 256 + x) * 256 ^ (n - (i + 1)) := by
  obtain ⟨hq, rfl, rfl, rfl⟩ := hq
  have e1 : n - i = q + 1 := by omega
  have e2 : n - (i + 1) = q := by omega
  have hB := pow_split q
  have hs := num_set (β := 4294967296) (xs := xs) (k := q / 4) (xs[q / 4] + x * 256 ^ (q % 4)) hp
  have hd := num_digit (by decide : 0 < 4294967296) (q / 4) hlo
  have hl := hlo.at_ hp
  rw [List.getD_eq_getElem?_getD, List.getElem?_eq_getElem hp, Option.getD_some] at hd
  rw [e1, Nat.pow_succ, hB] at hv
  rw [e2]
  have hP : 0 < 4294967296 ^ (q / 4) := Nat.pow_pos (by decide)
  have hv2 : num 4294967296 xs = N * (256 ^ (q % 4) * 256) * 4294967296 ^ (q / 4) := by
    rw [hv]
    simp only [Nat.mul_assoc, Nat.mul_comm]
  rw [hv2, Nat.mul_div_cancel _ hP] at hd
  have hr : q % 4 < 4 := Nat.mod_lt _ (by decide)
  have key : bits BinOp.or .u32 (xs[q / 4] : Int) (IntKind.u32.wrap ((x : Int) * 2 ^ min (8 * (q % 4)) 32)) = ((xs[q / 4] + x * 256 ^ (q % 4) : Nat) : Int) ∧ xs[q / 4] + x * 256 ^ (q % 4) < 4294967296 := by
    exact or_word hd hr hx
  refine ⟨key.1, hlo.set key.2, ?_⟩
  rw [Nat.mul_add, hv] at hs
  rw [hB, Nat.add_mul]
  have e3 : N * 256 * (4294967296 ^ (q / 4) * 256 ^ (q % 4)) = N * (4294967296 ^ (q / 4) * 256 ^ (q % 4) * 256) := by
    simp only [Nat.mul_assoc, Nat.mul_comm]
  have e4 : x * (4294967296 ^ (q / 4) * 256 ^ (q % 4)) = 4294967296 ^ (q / 4) * (x * 256 ^ (q % 4)) := by
    simp only [Nat.mul_assoc, Nat.mul_comm]
  rw [e3, e4]
  omega

set_option maxRecDepth 100000 in
set_option maxHeartbeats 3200000 in
theorem Read_calls {A : Option Addr} {n c : Nat} {l : List UInt8} {w : World} (h : Bs w A n c l) (hn : n ≤ 100000) :
    Calls Try.prog 74 #[.slice A n c] w fun e w' => ∃ A' m xs, e = .returned (.slice A' m m) ∧ Nr w' .u32 A' m m xs ∧ Lo 4294967296 xs ∧ Trim xs ∧ num 4294967296 xs = nb l ∧ (∀ ad, A' = some ad → w.heap.size ≤ ad.block) ∧ m ≤ n + 1 ∧ Below w.heap.size w w' := by
  obtain rfl := h.2
  obtain ⟨m, hmm⟩ : ∃ m, m = (l.length + 3) / 4 := ⟨_, rfl⟩
  have HM := Lib.hid hmm
  have hm := run_makeN (P := Try.prog) (S := 24) (T := 63) (k := .u32) (bytes := 4) Try.underlying24 (by kernel_rfl) (by omega) m (by omega) (((l.length : Int) + 3) / 4) (by omega)
  have hown0 := OwnN.made w 63 .u32 w.heap.size m (Nat.le_refl _) (by omega)
  have hb0 := (Below.refl w.heap.size w).alloc (Nat.le_refl _) (.cells (ncells .u32 m) 63)
  have hr0 := h.below hb0
  clear hmm
  go_enter Try.func74, Try.ntmps74
  go_wp2_with fail
  generalize w.alloc (.cells (ncells .u32 m) 63) = w0 at hown0 hb0 hr0 ⊢
  go_loopw [14] (fun v wr => ∃ (i : Nat) (xs : List Nat), v = .int .i64 i ∧ i ≤ l.length ∧ OwnN wr w.heap.size 63 .u32 (some ⟨w.heap.size, 0, none⟩) m m xs ∧ Hid (Lo 4294967296 xs ∧ num 4294967296 xs = nb (l.take i) * 256 ^ (l.length - i)) ∧ Below w.heap.size w wr) (fun v _ => l.length - (intOf v).toNat)
  case atStart => exact ⟨0, _, rfl, Nat.zero_le _, hown0, Lib.hid ⟨Lo.zeros (by decide) _, by rw [num_zeros]; simp [nb]⟩, hb0⟩
  case round =>
    obtain ⟨i, xs, rfl, hi, hown, hv, hbr⟩ := hrel
    clear hown0 hb0 hr0 hm
    by_cases hlt : i < l.length
    · have hr := h.below hbr
      obtain ⟨b, off, rfl, hbl, hcell⟩ := hr.byte hlt
      have hlx := hown.2
      obtain ⟨q, hq⟩ : ∃ q, q = l.length - 1 - i := ⟨_, rfl⟩
      obtain ⟨p, hp⟩ : ∃ p, p = q / 4 := ⟨_, rfl⟩
      obtain ⟨r, hr4⟩ : ∃ r, r = q % 4 := ⟨_, rfl⟩
      obtain ⟨s, hs⟩ : ∃ s, s = 8 * r := ⟨_, rfl⟩
      have hp4 : p < xs.length := by have := HM.out; omega
      have hp5 : p < m := by have := HM.out; omega
      have hp6 : (p : Int) < (m : Int) := by omega
      have hp7 : (0 : Int) ≤ (p : Int) := by omega
      have hs7 : (0 : Int) ≤ (s : Int) := by omega
      obtain ⟨g, hg, hBg, hgl, hcg, hfr, hset⟩ := hown.at_ hp4
      injection hg with hg
      injection hg with hg
      subst hg
      have HS := Lib.hid hset
      have hj : (l.length : Int) - 1 - (i : Int) = (q : Int) := by omega
      have e1 : IntKind.i64.wrap ((q : Int) / 4) = (p : Int) := by rw [IntWalk.i64_in _ (by omega)]; omega
      have e2 : (q : Int).tmod 4 = (r : Int) := by rw [Int.tmod_eq_emod_of_nonneg (by omega)]; omega
      have hx := (l[i]).toNat_lt
      have e4 : IntKind.u32.wrap ((l[i]).toNat : Int) = ((l[i]).toNat : Int) := by rw [IntKind.wrap_u32]; omega
      have e3 : IntKind.i64.wrap (8 * (r : Int)) = (s : Int) := by rw [IntWalk.i64_in _ (by omega)]; omega
      have HQ := Lib.hid (show q = l.length - 1 - i ∧ p = q / 4 ∧ r = q % 4 ∧ s = 8 * r from ⟨hq, hp, hr4, hs⟩)
      clear hset hq hp hr4 hs
      go_wp2_with fail
      go_still_tail 13, (by kernel_rfl)
      change wpList _ _ _ _ _ wr.drew
      have hst := Lib.hid (read_step (x := (l[i]).toNat) hv.out.1 hv.out.2 hlt HQ.out hp4 hx)
      have hts := Lib.hid (take_snoc l i hlt)
      clear e1 e2 e3 e4 hj
      have hcg' : wr.drew.cell? ⟨w.heap.size, p, none⟩ = some (.int .u32 (xs[p] : Int)) := hcg
      have hfr' : wr.drew.frozen? ⟨w.heap.size, p, none⟩ = false := hfr
      go_wp2
      go_roundw
      case rel =>
        refine ⟨i + 1, _, by go_num, by omega, ?_, Lib.hid ⟨hst.out.2.1, ?_⟩, ?_⟩
        · rw [← IntKind.wrap_u32, hst.out.1]
          exact HS.out _
        · rw [hst.out.2.2, hts.out, nb_snoc]
        · exact hbr.drew.setCell (p := ⟨w.heap.size, p, none⟩) (Nat.le_refl _) _
      case measure => simp [intOf]; omega
    · have hke : i = l.length := by omega
      subst hke
      go_wp2_with (go_at_call 60; refine (trim_calls hown.nr).mono ?_; rintro e w1 ⟨⟨k, rfl, hk, ht, hnum⟩, rfl⟩)
      go_ret
      refine ⟨_, k, xs.take k, rfl, (hown.nr.upto (by rw [← hown.2]; exact hk)).clip, hv.out.1.take, ht, ?_, fun ad e => (hown.blk ad e).1, by have := HM.out; have := hown.2; omega, hbr⟩
      rw [hnum, hv.out.2]
      simp
end Go.Proofs.Ytcakdlfhmdkocaa
