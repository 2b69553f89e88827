import Derived.Test.YtjbnoamoadaknaaYSigBack8
/- The document's numbers: Whole, digit, Read. -/
section
namespace Go.Proofs.Ytjbnoamoadaknaa
open Go.RowKit

theorem num_ge {β : Nat} (hβ : 0 < β) : ∀ {xs : List Nat}, Trim xs → xs ≠ [] → β ^ (xs.length - 1) ≤ num β xs
  | [], _, h => absurd rfl h
  | [x], ht, _ => by
    have := ht x (by simp)
    simp [num]; omega
  | x :: y :: xs, ht, _ => by
    have ih := num_ge hβ ht.cons (by simp)
    simp only [List.length_cons, Nat.add_sub_cancel] at ih ⊢
    rw [num, Nat.pow_succ, Nat.mul_comm (β ^ xs.length) β]
    have := Nat.mul_le_mul_left β ih
    omega
theorem trim_of_ge {β : Nat} (hβ : 0 < β) {xs : List Nat} (hlo : Lo β xs) (h : xs ≠ [] → β ^ (xs.length - 1) ≤ num β xs) : Trim xs := fun y hy h0 => by
  subst h0
  rcases List.eq_nil_or_concat xs with rfl | ⟨ini, z, rfl⟩
  · cases hy
  · rw [List.concat_eq_append] at hlo h hy
    have hz : z = 0 := by simpa using hy
    subst hz
    have h1 := h (by simp)
    have h2 := num_lt hβ (xs := ini) (fun x hx => hlo x (by simp [hx]))
    rw [num_append] at h1
    simp [num] at h1
    omega
theorem whole_step {ds xs : List Nat} {k x : Nat} (hd : num 4294967296 xs = num 65536 (ds.take (2 * k))) (hl : xs.length = k) (hk : 2 * k < ds.length) (hx : x = ds[2 * k] + ds.getD (2 * k + 1) 0 * 65536) :
    num 4294967296 (xs ++ [x]) = num 65536 (ds.take (2 * (k + 1))) := by
  have e1 : num 65536 ((ds.drop (2 * k)).take 2) = x := by
    rw [List.drop_eq_getElem_cons hk, hx, List.getD_eq_getElem?_getD, ← List.head?_drop]
    cases ds.drop (2 * k + 1) with
    | nil => simp [num]
    | cons b r => simp [num]; omega
  rw [show 2 * (k + 1) = 2 * k + 2 by omega, List.take_add, num_append, num_append, hd, hl, e1, List.length_take, Nat.min_eq_left (by omega), Nat.pow_mul, sq65536]
  simp [num]

set_option maxRecDepth 100000 in
set_option maxHeartbeats 3200000 in
theorem Whole_calls {A : Option Addr} {n c : Nat} {es : List Nat} {w : World} (h : Nr w .u64 A n c es) (hlo : Lo 65536 es) (hn : n ≤ 200000) :
    Calls Try.prog 71 #[.slice A n c] w fun e w' => ∃ A' m c' xs, e = .returned (.slice A' m c') ∧ Nr w' .u32 A' m c' xs ∧ Lo 4294967296 xs ∧ Trim xs ∧ num 4294967296 xs = num 65536 es ∧ (∀ ad, A' = some ad → w.heap.size ≤ ad.block) ∧ m ≤ n + 1 ∧ Below w.heap.size w w' := by
  have hen := h.2
  have hem := ownN_empty w 64 .u32
  have hbe := (Below.refl w.heap.size w).alloc (Nat.le_refl _) (.cells #[] 64)
  go_enter Try.func71, Try.ntmps71
  go_wp2_with (go_at_call 91; refine (rtrim_calls h).mono ?_; rintro e w1 ⟨⟨q, rfl, hq, ht, hnum⟩, rfl⟩)
  have hd := h.upto (j := q) (by omega)
  have hdl : (es.take q).length = q := by rw [List.length_take]; omega
  have HN := Lib.hid (hnum 65536)
  have hlod := hlo.take (k := q)
  have HT := Lib.hid ht
  clear ht hnum
  generalize es.take q = ds at hd hdl HN hlod HT
  subst hdl
  generalize w.alloc (.cells #[] 64) = w0 at hem hbe ⊢
  generalize some { block := w.heap.size, off := 0 : Addr } = A0 at hem ⊢
  go_loopw [3, 4] (fun o i wr => ∃ (k : Nat) (Ao : Option Addr) (mo co : Nat) (xs : List Nat), 2 * k ≤ ds.length + 1 ∧ i = .int .i64 ((2 * k : Nat) : Int) ∧ o = .slice Ao mo co ∧ OwnN wr w.heap.size 64 .u32 Ao mo co xs ∧ Below w.heap.size w wr ∧ Hid (xs.length = k ∧ Lo 4294967296 xs ∧ num 4294967296 xs = num 65536 (ds.take (2 * k)))) (fun _ i _ => ds.length + 1 - (intOf i).toNat)
  case atStart => exact ⟨0, _, 0, 0, [], by omega, rfl, rfl, hem, hbe, Lib.hid ⟨rfl, Lo.nil _, rfl⟩⟩
  case round =>
    obtain ⟨k, Ao, mo, co, xs, hk, rfl, rfl, hown, hbr, hv⟩ := hrel
    clear hem hbe
    have hmo := hown.2
    have hk2 := hv.out.1
    have hmo2 : mo ≤ 200001 := by omega
    obtain ⟨z, hz⟩ : ∃ z, z = 2 * k := ⟨_, rfl⟩
    rw [← hz]
    have HZ := Lib.hid hz
    clear hk2 hmo hz
    by_cases hlt : z < ds.length
    · have hdr := hd.below hbr
      obtain ⟨b, off, rfl, hbl, hcell⟩ := hdr.at_ hlt
      have hx0 := hlod.at_ hlt
      obtain ⟨y1, hy1⟩ : ∃ y1, y1 = z + 1 := ⟨_, rfl⟩
      have hz1 : (z : Int) + 1 = (y1 : Int) := by omega
      have HY := Lib.hid hy1
      by_cases hlt2 : y1 < ds.length
      · obtain ⟨b2, off2, he2, hbl2, hcell2⟩ := hdr.at_ hlt2
        injection he2 with he2
        injection he2 with he3 he4
        subst he3; subst he4
        have hx1 := hlod.at_ hlt2
        have hk0 : 2 * k < ds.length := by have := HZ.out; omega
        have hst := fun (x : Nat) (hx : x = ds[2 * k]'hk0 + ds.getD (2 * k + 1) 0 * 65536) => whole_step hv.out.2.2 hv.out.1 hk0 hx
        have hgd : ds.getD (2 * k + 1) 0 = ds[y1] := by have := HZ.out; subst this; subst hy1; simp [List.getD, hlt2]
        have hxx : ds[2 * k]'hk0 = ds[z] := by have := HZ.out; subst this; rfl
        rw [hgd, hxx] at hst
        have HS := Lib.hid hst
        clear hst hgd hxx hk0 hy1
        generalize ds[z] = x at hcell hx0 HS
        generalize ds[y1] = y at hcell2 hx1 HS
        go_wp2_with (at_builtin; go_must (refine appN (.tmp 32) (.tmp 35) rfl rfl E32 (by omega) rfl hown [x + y * 65536] _ (by simp [nvs]) 1 rfl rfl (by omega) hbr.size ?_); intro A2 c2 w2 hown2 hg2)
        have hb2 := hown.grew hbr hbr.size hg2
        have HV := Lib.hid (show (xs ++ [x + y * 65536]).length = k + 1 ∧ Lo 4294967296 (xs ++ [x + y * 65536]) ∧ num 4294967296 (xs ++ [x + y * 65536]) = num 65536 (ds.take (2 * (k + 1))) from ⟨by simp [hv.out.1], hv.out.2.1.snoc (by omega), HS.out _ rfl⟩)
        go_roundw
        case rel => exact ⟨k + 1, A2, _, c2, _, by have := HZ.out; omega, by have := HZ.out; go_num, rfl, hown2, hb2, HV⟩
        case measure => have := HY.out; simp [intOf]; omega
      · have hk0 : 2 * k < ds.length := by have := HZ.out; omega
        have hst := fun (x : Nat) (hx : x = ds[2 * k]'hk0 + ds.getD (2 * k + 1) 0 * 65536) => whole_step hv.out.2.2 hv.out.1 hk0 hx
        have hgd : ds.getD (2 * k + 1) 0 = 0 := by have := HZ.out; subst this; subst hy1; simp [List.getD, hlt2]
        have hxx : ds[2 * k]'hk0 = ds[z] := by have := HZ.out; subst this; rfl
        rw [hgd, hxx] at hst
        have HS := Lib.hid hst
        clear hst hgd hxx hk0 hy1
        generalize ds[z] = x at hcell hx0 HS
        go_wp2_with (at_builtin; go_must (refine appN (.tmp 32) (.tmp 35) rfl rfl E32 (by omega) rfl hown [x] _ (by simp [nvs]) 1 rfl rfl (by omega) hbr.size ?_); intro A2 c2 w2 hown2 hg2)
        have hb2 := hown.grew hbr hbr.size hg2
        have HV := Lib.hid (show (xs ++ [x]).length = k + 1 ∧ Lo 4294967296 (xs ++ [x]) ∧ num 4294967296 (xs ++ [x]) = num 65536 (ds.take (2 * (k + 1))) from ⟨by simp [hv.out.1], hv.out.2.1.snoc (by omega), HS.out _ (by omega)⟩)
        go_roundw
        case rel => exact ⟨k + 1, A2, _, c2, _, by have := HZ.out; omega, by have := HZ.out; go_num, rfl, hown2, hb2, HV⟩
        case measure => have := HY.out; simp [intOf]; omega
    · go_wp2
      go_ret
      have hke := HZ.out
      have hnn : num 4294967296 xs = num 65536 ds := by rw [hv.out.2.2, List.take_of_length_le (by omega)]
      refine ⟨_, mo, co, xs, rfl, hown.nr, hv.out.2.1, ?_, by rw [hnn, HN.out], fun ad e => (hown.blk ad e).1, by have := hv.out.1; have := hown.2; omega, hbr⟩
      refine trim_of_ge (by decide) hv.out.2.1 (fun hne => ?_)
      have hl := hv.out.1
      have hp := List.length_pos_iff.2 hne
      have hdn : ds ≠ [] := fun e => by rw [e] at hk; simp at hk; omega
      have hge := num_ge (by decide : 0 < 65536) HT.out hdn
      rw [hnn]
      refine Nat.le_trans ?_ hge
      rw [← sq65536, ← Nat.pow_mul]
      exact Nat.pow_le_pow_right (by decide) (by omega)

theorem digit_calls {A : Option Addr} {n c : Nat} {xs : List Nat} {w : World} (h : Nr w .u64 A n c xs) (i : Nat) (x : Int) (hx : x = i) :
    Calls Try.prog 96 #[.slice A n c, .int .i64 x] w fun e w' => e = .returned (.int .u64 (xs.getD i 0 : Nat)) ∧ w = w' := by
  subst hx
  obtain ⟨hc1, hc2⟩ := h.cap
  obtain rfl := h.2
  by_cases hlt : i < xs.length
  · have e := Lib.hid (show xs.getD i 0 = xs[i] by simp [List.getD, hlt])
    obtain ⟨b, off, rfl, hbl, hcell⟩ := h.at_ hlt
    go_enter Try.func96, Try.ntmps96
    go_wp2
    go_ret
    rw [e.out]
    exact ⟨rfl, rfl⟩
  · have e := Lib.hid (show xs.getD i 0 = 0 by simp [List.getD, hlt])
    go_enter Try.func96, Try.ntmps96
    go_wp2
    go_ret
    rw [e.out]
    exact ⟨rfl, rfl⟩
end Go.Proofs.Ytjbnoamoadaknaa
end

/- The document's numbers: Read. -/
section
namespace Go.Proofs.Ytjbnoamoadaknaa
open Go.RowKit

theorem pow_half (i : Nat) : 256 ^ i = 65536 ^ (i / 2) * 256 ^ (i % 2) := by
  rw [show (65536 : Nat) = 256 ^ 2 from rfl, ← Nat.pow_mul, ← Nat.pow_add]
  congr 1
  omega
/-- One byte more, from the last one on. -/
theorem rread_step {ds : List Nat} {N i p x y : Nat} (hlo : Lo 65536 ds) (hv : num 65536 ds = N) (hN : N < 256 ^ i) (hpi : p = i / 2) (hp : p < ds.length) (hx : x < 256) (hy : y = if i % 2 = 1 then x * 256 else x) :
    ds[p] + y < 65536 ∧ Lo 65536 (ds.set p (ds[p] + y)) ∧ num 65536 (ds.set p (ds[p] + y)) = x * 256 ^ i + N := by
  subst hpi
  have hB := pow_half i
  have hs := num_set (β := 65536) (xs := ds) (k := i / 2) (ds[i / 2] + y) hp
  have hd := num_digit (by decide : 0 < 65536) (i / 2) hlo
  have hl := hlo.at_ hp
  rw [List.getD_eq_getElem?_getD, List.getElem?_eq_getElem hp, Option.getD_some, hv] at hd
  have hP : 0 < 65536 ^ (i / 2) := Nat.pow_pos (by decide)
  have hq : N / 65536 ^ (i / 2) < 256 ^ (i % 2) := by rw [Nat.div_lt_iff_lt_mul hP, Nat.mul_comm, ← hB]; exact hN
  generalize N / 65536 ^ (i / 2) = X at hd hq
  have key : ds[i / 2] + y < 65536 ∧ y = x * 256 ^ (i % 2) := by
    rcases (by omega : i % 2 = 0 ∨ i % 2 = 1) with h2 | h2
    · rw [h2] at hq hy ⊢
      rw [if_neg (by decide)] at hy
      simp only [Nat.pow_zero, Nat.mul_one] at hq ⊢
      have : X = 0 := by omega
      rw [this] at hd
      omega
    · rw [h2] at hq hy ⊢
      rw [if_pos rfl] at hy
      simp only [Nat.pow_one] at hq ⊢
      rw [Nat.mod_eq_of_lt (by omega)] at hd
      omega
  refine ⟨key.1, hlo.set key.1, ?_⟩
  rw [Nat.mul_add, hv] at hs
  have e : x * 256 ^ i = 65536 ^ (i / 2) * y := by
    rw [hB, key.2]
    simp only [Nat.mul_assoc, Nat.mul_comm]
  rw [e]
  omega

set_option maxRecDepth 100000 in
set_option maxHeartbeats 3200000 in
theorem rRead_calls {A : Option Addr} {n c : Nat} {l : List UInt8} {w : World} (h : Bs w A n c l) (hn : n ≤ 100000) :
    Calls Try.prog 41 #[.slice A n c] w fun e w' => ∃ A' m c' xs, e = .returned (.slice A' m c') ∧ Nr w' .u32 A' m c' xs ∧ Lo 4294967296 xs ∧ Trim xs ∧ num 4294967296 xs = nb l ∧ (∀ ad, A' = some ad → w.heap.size ≤ ad.block) ∧ m ≤ n + 2 ∧ Below w.heap.size w w' := by
  obtain rfl := h.2
  obtain ⟨m, hmm⟩ : ∃ m, m = l.length / 2 + 1 := ⟨_, rfl⟩
  have HM := Lib.hid hmm
  have hm := run_makeN (P := Try.prog) (S := 91) (T := 38) (k := .u64) (bytes := 8) Try.underlying91 (by kernel_rfl) (by omega) m (by omega) ((l.length : Int) / 2 + 1) (by omega)
  have hown0 := OwnN.made w 38 .u64 w.heap.size m (Nat.le_refl _) (by omega)
  have hb0 := (Below.refl w.heap.size w).alloc (Nat.le_refl _) (.cells (ncells .u64 m) 38)
  clear hmm
  go_enter Try.func41, Try.ntmps41
  go_wp2_with fail
  generalize w.alloc (.cells (ncells .u64 m) 38) = w0 at hown0 hb0 ⊢
  go_loopw [4] (fun v wr => ∃ (i : Nat) (ds : List Nat), v = .int .i64 i ∧ i ≤ l.length ∧ OwnN wr w.heap.size 38 .u64 (some ⟨w.heap.size, 0, none⟩) m m ds ∧ Hid (Lo 65536 ds ∧ num 65536 ds = nb (l.drop (l.length - i))) ∧ Below w.heap.size w wr) (fun v _ => l.length - (intOf v).toNat)
  case atStart => exact ⟨0, _, rfl, Nat.zero_le _, hown0, Lib.hid ⟨Lo.zeros (by decide) _, by rw [num_zeros]; simp [nb]⟩, hb0⟩
  case round =>
    obtain ⟨i, ds, rfl, hi, hown, hv, hbr⟩ := hrel
    clear hown0 hb0 hm
    by_cases hlt : i < l.length
    · have hr := h.below hbr
      obtain ⟨q, hq⟩ : ∃ q, q = l.length - 1 - i := ⟨_, rfl⟩
      obtain ⟨p, hp⟩ : ∃ p, p = i / 2 := ⟨_, rfl⟩
      have hql : q < l.length := by omega
      obtain ⟨b, off, rfl, hbl, hcell⟩ := hr.byte hql
      have hlx := hown.2
      have hp4 : p < ds.length := by have := HM.out; omega
      have hp5 : p < m := by omega
      have hx := (l[q]).toNat_lt
      have hdr : l.drop (l.length - (i + 1)) = l[q] :: l.drop (l.length - i) := by
        have e := List.drop_eq_getElem_cons hql
        rw [show l.length - (i + 1) = q by omega, show l.length - i = q + 1 by omega]
        exact e
      have hnl := nb_lt (l.drop (l.length - i))
      have hll : (l.drop (l.length - i)).length = i := by rw [List.length_drop]; omega
      rw [hll] at hnl
      have hnc : nb (l.drop (l.length - (i + 1))) = (l[q]).toNat * 256 ^ i + nb (l.drop (l.length - i)) := by rw [hdr, nb_cons, hll]
      have hstep := fun y hy => rread_step (y := y) hv.out.1 hv.out.2 hnl hp hp4 hx hy
      have hx2 : (l[q]).toNat < 256 := hx
      generalize (l[q]).toNat = x at hcell hnc hstep hx2
      obtain ⟨g, hg, hBg, hgl, hcg, hfr, hset⟩ := hown.at_ hp4
      injection hg with hg
      injection hg with hg
      subst hg
      have hj : (l.length : Int) - 1 - (i : Int) = (q : Int) := by omega
      have hdi : (i : Int) / 2 = (p : Int) := by omega
      have HS := Lib.hid hset
      have HT := Lib.hid hstep
      have HC := Lib.hid hnc
      have HQ := Lib.hid hq
      have hlo := hv.out.1.at_ hp4
      clear hset hstep hnc hdr hnl hll hx hq
      clear hp
      have hi2 : (i : Int).tmod 2 = ((i % 2 : Nat) : Int) := by rw [Int.tmod_eq_emod_of_nonneg (by omega)]; omega
      by_cases h2 : i % 2 = 1
      · have HT2 := Lib.hid (HT.out (x * 256) (by rw [if_pos h2]))
        have hyb := HT2.out.1
        have hm2 : (i : Int) % 2 = 1 := by omega
        generalize ds[p] = y at hcg HT2 hyb hlo HS
        clear h2 hi2
        go_wp2
        go_roundw
        case rel =>
          have e1 : (y : Int) + (x : Int) * 256 = ((y + x * 256 : Nat) : Int) := by omega
          refine ⟨i + 1, _, by go_num, by omega, ?_, Lib.hid ⟨HT2.out.2.1, ?_⟩, ?_⟩
          · rw [e1]
            exact HS.out _
          · rw [HT2.out.2.2, HC.out]
          · exact hbr.setCell (p := ⟨w.heap.size, p, none⟩) (Nat.le_refl _) _
        case measure => simp [intOf]; omega
      · have HT2 := Lib.hid (HT.out x (by rw [if_neg h2]))
        have hyb := HT2.out.1
        have hm2 : (i : Int) % 2 = 0 := by omega
        generalize ds[p] = y at hcg HT2 hyb hlo HS
        clear h2 hi2
        go_wp2
        go_roundw
        case rel =>
          have e1 : (y : Int) + (x : Int) = ((y + x : Nat) : Int) := by omega
          refine ⟨i + 1, _, by go_num, by omega, ?_, Lib.hid ⟨HT2.out.2.1, ?_⟩, ?_⟩
          · rw [e1]
            exact HS.out _
          · rw [HT2.out.2.2, HC.out]
          · exact hbr.setCell (p := ⟨w.heap.size, p, none⟩) (Nat.le_refl _) _
        case measure => simp [intOf]; omega
    · have hke : i = l.length := by omega
      subst hke
      go_wp2_with fail
      refine (Whole_calls hown.nr hv.out.1 (by have := HM.out; omega)).mono ?_
      rintro e w1 ⟨A1, m1, c1, xs, rfl, hr1, hlo1, ht1, hn1, hbk1, hml1, hb1⟩
      go_wp2
      go_ret
      refine ⟨A1, m1, c1, xs, rfl, hr1, hlo1, ht1, ?_, fun ad e => Nat.le_trans hbr.size (hbk1 ad e), by have := HM.out; omega, below_then hbr hbr.size hb1⟩
      rw [hn1, hv.out.2]
      simp
end Go.Proofs.Ytjbnoamoadaknaa
end

/- The document's numbers: fill, Bytes, Bits, Same. -/
section
namespace Go.Proofs.Ytjbnoamoadaknaa
open Go.RowKit

/-- A byte of a number is one of its digits'. -/
theorem byte_digit {ds : List Nat} (hlo : Lo 65536 ds) (i : Nat) : num 65536 ds / 256 ^ i % 256 = ds.getD (i / 2) 0 / 256 ^ (i % 2) % 256 := by
  have hd := num_digit (by decide : 0 < 65536) (i / 2) hlo
  rw [pow_half i, ← Nat.div_div_eq_div_mul, ← hd]
  generalize num 65536 ds / 65536 ^ (i / 2) = X
  have hr : i % 2 < 2 := Nat.mod_lt _ (by decide)
  generalize i % 2 = r at hr
  rcases (by omega : r = 0 ∨ r = 1) with rfl | rfl <;> omega

set_option maxRecDepth 100000 in
set_option maxHeartbeats 3200000 in
theorem fill_calls {A : Option Addr} {n c : Nat} {ds : List Nat} {w : World} (h : Nr w .u64 A n c ds) (hlo : Lo 65536 ds) (k : Nat) (hk : k ≤ 1000000) (x : Int) (hx : x = k) :
    Calls Try.prog 90 #[.slice A n c, .int .i64 x] w fun e w' => ∃ A' c', e = .returned (.slice A' k c') ∧ Own w' w.heap.size A' k c' (be k (num 65536 ds)) ∧ Below w.heap.size w w' := by
  subst hx
  have hm := run_make8 k k (Nat.le_refl _) (by omega) (k : Int) rfl
  have hown0 := Own.made w w.heap.size k k (Nat.le_refl _) (Nat.le_refl _) (by omega)
  have hb0 := (Below.refl w.heap.size w).alloc (Nat.le_refl _) (.cells (zcells k) 5)
  have hbw := Lib.hid (byte_digit hlo)
  have hdl := Lib.hid (show ∀ j, ds.getD j 0 < 65536 from fun j => by
    rw [List.getD_eq_getElem?_getD]
    by_cases hj : j < ds.length
    · rw [List.getElem?_eq_getElem hj]; exact hlo.at_ hj
    · rw [List.getElem?_eq_none (by omega)]; decide)
  go_enter Try.func90, Try.ntmps90
  go_wp2_with fail
  generalize w.alloc (.cells (zcells k) 5) = w0 at hown0 hb0 ⊢
  go_loopw [6] (fun v wr => ∃ i : Nat, v = .int .i64 i ∧ i ≤ k ∧ Own wr w.heap.size (some ⟨w.heap.size, 0, none⟩) k k (List.replicate (k - i) 0 ++ be i (num 65536 ds)) ∧ Below w.heap.size w wr) (fun v _ => k - (intOf v).toNat)
  case atStart => exact ⟨0, rfl, Nat.zero_le _, by simpa [be] using hown0, hb0⟩
  case round =>
    obtain ⟨i, rfl, hi, hown, hbr⟩ := hrel
    clear hown0 hb0 hm
    by_cases hlt : i < k
    · obtain ⟨g, hg, hBg, hgl, hcell, hfr, hset⟩ := hown.at_ (k := k - 1 - i) (by simp [be_length]; omega)
      injection hg with hg
      injection hg with hg
      subst hg
      have hr := h.below hbr
      have HS := Lib.hid hset
      clear hset
      have hj : (k : Int) - 1 - (i : Int) = ((k - 1 - i : Nat) : Int) := by omega
      have hdg := hdl.out (i / 2)
      have hbi := hbw.out i
      have hcl := Lib.hid (digit_calls hr (i / 2) ((i : Int) / 2) (by omega))
      generalize ds.getD (i / 2) 0 = y at hdg hbi hcl
      by_cases h2 : i % 2 = 1
      · have hm2 : (i : Int) % 2 = 1 := by omega
        rw [h2] at hbi
        have HB := Lib.hid hbi
        clear h2 hbi
        go_wp2_with (go_at_call 96; refine hcl.out.mono ?_; rintro e w1 ⟨rfl, rfl⟩)
        go_roundw
        case rel =>
          have hv : ((y : Nat) : Int) / 256 % 256 = ((UInt8.ofNat (num 65536 ds / 256 ^ i)).toNat : Int) := by
            rw [UInt8.toNat_ofNat']
            show _ = ((num 65536 ds / 256 ^ i % 256 : Nat) : Int)
            rw [HB.out]
            simp
          have hv2 : ((y : Nat) : Int) / 256 = ((UInt8.ofNat (num 65536 ds / 256 ^ i)).toNat : Int) := by omega
          first | rw [hv] | rw [hv2]
          have ho := HS.out (UInt8.ofNat (num 65536 ds / 256 ^ i))
          rw [be_step hlt _ _ rfl] at ho
          exact ⟨i + 1, by go_num, by omega, ho, hbr.setCell (p := ⟨w.heap.size, k - 1 - i, none⟩) (Nat.le_refl _) _⟩
        case measure => simp [intOf]; omega
      · have hm2 : (i : Int) % 2 = 0 := by omega
        rw [show i % 2 = 0 by omega] at hbi
        have HB := Lib.hid hbi
        clear h2 hbi
        go_wp2_with (go_at_call 96; refine hcl.out.mono ?_; rintro e w1 ⟨rfl, rfl⟩)
        go_roundw
        case rel =>
          have hv : ((y : Nat) : Int) % 256 = ((UInt8.ofNat (num 65536 ds / 256 ^ i)).toNat : Int) := by
            rw [UInt8.toNat_ofNat']
            show _ = ((num 65536 ds / 256 ^ i % 256 : Nat) : Int)
            rw [HB.out]
            simp
          rw [hv]
          have ho := HS.out (UInt8.ofNat (num 65536 ds / 256 ^ i))
          rw [be_step hlt _ _ rfl] at ho
          exact ⟨i + 1, by go_num, by omega, ho, hbr.setCell (p := ⟨w.heap.size, k - 1 - i, none⟩) (Nat.le_refl _) _⟩
        case measure => simp [intOf]; omega
    · have hke : i = k := by omega
      go_wp2
      go_ret
      subst hke
      exact ⟨_, _, rfl, by simpa using hown, hbr⟩

theorem nbits_half {x : Nat} (h : x ≠ 0) : nbits x = nbits (x / 2) + 1 := by
  have h1 := nbits_le h
  have h2 := nbits_lt x
  have hp := nbits_pos h
  by_cases h0 : x / 2 = 0
  · rw [h0, nbits_zero]
    have : x = 1 := by omega
    subst this
    rfl
  · obtain ⟨k, hk⟩ : ∃ k, nbits x = k + 1 := ⟨nbits x - 1, by omega⟩
    rw [hk] at h1 h2
    simp only [Nat.add_sub_cancel] at h1
    cases k with
    | zero => simp at h1 h2; omega
    | succ k =>
      rw [hk, nbits_of (n := x / 2) (k := k) (by rw [Nat.pow_succ] at h1; omega) (by rw [Nat.pow_succ] at h2; omega)]
theorem digits_bits {ds : List Nat} (hlo : Lo 65536 ds) (hne : 0 < ds.length) (hl : ds[ds.length - 1]'(by omega) ≠ 0) : nbits (num 65536 ds) = 16 * (ds.length - 1) + nbits (ds[ds.length - 1]'(by omega)) := by
  have e := take_snoc ds (ds.length - 1) (by omega)
  rw [show ds.length - 1 + 1 = ds.length by omega, List.take_length] at e
  have hlt := num_lt (by decide : 0 < 65536) (hlo.take (k := ds.length - 1))
  rw [List.length_take, Nat.min_eq_left (by omega), show (65536 : Nat) = 2 ^ 16 from rfl, ← Nat.pow_mul] at hlt
  have e2 : num 65536 ds = num 65536 (ds.take (ds.length - 1)) + 2 ^ (16 * (ds.length - 1)) * ds[ds.length - 1]'(by omega) := by
    have := congrArg (num 65536) e
    rw [num_append, List.length_take, Nat.min_eq_left (by omega)] at this
    rw [this, Nat.pow_mul]
    simp [num]
  rw [e2]
  exact nbits_top hl hlt

set_option maxRecDepth 100000 in
set_option maxHeartbeats 3200000 in
theorem rBits_calls {A : Option Addr} {m c : Nat} {xs : List Nat} {w : World} (h : Nr w .u32 A m c xs) (hlo : Lo 4294967296 xs) (hm : m ≤ 100000) :
    Calls Try.prog 69 #[.slice A m c] w fun e w' => e = .returned (.int .i64 (nbits (num 4294967296 xs) : Nat)) ∧ Below w.heap.size w w' := by
  go_enter Try.func69, Try.ntmps69
  go_wp2_with fail
  refine (Digits_calls h hlo hm).mono ?_
  rintro e w1 ⟨A1, k, c1, ds, rfl, hr, hld, htd, hn, hk2, hb⟩
  have hN := Lib.hid hn
  clear hn
  obtain rfl := hr.2
  rcases Nat.eq_zero_or_pos ds.length with h0 | hp
  · have hz : nbits (num 4294967296 xs) = 0 := by
      rw [← hN.out, List.eq_nil_of_length_eq_zero h0]
      rfl
    have HZ := Lib.hid hz
    clear hz
    go_wp2
    go_ret
    rw [HZ.out]
    exact ⟨rfl, hb⟩
  · obtain ⟨q, hq⟩ : ∃ q, q = ds.length - 1 := ⟨_, rfl⟩
    have hql : q < ds.length := by omega
    obtain ⟨b, off, rfl, hbl, hcell⟩ := hr.at_ hql
    have hne : ds[q] ≠ 0 := htd ds[q] (by rw [List.getLast?_eq_getElem?, ← hq, List.getElem?_eq_getElem hql])
    have hlt := hld.at_ hql
    have hdb := digits_bits hld hp (by subst hq; exact hne)
    rw [hN.out] at hdb
    have hj : (ds.length : Int) - 1 = (q : Int) := by omega
    have hd0 : ds[ds.length - 1]'(by omega) = ds[q] := by subst hq; rfl
    rw [hd0, ← hq] at hdb
    have HB := Lib.hid hdb
    have hzl : ¬ (ds.length : Int) = 0 := by omega
    have HQ := Lib.hid hq
    clear hdb hd0 hq
    generalize ds[q] = y at hcell hne hlt HB
    clear hne
    go_wp2_with fail
    go_loop [4, 5] (fun n x => ∃ a z : Nat, n = .int .i64 a ∧ x = .int .u64 z ∧ z < 65536 ∧ a ≤ 4000000 ∧ Hid (a + nbits z = nbits (num 4294967296 xs))) (fun _ x => (intOf x).toNat)
    case atStart => exact ⟨16 * q, y, by go_num, rfl, hlt, by omega, Lib.hid HB.out.symm⟩
    case round =>
      obtain ⟨a, z, rfl, rfl, hz, ha, hs⟩ := hrel
      rcases Nat.eq_zero_or_pos z with rfl | hzp
      · go_wp2
        go_ret
        have := hs.out
        rw [nbits_zero] at this
        exact ⟨by rw [← this]; rfl, hb⟩
      · have hh := Lib.hid (nbits_half (x := z) (by omega))
        have hbz := nbits_le_of (k := 32 * m) (by have := num_lt (by decide : 0 < 4294967296) hlo; rw [h.2, pow32] at this; exact this)
        have hsb := hs.out
        have hhb := hh.out
        have hab : a + 1 ≤ 4000000 := by omega
        clear hsb hhb hbz
        go_wp2
        go_round
        case rel => exact ⟨a + 1, z / 2, by go_num, by go_num, by omega, hab, Lib.hid (by have := hs.out; have := hh.out; omega)⟩
        case measure => simp [intOf]; omega

set_option maxRecDepth 100000 in
set_option maxHeartbeats 1600000 in
theorem rBytes_calls {A : Option Addr} {m c : Nat} {xs : List Nat} {w : World} (h : Nr w .u32 A m c xs) (hlo : Lo 4294967296 xs) (hm : m ≤ 100000) :
    Calls Try.prog 70 #[.slice A m c] w fun e w' => ∃ A' n' c', e = .returned (.slice A' n' c') ∧ Own w' w.heap.size A' n' c' (bytesN (num 4294967296 xs)) ∧ Below w.heap.size w w' := by
  have hl := nlen_le hlo h.2
  have hlb := nbits_le_of (k := 32 * m) (by have := num_lt (by decide : 0 < 4294967296) hlo; rw [h.2, pow32] at this; exact this)
  have HL := Lib.hid (show nlen (num 4294967296 xs) = (nbits (num 4294967296 xs) + 7) / 8 from rfl)
  go_enter Try.func70, Try.ntmps70
  go_wp2_with fail
  refine (Digits_calls h hlo hm).mono ?_
  rintro e w1 ⟨A1, k, c1, ds, rfl, hr, hld, htd, hn, hk2, hb1⟩
  have hN := Lib.hid hn
  clear hn
  have h1 := h.below hb1
  go_wp2_with fail
  refine (rBits_calls h1 hlo hm).mono ?_
  rintro e w2 ⟨rfl, hb2⟩
  have hr2 := hr.below hb2
  have hB2 := below_then hb1 hb1.size hb2
  go_wp2_with (go_at_call 90; refine (fill_calls hr2 hld (nlen (num 4294967296 xs)) (by omega) _ (by have := HL.out; omega)).mono ?_; rintro e w3 ⟨A3, c3, rfl, ho3, hb3⟩)
  go_ret
  refine ⟨_, _, _, rfl, ?_, below_then hB2 hB2.size hb3⟩
  have := ho3.lower hB2.size
  rw [hN.out] at this
  exact this

end Go.Proofs.Ytjbnoamoadaknaa
end
