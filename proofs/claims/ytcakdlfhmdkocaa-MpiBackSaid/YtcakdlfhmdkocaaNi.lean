/- The document's numbers: Whole, digit, Read. -/
import Derived.Test.YtcakdlfhmdkocaaNh
namespace Go.Proofs.Ytcakdlfhmdkocaa
open Go.RowKit

theorem num_ge {β : Nat} (hβ : 0 < β) : ∀ {xs : List Nat}, Trim xs → xs ≠ [] → β ^ (xs.length - 1) ≤ num β xs
  | [], _, h => absurd rfl h
  | [x], ht, _ => by
    have := ht x (by simp)
    simp [num]; omega
  | x :: y :: xs, ht, _ => by
    have ih := num_ge hβ ht.cons (by simp)
    simp only [List.length_cons, Nat.add_sub_cancel] at ih ⊢
    rw [num, Nat.pow_succ, Nat.mul_comm (β ^ xs.length) β]
    have := Nat.mul_le_mul_left β ih
    omega
theorem trim_of_ge {β : Nat} (hβ : 0 < β) {xs : List Nat} (hlo : Lo β xs) (h : xs ≠ [] → β ^ (xs.length - 1) ≤ num β xs) : Trim xs := fun y hy h0 => by
  subst h0
  rcases List.eq_nil_or_concat xs with rfl | ⟨ini, z, rfl⟩
  · cases hy
  · rw [List.concat_eq_append] at hlo h hy
    have hz : z = 0 := by simpa using hy
    subst hz
    have h1 := h (by simp)
    have h2 := num_lt hβ (xs := ini) (fun x hx => hlo x (by simp [hx]))
    rw [num_append] at h1
    simp [num] at h1
    omega
theorem whole_step {ds xs : List Nat} {k x : Nat} (hd : num 4294967296 xs = num 65536 (ds.take (2 * k))) (hl : xs.length = k) (hk : 2 * k < ds.length) (hx : x = ds[2 * k] + ds.getD (2 * k + 1) 0 * 65536) :
    num 4294967296 (xs ++ [x]) = num 65536 (ds.take (2 * (k + 1))) := by
  have e1 : num 65536 ((ds.drop (2 * k)).take 2) = x := by
    rw [List.drop_eq_getElem_cons hk, hx, List.getD_eq_getElem?_getD, ← List.head?_drop]
    cases ds.drop (2 * k + 1) with
    | nil => simp [num]
    | cons b r => simp [num]; omega
  rw [show 2 * (k + 1) = 2 * k + 2 by omega, List.take_add, num_append, num_append, hd, hl, e1, List.length_take, Nat.min_eq_left (by omega), Nat.pow_mul, sq65536]
  simp [num]

set_option maxRecDepth 100000 in
set_option maxHeartbeats 3200000 in
theorem Whole_calls {A : Option Addr} {n c : Nat} {es : List Nat} {w : World} (h : Nr w .u64 A n c es) (hlo : Lo 65536 es) (hn : n ≤ 200000) :
    Calls Try.prog 75 #[.slice A n c] w fun e w' => ∃ A' m c' xs, e = .returned (.slice A' m c') ∧ Nr w' .u32 A' m c' xs ∧ Lo 4294967296 xs ∧ Trim xs ∧ num 4294967296 xs = num 65536 es ∧ (∀ ad, A' = some ad → w.heap.size ≤ ad.block) ∧ m ≤ n + 1 ∧ Below w.heap.size w w' := by
  have hen := h.2
  have hem := ownN_empty w 63 .u32
  have hbe := (Below.refl w.heap.size w).alloc (Nat.le_refl _) (.cells #[] 63)
  go_enter Try.func75, Try.ntmps75
  go_wp2_with (go_at_call 80; refine (rtrim_calls h).mono ?_; rintro e w1 ⟨⟨q, rfl, hq, ht, hnum⟩, rfl⟩)
  have hd := h.upto (j := q) (by omega)
  have hdl : (es.take q).length = q := by rw [List.length_take]; omega
  have HN := Lib.hid (hnum 65536)
  have hlod := hlo.take (k := q)
  have HT := Lib.hid ht
  clear ht hnum
  generalize es.take q = ds at hd hdl HN hlod HT
  subst hdl
  generalize w.alloc (.cells #[] 63) = w0 at hem hbe ⊢
  generalize some { block := w.heap.size, off := 0 : Addr } = A0 at hem ⊢
  go_loopw [3, 4] (fun o i wr => ∃ (k : Nat) (Ao : Option Addr) (mo co : Nat) (xs : List Nat), 2 * k ≤ ds.length + 1 ∧ i = .int .i64 ((2 * k : Nat) : Int) ∧ o = .slice Ao mo co ∧ OwnN wr w.heap.size 63 .u32 Ao mo co xs ∧ Below w.heap.size w wr ∧ Hid (xs.length = k ∧ Lo 4294967296 xs ∧ num 4294967296 xs = num 65536 (ds.take (2 * k)))) (fun _ i _ => ds.length + 1 - (intOf i).toNat)
  case atStart => exact ⟨0, _, 0, 0, [], by omega, rfl, rfl, hem, hbe, Lib.hid ⟨rfl, Lo.nil _, rfl⟩⟩
  case round =>
    obtain ⟨k, Ao, mo, co, xs, hk, rfl, rfl, hown, hbr, hv⟩ := hrel
    clear hem hbe
    have hmo := hown.2
    have hk2 := hv.out.1
    have hmo2 : mo ≤ 200001 := by omega
    obtain ⟨z, hz⟩ : ∃ z, z = 2 * k := ⟨_, rfl⟩
    rw [← hz]
    have HZ := Lib.hid hz
    clear hk2 hmo hz
    by_cases hlt : z < ds.length
    · have hdr := hd.below hbr
      obtain ⟨b, off, rfl, hbl, hcell⟩ := hdr.at_ hlt
      have hx0 := hlod.at_ hlt
      obtain ⟨y1, hy1⟩ : ∃ y1, y1 = z + 1 := ⟨_, rfl⟩
      have hz1 : (z : Int) + 1 = (y1 : Int) := by omega
      have HY := Lib.hid hy1
      by_cases hlt2 : y1 < ds.length
      · obtain ⟨b2, off2, he2, hbl2, hcell2⟩ := hdr.at_ hlt2
        injection he2 with he2
        injection he2 with he3 he4
        subst he3; subst he4
        have hx1 := hlod.at_ hlt2
        have hk0 : 2 * k < ds.length := by have := HZ.out; omega
        have hst := fun (x : Nat) (hx : x = ds[2 * k]'hk0 + ds.getD (2 * k + 1) 0 * 65536) => whole_step hv.out.2.2 hv.out.1 hk0 hx
        have hgd : ds.getD (2 * k + 1) 0 = ds[y1] := by have := HZ.out; subst this; subst hy1; simp [List.getD, hlt2]
        have hxx : ds[2 * k]'hk0 = ds[z] := by have := HZ.out; subst this; rfl
        rw [hgd, hxx] at hst
        have HS := Lib.hid hst
        clear hst hgd hxx hk0 hy1
        generalize ds[z] = x at hcell hx0 HS
        generalize ds[y1] = y at hcell2 hx1 HS
        go_wp2_with (at_builtin; go_must (refine appN (.tmp 32) (.tmp 35) rfl rfl E32 (by omega) rfl hown [x + y * 65536] _ (by simp [nvs]) 1 rfl rfl (by omega) hbr.size ?_); intro A2 c2 w2 hown2 hg2)
        have hb2 := hown.grew hbr hbr.size hg2
        have HV := Lib.hid (show (xs ++ [x + y * 65536]).length = k + 1 ∧ Lo 4294967296 (xs ++ [x + y * 65536]) ∧ num 4294967296 (xs ++ [x + y * 65536]) = num 65536 (ds.take (2 * (k + 1))) from ⟨by simp [hv.out.1], hv.out.2.1.snoc (by omega), HS.out _ rfl⟩)
        go_roundw
        case rel => exact ⟨k + 1, A2, _, c2, _, by have := HZ.out; omega, by have := HZ.out; go_num, rfl, hown2, hb2, HV⟩
        case measure => have := HY.out; simp [intOf]; omega
      · have hk0 : 2 * k < ds.length := by have := HZ.out; omega
        have hst := fun (x : Nat) (hx : x = ds[2 * k]'hk0 + ds.getD (2 * k + 1) 0 * 65536) => whole_step hv.out.2.2 hv.out.1 hk0 hx
        have hgd : ds.getD (2 * k + 1) 0 = 0 := by have := HZ.out; subst this; subst hy1; simp [List.getD, hlt2]
        have hxx : ds[2 * k]'hk0 = ds[z] := by have := HZ.out; subst this; rfl
        rw [hgd, hxx] at hst
        have HS := Lib.hid hst
        clear hst hgd hxx hk0 hy1
        generalize ds[z] = x at hcell hx0 HS
        go_wp2_with (at_builtin; go_must (refine appN (.tmp 32) (.tmp 35) rfl rfl E32 (by omega) rfl hown [x] _ (by simp [nvs]) 1 rfl rfl (by omega) hbr.size ?_); intro A2 c2 w2 hown2 hg2)
        have hb2 := hown.grew hbr hbr.size hg2
        have HV := Lib.hid (show (xs ++ [x]).length = k + 1 ∧ Lo 4294967296 (xs ++ [x]) ∧ num 4294967296 (xs ++ [x]) = num 65536 (ds.take (2 * (k + 1))) from ⟨by simp [hv.out.1], hv.out.2.1.snoc (by omega), HS.out _ (by omega)⟩)
        go_roundw
        case rel => exact ⟨k + 1, A2, _, c2, _, by have := HZ.out; omega, by have := HZ.out; go_num, rfl, hown2, hb2, HV⟩
        case measure => have := HY.out; simp [intOf]; omega
    · go_wp2
      go_ret
      have hke := HZ.out
      have hnn : num 4294967296 xs = num 65536 ds := by rw [hv.out.2.2, List.take_of_length_le (by omega)]
      refine ⟨_, mo, co, xs, rfl, hown.nr, hv.out.2.1, ?_, by rw [hnn, HN.out], fun ad e => (hown.blk ad e).1, by have := hv.out.1; have := hown.2; omega, hbr⟩
      refine trim_of_ge (by decide) hv.out.2.1 (fun hne => ?_)
      have hl := hv.out.1
      have hp := List.length_pos_iff.2 hne
      have hdn : ds ≠ [] := fun e => by rw [e] at hk; simp at hk; omega
      have hge := num_ge (by decide : 0 < 65536) HT.out hdn
      rw [hnn]
      refine Nat.le_trans ?_ hge
      rw [← sq65536, ← Nat.pow_mul]
      exact Nat.pow_le_pow_right (by decide) (by omega)

theorem digit_calls {A : Option Addr} {n c : Nat} {xs : List Nat} {w : World} (h : Nr w .u64 A n c xs) (i : Nat) (x : Int) (hx : x = i) :
    Calls Try.prog 81 #[.slice A n c, .int .i64 x] w fun e w' => e = .returned (.int .u64 (xs.getD i 0 : Nat)) ∧ w = w' := by
  subst hx
  obtain ⟨hc1, hc2⟩ := h.cap
  obtain rfl := h.2
  by_cases hlt : i < xs.length
  · have e := Lib.hid (show xs.getD i 0 = xs[i] by simp [List.getD, hlt])
    obtain ⟨b, off, rfl, hbl, hcell⟩ := h.at_ hlt
    go_enter Try.func81, Try.ntmps81
    go_wp2
    go_ret
    rw [e.out]
    exact ⟨rfl, rfl⟩
  · have e := Lib.hid (show xs.getD i 0 = 0 by simp [List.getD, hlt])
    go_enter Try.func81, Try.ntmps81
    go_wp2
    go_ret
    rw [e.out]
    exact ⟨rfl, rfl⟩
end Go.Proofs.Ytcakdlfhmdkocaa
