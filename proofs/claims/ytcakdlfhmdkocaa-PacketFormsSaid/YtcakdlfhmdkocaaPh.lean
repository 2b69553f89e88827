/- A packet with a head of one form or another. -/
import Derived.Test.YtcakdlfhmdkocaaPb
import Derived.Test.YtcakdlfhmdkocaaTu
import Derived.Test.YtcakdlfhmdkocaaLw19
namespace Go.Proofs.Ytcakdlfhmdkocaa
open Go.RowKit

theorem is_row (w : World) (cs : Array Value) (zs : List Int) (hcs : cs.toList = zs.map (Value.int .i64)) (m : Nat) (hm : zs.length = m) (hm2 : m ≤ 1000) : Is (w.alloc (.cells cs 3)) (some ⟨w.heap.size, 0, none⟩) m m zs := by
  have hnew := heap_alloc_new w (.cells cs 3)
  refine ⟨⟨by simp [hm], by simp only [maxLen]; omega, fun hn => ⟨_, rfl, by simp, fun j u hu => ?_⟩⟩, hm⟩
  have := cell_of_row (w.alloc (.cells cs 3)) w.heap.size j cs 3 (0, 0) hnew
  have he : (⟨w.heap.size, 0, none⟩ : Addr).add j = ⟨w.heap.size, j, none⟩ := by
    unfold Addr.add; split
    · rename_i h0; rw [h0]
    · simp
  rw [he, this, ← Array.getElem?_toList, hcs]
  exact hu

theorem new_ne {w : World} {ad : Addr} {g : Nat} {o u : Obj} (hn : w.heap[g]? = some u) (h : Option.map (fun x : Addr => x.block) (some ⟨w.heap.size, 0, none⟩) = some ad.block ∨ ad.block = (w.alloc o).heap.size) : ad.block ≠ g := by
  have h4 := blk_lt hn
  rcases h with h | h
  · have h' : w.heap.size = ad.block := by injection h
    omega
  · have h' : ad.block = w.heap.size + 1 := by rw [h]; simp
    omega

/-- Which form is meant. -/
def form3 (form : Int) : Int := bits BinOp.and IntKind.i64 form 3

set_option maxRecDepth 100000 in
set_option maxHeartbeats 6400000 in
theorem headed_calls (tag : Int) {A : Option Addr} {n c : Nat} {body : List UInt8} (form : Int) {w : World} (h : Bs w A n c body) (hn : n ≤ 3000) (hh : (headS tag n).2 = 0) :
    Calls Try.prog 43 #[.agg #[.int .i64 tag, .slice A n c], .int .i64 form] w fun e w' => ∃ A' m' c', e = .returned (.slice A' m' c') ∧ Own w' w.heap.size A' m' c' (headedS tag body (form3 form)) ∧ Below w.heap.size w w' := by
  have hnew := heap_alloc_new w (.cells #[.int .i64 tag, .slice A n c] 61)
  have hB1 := (Below.refl w.heap.size w).alloc (Nat.le_refl _) (.cells #[.int .i64 tag, .slice A n c] 61)
  obtain rfl := h.2
  obtain ⟨_, t, rfl, ht, hnl, eh⟩ := headS_tag hh
  have HH := Lib.hid hh
  have hl6 := headF_len (tag := t) (n := body.length) (form3 form) hnl
  have q1 : ∀ k : Int, (bits BinOp.and IntKind.i64 form 3 == k) = decide (form3 form = k) := fun k => by
    show (form3 form == k) = _
    by_cases e : form3 form = k
    · rw [decide_eq_true e, beq_iff_eq]; exact e
    · rw [decide_eq_false e, beq_eq_false_iff_ne]; exact e
  have HF := Lib.hid (show headedS t body (form3 form) = headedS t body (form3 form) from rfl)
  generalize hq : form3 form = q at q1 hl6
  have HQ := Lib.hid hq
  have Q := Lib.hid q1
  clear hh hq q1 HF
  go_enter Try.func43, Try.ntmps43
  go_wp2_with fail
  generalize w.alloc (.cells #[.int .i64 t, .slice A body.length c] 61) = w1 at hnew hB1 ⊢
  refine (rHead_calls t body.length w1).mono ?_
  rintro e w2 ⟨A2, m2, c2, r2, rfl, ho2, hr2, hb2⟩
  rw [HH.out] at hr2
  subst hr2
  have hn2 := (hb2.block w.heap.size (blk_lt hnew)).trans hnew
  have hB2 := below_then hB1 hB1.size hb2
  have ho2 := ho2.lower (B' := w.heap.size) hB1.size
  clear hnew hb2
  -- which head
  by_cases h1 : q = 1
  · have a1 := (Q.out 1).trans (decide_eq_true h1)
    have a2 := (Q.out 2).trans (decide_eq_false (by omega))
    have a3 := (Q.out 3).trans (decide_eq_false (by omega))
    have k0 : w2.cell? ⟨w.heap.size, 0, none⟩ = some (.int .i64 t) := blk_cell hn2 0
    have k1 : w2.cell? ⟨w.heap.size, 1, none⟩ = some (.slice A body.length c) := blk_cell hn2 1
    go_wp2_with fail
    refine (rOld_calls t body.length w2).mono ?_
    rintro e w3 ⟨A3, m3, c3, r3, rfl, ho3, hr3, hb3⟩
    have hn3 := (hb3.block w.heap.size (blk_lt hn2)).trans hn2
    have hB3 := below_then hB2 hB2.size hb3
    have ho2 := ho2.below hb3
    have ho3 := ho3.lower (B' := w.heap.size) hB2.size
    clear hn2 k0 k1 hb3 hB2
    have hF : headedS t body q = headF t body.length q ++ body := by rw [headedS, if_neg (by omega)]
    by_cases h0 : r3 = 0
    · subst h0
      have hh : headF t body.length q = (oldS t body.length).1 := by rw [headF, if_pos h1, if_pos hr3.symm]
      rw [← hh] at ho3
      have HF := Lib.hid hF
      clear ho2 hr3 hh hF h1
      have hm3 := ho3.2
      have hem := empty8 w3
      have hal := ho3.bs.alloc (.cells #[] 5)
      go_wp2_with (first
        | (at_builtin; refine app8 (.tmp 57) (.tmp 58) rfl rfl rfl hem rfl hal (by omega) (by simp) ?_; intro A4 c4 w4 hown4 hg4 hat4; go_must (have hb4 := below_then hB3 hB3.size (below_empty hg4); rw [List.nil_append, Nat.zero_add] at hown4; have hown4 := hown4.lower (B' := w.heap.size) hB3.size; have hl4 := h.below hb4; have k4 : w4.cell? ⟨w.heap.size, 1, none⟩ = some (.slice A body.length c) := blk_cell (((below_empty hg4).block w.heap.size (blk_lt hn3)).trans hn3) 1))
        | (at_builtin; refine app8 (.tmp 60) (.tmp 62) rfl rfl rfl hown4 rfl hl4 (by omega) hb4.size ?_; intro A5 c5 w5 hown5 hg5 hat5; go_must (have hb5 := hown4.grew hb4 hb4.size hg5)))
      go_ret
      exact ⟨_, _, _, rfl, by rw [HF.out]; exact hown5, hb5⟩
    · have hne : (r3 == 0) = false := by rw [beq_eq_false_iff_ne]; exact h0
      have hh : headF t body.length q = (headS t body.length).1 := by rw [headF, if_pos h1, if_neg (fun e => h0 (hr3.trans e))]
      rw [← hh] at ho2
      have HF := Lib.hid hF
      clear ho3 hr3 hh hF h1
      have hm2 := ho2.2
      have hem := empty8 w3
      have hal := ho2.bs.alloc (.cells #[] 5)
      go_wp2_with (first
        | (at_builtin; refine app8 (.tmp 57) (.tmp 58) rfl rfl rfl hem rfl hal (by omega) (by simp) ?_; intro A4 c4 w4 hown4 hg4 hat4; go_must (have hb4 := below_then hB3 hB3.size (below_empty hg4); rw [List.nil_append, Nat.zero_add] at hown4; have hown4 := hown4.lower (B' := w.heap.size) hB3.size; have hl4 := h.below hb4; have k4 : w4.cell? ⟨w.heap.size, 1, none⟩ = some (.slice A body.length c) := blk_cell (((below_empty hg4).block w.heap.size (blk_lt hn3)).trans hn3) 1))
        | (at_builtin; refine app8 (.tmp 60) (.tmp 62) rfl rfl rfl hown4 rfl hl4 (by omega) hb4.size ?_; intro A5 c5 w5 hown5 hg5 hat5; go_must (have hb5 := hown4.grew hb4 hb4.size hg5)))
      go_ret
      exact ⟨_, _, _, rfl, by rw [HF.out]; exact hown5, hb5⟩
  · have a1 := (Q.out 1).trans (decide_eq_false h1)
    by_cases h2 : q = 2
    · have a2 := (Q.out 2).trans (decide_eq_true h2)
      have a3 := (Q.out 3).trans (decide_eq_false (by omega))
      have k0 : w2.cell? ⟨w.heap.size, 0, none⟩ = some (.int .i64 t) := blk_cell hn2 0
      have k1 : w2.cell? ⟨w.heap.size, 1, none⟩ = some (.slice A body.length c) := blk_cell hn2 1
      have hF : headedS t body q = [UInt8.ofNat (192 + t), 255, 0, 0, UInt8.ofNat (body.length / 256), UInt8.ofNat body.length] ++ body := by rw [headedS, if_neg (by omega), headF, if_neg h1, if_pos h2]; rfl
      have hlit := own_lit w2 #[.int .u8 (192 + (t : Int)), .int .u8 255, .int .u8 0, .int .u8 0, .int .u8 ((body.length : Int) / 256), .int .u8 ((body.length : Int) % 256)] [UInt8.ofNat (192 + t), 255, 0, 0, UInt8.ofNat (body.length / 256), UInt8.ofNat body.length] (by
        simp only [bvs, bv, List.map_cons, List.map_nil, UInt8.toNat_ofNat']
        rw [Nat.mod_eq_of_lt (show 192 + t < 2 ^ 8 by omega), Nat.mod_eq_of_lt (show body.length / 256 < 2 ^ 8 by omega)]
        simp) 6 rfl (by omega)
      have HF := Lib.hid hF
      have hB3 := hB2.alloc hB2.size (.cells #[.int .u8 (192 + (t : Int)), .int .u8 255, .int .u8 0, .int .u8 0, .int .u8 ((body.length : Int) / 256), .int .u8 ((body.length : Int) % 256)] 5)
      have hn3 := (((Below.refl w2.heap.size w2).alloc (Nat.le_refl _) (.cells #[.int .u8 (192 + (t : Int)), .int .u8 255, .int .u8 0, .int .u8 0, .int .u8 ((body.length : Int) / 256), .int .u8 ((body.length : Int) % 256)] 5)).block w.heap.size (blk_lt hn2)).trans hn2
      have hal := hlit.bs.alloc (.cells #[] 5)
      have hem := empty8 (w2.alloc (.cells #[.int .u8 (192 + (t : Int)), .int .u8 255, .int .u8 0, .int .u8 0, .int .u8 ((body.length : Int) / 256), .int .u8 ((body.length : Int) % 256)] 5))
      have hsz : (w2.alloc (.cells #[.int .u8 (192 + (t : Int)), .int .u8 255, .int .u8 0, .int .u8 0, .int .u8 ((body.length : Int) / 256), .int .u8 ((body.length : Int) % 256)] 5)).heap.size = w2.heap.size + 1 := by simp
      rw [hsz] at hem
      have HZ := Lib.hid hsz
      clear hF h1 h2 ho2 hlit hsz
      go_wp2_with (first
        | (at_builtin; refine app8 (.tmp 57) (.tmp 58) rfl rfl rfl hem rfl hal (by omega) (by simp) ?_; intro A4 c4 w4 hown4 hg4 hat4; go_must (rw [← HZ.out] at hg4; have hb4 := below_then hB3 hB3.size (below_empty hg4); rw [List.nil_append, Nat.zero_add] at hown4; have hown4 := hown4.lower (B' := w.heap.size) (by have := hB2.size; omega); have hl4 := h.below hb4; have k4 : w4.cell? ⟨w.heap.size, 1, none⟩ = some (.slice A body.length c) := blk_cell (((below_empty hg4).block w.heap.size (blk_lt hn3)).trans hn3) 1))
        | (at_builtin; refine app8 (.tmp 60) (.tmp 62) rfl rfl rfl hown4 rfl hl4 (by omega) hb4.size ?_; intro A5 c5 w5 hown5 hg5 hat5; go_must (have hb5 := hown4.grew hb4 hb4.size hg5)))
      go_ret
      exact ⟨_, _, _, rfl, by rw [HF.out]; exact hown5, hb5⟩
    · have a2 := (Q.out 2).trans (decide_eq_false h2)
      have hh : headF t body.length q = (headS t body.length).1 := by rw [headF, if_neg h1, if_neg h2]
      rw [← hh] at ho2
      have hm2 := ho2.2
      have hem := empty8 w2
      have hal := ho2.bs.alloc (.cells #[] 5)
      by_cases h3 : q = 3
      · have a3 := (Q.out 3).trans (decide_eq_true h3)
        have hFa : (partsF t [9] body).2 = 0 → headedS t body q = (partsF t [9] body).1 := fun e => by rw [headedS, if_pos ⟨h3, e⟩]
        have hFb : (partsF t [9] body).2 ≠ 0 → headedS t body q = headF t body.length q ++ body := fun e => by rw [headedS, if_neg (fun x => e x.2)]
        have HFa := Lib.hid hFa
        have HFb := Lib.hid hFb
        clear hFa hFb hh h1 h2 h3 ho2
        go_wp2_with (first
          | (at_builtin; refine app8 (.tmp 57) (.tmp 58) rfl rfl rfl hem rfl hal (by omega) (by simp) ?_; intro A4 c4 w4 hown4 hg4 hat4; go_must (have hb4 := below_then hB2 hB2.size (below_empty hg4); rw [List.nil_append, Nat.zero_add] at hown4; have hown4 := hown4.lower (B' := w.heap.size) hB2.size; have hl4 := h.below hb4; have hn4 := ((below_empty hg4).block w.heap.size (blk_lt hn2)).trans hn2; have k4 : w4.cell? ⟨w.heap.size, 1, none⟩ = some (.slice A body.length c) := blk_cell hn4 1))
          | (at_builtin; refine app8 (.tmp 60) (.tmp 62) rfl rfl rfl hown4 rfl hl4 (by omega) hb4.size ?_; intro A5 c5 w5 hown5 hg5 hat5; go_must (have hb5 := hown4.grew hb4 hb4.size hg5; have hn5 := ((hg5.block w.heap.size (blk_lt hn4) (row_ne (fun ad e => new_ne hn2 (hat4 ad e)))).trans hn4); have k50 : w5.cell? ⟨w.heap.size, 0, none⟩ = some (.int .i64 t) := blk_cell hn5 0; have k51 : w5.cell? ⟨w.heap.size, 1, none⟩ = some (.slice A body.length c) := blk_cell hn5 1)))
        have hz := is_row w5 #[.int .i64 9] [9] rfl 1 rfl (by omega)
        have hl5 := (h.below hb5).alloc (.cells #[.int .i64 9] 3)
        have hB6 := hb5.alloc hb5.size (.cells #[.int .i64 9] 3)
        have hown6 := hown5.alloc_ (.cells #[.int .i64 9] 3)
        generalize w5.alloc (.cells #[.int .i64 9] 3) = w6 at hz hl5 hB6 hown6 ⊢
        refine (rParts_calls t hl5 (by omega) hz (by omega)).mono ?_
        rintro e w7 ⟨A7, m7, c7, r7, rfl, ho7, hr7, hb7⟩
        have hB7 := below_then hB6 hB6.size hb7
        by_cases h0 : r7 = 0
        · have HF := Lib.hid (HFa.out (hr7.symm.trans h0))
          subst h0
          clear hr7
          go_wp2
          go_ret
          exact ⟨_, _, _, rfl, by rw [HF.out]; exact ho7.lower hB6.size, hB7⟩
        · have HF := Lib.hid (HFb.out (fun e => h0 (hr7.trans e)))
          have hne : (r7 == 0) = false := by rw [beq_eq_false_iff_ne]; exact h0
          clear hr7
          go_wp2
          go_ret
          exact ⟨_, _, _, rfl, by rw [HF.out]; exact hown6.below hb7, hB7⟩
      · have a3 := (Q.out 3).trans (decide_eq_false h3)
        have hF : headedS t body q = headF t body.length q ++ body := by rw [headedS, if_neg (by omega)]
        have HF := Lib.hid hF
        clear hF hh h1 h2 h3 ho2
        go_wp2_with (first
          | (at_builtin; refine app8 (.tmp 57) (.tmp 58) rfl rfl rfl hem rfl hal (by omega) (by simp) ?_; intro A4 c4 w4 hown4 hg4 hat4; go_must (have hb4 := below_then hB2 hB2.size (below_empty hg4); rw [List.nil_append, Nat.zero_add] at hown4; have hown4 := hown4.lower (B' := w.heap.size) hB2.size; have hl4 := h.below hb4; have hn4 := ((below_empty hg4).block w.heap.size (blk_lt hn2)).trans hn2; have k4 : w4.cell? ⟨w.heap.size, 1, none⟩ = some (.slice A body.length c) := blk_cell hn4 1))
          | (at_builtin; refine app8 (.tmp 60) (.tmp 62) rfl rfl rfl hown4 rfl hl4 (by omega) hb4.size ?_; intro A5 c5 w5 hown5 hg5 hat5; go_must (have hb5 := hown4.grew hb4 hb4.size hg5)))
        go_ret
        exact ⟨_, _, _, rfl, by rw [HF.out]; exact hown5, hb5⟩
end Go.Proofs.Ytcakdlfhmdkocaa
