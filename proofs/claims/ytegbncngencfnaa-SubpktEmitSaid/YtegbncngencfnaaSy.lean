/- Whether subpackets are in form: subpkt.Check and the document's. -/
import Derived.Test.YtegbncngencfnaaSw
namespace Go.Proofs.Ytegbncngencfnaa
open Go.RowKit

def checkT : List SubV → Int
  | [] => 0
  | s :: ss => if (maySv s.1 s.2.2).2 = false then 3 else if (maySv s.1 s.2.2).1 = false ∧ s.2.1 = true then 11 else checkT ss

set_option maxRecDepth 100000 in
set_option maxHeartbeats 3200000 in
theorem Check_calls {A : Option Addr} {n c : Nat} {ss : List SubV} {w : World} (h : Ss w A n ss) (hn : n ≤ 9223372036854775807) :
    Calls Try.prog 43 #[.slice A n c] w fun e w' => e = .returned (.int .i64 (checkT ss)) ∧ Below w.heap.size w w' := by
  obtain rfl := h.1
  go_enter Try.func43, Try.ntmps43
  go_wp2_with fail
  go_loopw [9] (fun i wr => ∃ k : Nat, k ≤ ss.length ∧ i = .int .i64 k ∧ Below w.heap.size w wr ∧ Hid (checkT (ss.drop k) = checkT ss)) (fun i _ => ss.length - (intOf i).toNat)
  case atStart => exact ⟨0, Nat.zero_le _, rfl, Below.refl _ _, Lib.hid rfl⟩
  case round =>
    obtain ⟨k, hk, rfl, hbr, hfi⟩ := hrel
    by_cases hlt : k < ss.length
    · obtain ⟨b, off, Ak, nk, ck, hA, hbl, hc0, hc1, hc2, hbs⟩ := h.2 k hlt
      subst hA
      have hdr : ss.drop k = ss[k] :: ss.drop (k + 1) := List.drop_eq_getElem_cons hlt
      have hf := hfi.out
      rw [hdr, checkT] at hf
      generalize ss[k] = s at hc0 hc1 hc2 hbs hf
      obtain ⟨ty, cr, body⟩ := s
      simp only at hc0 hc1 hc2 hbs hf
      have q0 := (hbr.cell (p := ⟨b, off + k * 3, none⟩) hbl).trans hc0
      have q1 := (hbr.cell (p := ⟨b, off + k * 3 + 1, none⟩) hbl).trans hc1
      have q2 := (hbr.cell (p := ⟨b, off + k * 3 + 2, none⟩) hbl).trans hc2
      have hnew := heap_alloc_new wr (.cells #[.int .i64 ty, .bool cr, .slice Ak nk ck] 78)
      have hba := (Below.refl wr.heap.size wr).alloc (Nat.le_refl _) (.cells #[.int .i64 ty, .bool cr, .slice Ak nk ck] 78)
      have hbD := below_then hbr hbr.size hba
      have hmay := may_calls ty cr (hbs.below hbD)
      generalize maySv ty body = M at hf hmay
      obtain ⟨kn, ok⟩ := M
      simp only at hf hmay
      have HC := Lib.hid hmay
      have HF := Lib.hid hf
      clear hdr hc0 hc1 hc2 hf hmay
      generalize hw1 : wr.alloc (.cells #[.int .i64 ty, .bool cr, .slice Ak nk ck] 78) = w1 at hnew hbD HC
      have d0 := blk_cell hnew 0
      have d1 := blk_cell hnew 1
      have d2 := blk_cell hnew 2
      have HN := Lib.hid hnew
      clear hnew
      cases ok with
      | false =>
        have HF1 := Lib.hid (show (3 : Int) = checkT ss by rw [← HF.out]; rfl)
        go_wp2_with (go_at_call 77; refine HC.out.mono ?_; rintro e w2 ⟨rfl, hb2⟩)
        go_ret
        exact ⟨by rw [← HF1.out] <;> rfl, below_then hbD hbD.size hb2⟩
      | true =>
        cases kn with
        | true =>
          have HF1 := Lib.hid (show checkT (ss.drop (k + 1)) = checkT ss by rw [← HF.out]; rfl)
          go_wp2_with (go_at_call 77; refine HC.out.mono ?_; rintro e w2 ⟨rfl, hb2⟩)
          go_roundw
          case rel => exact ⟨k + 1, by omega, by go_num, below_then hbD hbD.size hb2, HF1⟩
          case measure => simp [intOf]; omega
        | false =>
          cases cr with
          | true =>
            have HF1 := Lib.hid (show (11 : Int) = checkT ss by rw [← HF.out]; rfl)
            go_wp2_with (go_at_call 77; refine HC.out.mono ?_; rintro e w2 ⟨rfl, hb2⟩; have e1 := (blk_cell ((hb2.block wr.heap.size (blk_lt HN.out)).trans HN.out) 1))
            go_ret
            exact ⟨by rw [← HF1.out] <;> rfl, below_then hbD hbD.size hb2⟩
          | false =>
            have HF1 := Lib.hid (show checkT (ss.drop (k + 1)) = checkT ss by rw [← HF.out]; rfl)
            go_wp2_with (go_at_call 77; refine HC.out.mono ?_; rintro e w2 ⟨rfl, hb2⟩; have e1 := (blk_cell ((hb2.block wr.heap.size (blk_lt HN.out)).trans HN.out) 1))
            go_roundw
            case rel => exact ⟨k + 1, by omega, by go_num, below_then hbD hbD.size hb2, HF1⟩
            case measure => simp [intOf]; omega
    · have hke : k = ss.length := by omega
      have hf := hfi.out
      rw [hke, List.drop_length, checkT] at hf
      have HF := Lib.hid hf
      clear hf
      go_wp2
      go_ret
      exact ⟨by rw [← HF.out] <;> rfl, hbr⟩

set_option maxRecDepth 100000 in
set_option maxHeartbeats 3200000 in
theorem rCheck_calls {A : Option Addr} {n c : Nat} {ss : List SubV} {w : World} (h : Ss w A n ss) (hn : n ≤ 9223372036854775807) :
    Calls Try.prog 44 #[.slice A n c] w fun e w' => e = .returned (.int .i64 (checkT ss)) ∧ Below w.heap.size w w' := by
  obtain rfl := h.1
  go_enter Try.func44, Try.ntmps44
  go_wp2_with fail
  go_loopw [3] (fun i wr => ∃ k : Nat, k ≤ ss.length ∧ i = .int .i64 k ∧ Below w.heap.size w wr ∧ Hid (checkT (ss.drop k) = checkT ss)) (fun i _ => ss.length - (intOf i).toNat)
  case atStart => exact ⟨0, Nat.zero_le _, rfl, Below.refl _ _, Lib.hid rfl⟩
  case round =>
    obtain ⟨k, hk, rfl, hbr, hfi⟩ := hrel
    by_cases hlt : k < ss.length
    · obtain ⟨b, off, Ak, nk, ck, hA, hbl, hc0, hc1, hc2, hbs⟩ := h.2 k hlt
      subst hA
      have hdr : ss.drop k = ss[k] :: ss.drop (k + 1) := List.drop_eq_getElem_cons hlt
      have hf := hfi.out
      rw [hdr, checkT] at hf
      generalize ss[k] = s at hc0 hc1 hc2 hbs hf
      obtain ⟨ty, cr, body⟩ := s
      simp only at hc0 hc1 hc2 hbs hf
      have q0 := (hbr.cell (p := ⟨b, off + k * 3, none⟩) hbl).trans hc0
      have q1 := (hbr.cell (p := ⟨b, off + k * 3 + 1, none⟩) hbl).trans hc1
      have q2 := (hbr.cell (p := ⟨b, off + k * 3 + 2, none⟩) hbl).trans hc2
      have hmay := rmay_calls ty cr (hbs.below hbr)
      generalize maySv ty body = M at hf hmay
      obtain ⟨kn, ok⟩ := M
      simp only at hf hmay
      have HC := Lib.hid hmay
      have HF := Lib.hid hf
      have HC1 := Lib.hid hc1
      clear hdr hc0 hc1 hc2 hf hmay
      cases ok with
      | false =>
        have HF1 := Lib.hid (show (3 : Int) = checkT ss by rw [← HF.out]; rfl)
        go_wp2_with (go_at_call 75; refine HC.out.mono ?_; rintro e w2 ⟨rfl, hb2⟩)
        go_ret
        exact ⟨by rw [← HF1.out] <;> rfl, below_then hbr hbr.size hb2⟩
      | true =>
        cases kn with
        | true =>
          have HF1 := Lib.hid (show checkT (ss.drop (k + 1)) = checkT ss by rw [← HF.out]; rfl)
          go_wp2_with (go_at_call 75; refine HC.out.mono ?_; rintro e w2 ⟨rfl, hb2⟩)
          go_roundw
          case rel => exact ⟨k + 1, by omega, by go_num, below_then hbr hbr.size hb2, HF1⟩
          case measure => simp [intOf]; omega
        | false =>
          cases cr with
          | true =>
            have HF1 := Lib.hid (show (11 : Int) = checkT ss by rw [← HF.out]; rfl)
            go_wp2_with (go_at_call 75; refine HC.out.mono ?_; rintro e w2 ⟨rfl, hb2⟩; have e1 := ((below_then hbr hbr.size hb2).cell (p := ⟨b, off + k * 3 + 1, none⟩) hbl).trans HC1.out)
            go_ret
            exact ⟨by rw [← HF1.out] <;> rfl, below_then hbr hbr.size hb2⟩
          | false =>
            have HF1 := Lib.hid (show checkT (ss.drop (k + 1)) = checkT ss by rw [← HF.out]; rfl)
            go_wp2_with (go_at_call 75; refine HC.out.mono ?_; rintro e w2 ⟨rfl, hb2⟩; have e1 := ((below_then hbr hbr.size hb2).cell (p := ⟨b, off + k * 3 + 1, none⟩) hbl).trans HC1.out)
            go_roundw
            case rel => exact ⟨k + 1, by omega, by go_num, below_then hbr hbr.size hb2, HF1⟩
            case measure => simp [intOf]; omega
    · have hke : k = ss.length := by omega
      have hf := hfi.out
      rw [hke, List.drop_length, checkT] at hf
      have HF := Lib.hid hf
      clear hf
      go_wp2
      go_ret
      exact ⟨by rw [← HF.out] <;> rfl, hbr⟩
end Go.Proofs.Ytegbncngencfnaa
