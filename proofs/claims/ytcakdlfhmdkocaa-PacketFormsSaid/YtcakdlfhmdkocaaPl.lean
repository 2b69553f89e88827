/- Joining packets: the document's answer. -/
import Derived.Test.YtcakdlfhmdkocaaPk
namespace Go.Proofs.Ytcakdlfhmdkocaa
open Go.RowKit

set_option maxRecDepth 100000 in
set_option maxHeartbeats 3200000 in
theorem rJoin_calls {A : Option Addr} {n c : Nat} {ps : List (Int × List UInt8)} {w : World} (h : Ps w A n ps) (hn : n ≤ 9223372036854775807) (hl : ∀ p ∈ ps, p.2.length ≤ 3000) :
    Calls Try.prog 38 #[.slice A n c] w fun e w' => ∃ A' m' c' r, e = .returned (.tuple #[.slice A' m' c', .int .i64 r]) ∧ Own w' w.heap.size A' m' c' (joinF ps).1 ∧ r = (joinF ps).2 ∧ Below w.heap.size w w' := by
  obtain rfl := h.1
  by_cases h100 : 100 < ps.length
  · have ht := Lib.hid (show joinF ps = ([], 4) by rw [joinF, if_pos h100])
    go_enter Try.func38, Try.ntmps38
    go_wp2
    go_ret2
    rw [ht.out]
    exact ⟨_, _, _, _, rfl, Own.nil_ _ _, rfl, Below.refl _ _⟩
  · have ht := Lib.hid (show joinF ps = joinT ps [] by rw [joinF, if_neg h100])
    have hem := empty8 w
    have hbe := (Below.refl w.heap.size w).alloc (Nat.le_refl _) (.cells #[] 5)
    go_enter Try.func38, Try.ntmps38
    go_wp2_with fail
    generalize w.alloc (.cells #[] 5) = w0 at hem hbe ⊢
    go_loopw [4, 5] (fun o i wr => ∃ (k : Nat) (Ao : Option Addr) (mo co : Nat) (outl : List UInt8), k ≤ ps.length ∧ i = .int .i64 k ∧ o = .slice Ao mo co ∧ Own wr w.heap.size Ao mo co outl ∧ Below w.heap.size w wr ∧ mo ≤ k * 3006 ∧ Hid (joinT (ps.drop k) outl = joinT ps [])) (fun _ i _ => ps.length - (intOf i).toNat)
    case atStart => exact ⟨0, _, 0, 0, [], Nat.zero_le _, rfl, rfl, hem, hbe, by omega, Lib.hid rfl⟩
    case round =>
      obtain ⟨k, Ao, mo, co, outl, hk, rfl, rfl, hown, hbr, hmo, hfi⟩ := hrel
      have hmo2 := hown.2
      clear hem hbe
      by_cases hlt : k < ps.length
      · obtain ⟨b, off, Ak, nk, ck, hA, hbl, hc0, hc1, hbs⟩ := h.2 k hlt
        subst hA
        have hdr : ps.drop k = ps[k] :: ps.drop (k + 1) := List.drop_eq_getElem_cons hlt
        have hlk := hl (ps[k]) (List.getElem_mem hlt)
        have hf := hfi.out
        rw [hdr, joinT] at hf
        generalize ps[k] = p at hc0 hc1 hbs hlk hf
        obtain ⟨tag, body⟩ := p
        simp only at hc0 hc1 hbs hlk hf
        obtain rfl := hbs.2
        have cell := fun (W : World) (hW : Below w.heap.size w W) => (And.intro ((hW.cell (p := ⟨b, off + k * 2, none⟩) hbl).trans hc0) ((hW.cell (p := ⟨b, off + k * 2 + 1, none⟩) hbl).trans hc1) : W.cell? ⟨b, off + k * 2, none⟩ = some (.int .i64 tag) ∧ W.cell? ⟨b, off + k * 2 + 1, none⟩ = some (.slice Ak body.length ck))
        have CELL := Lib.hid cell
        have HF := Lib.hid hf
        have hi0 : (0 : Int) ≤ (k : Int) := by omega
        have hi1 : (k : Int) < (ps.length : Int) := by omega
        have hl6 := headS_len tag body.length
        have hhd := rHead_calls tag body.length wr.drew
        generalize headS tag (body.length : Int) = hd at HF hl6 hhd
        have HH := Lib.hid hhd
        have hbd := hbr.drew
        clear hdr hf hc0 hc1 cell hhd
        go_wp2_with fail
        go_region_held (fun w' => w'.cell? ⟨b, off + k * 2, none⟩ = some (.int .i64 tag) ∧ w'.cell? ⟨b, off + k * 2 + 1, none⟩ = some (.slice Ak body.length ck)) (first | exact CELL.out _ hbd | exact CELL.out _ hB2) (first
          | (go_at_call 19; refine HH.out.mono ?_; rintro e w2 ⟨A2, m2, c2, r2, rfl, ho2, hr2, hb2⟩; have hB2 := below_then hbd hbd.size hb2; have Hr2 := Lib.hid hr2; clear hr2))
        have hr2 := Hr2.out
        have hm2 := ho2.2
        have hown2 : Own w2 w.heap.size Ao mo co outl := Own.below (w := wr.drew) hown hb2
        by_cases hr0 : r2 = 0
        · have hf := HF.out
          rw [if_pos (hr2.symm.trans hr0)] at hf
          have HF2 := Lib.hid hf
          subst hr0
          clear hf hr2
          go_wp2_with (first
            | (at_builtin; refine app8 (.tmp 36) (.tmp 37) rfl rfl rfl hown2 rfl ho2.bs (by omega) hB2.size ?_; intro A3 c3 w3 hown3 hg3 hat3; go_must (have hb3 := hown2.grew hB2 hB2.size hg3; have k3 := (CELL.out _ hb3).2))
            | (at_builtin; refine app8 (.tmp 39) (.tmp 44) rfl rfl rfl hown3 rfl (hbs.below hb3) (by omega) hb3.size ?_; intro A4 c4 w4 hown4 hg4 hat4; go_must (have hb4 := hown3.grew hb3 hb3.size hg4)))
          go_roundw
          case rel => exact ⟨k + 1, A4, _, c4, _, by omega, by go_num, rfl, hown4, hb4, by omega, Lib.hid HF2.out⟩
          case measure => simp [intOf]; omega
        · have hf := HF.out
          rw [if_neg (fun e => hr0 (hr2.trans e))] at hf
          have hne : (r2 != 0) = true := by rw [bne_iff_ne]; exact hr0
          rw [← hr2] at hf
          have HF2 := Lib.hid hf
          clear hf hr2
          go_wp2
          go_ret2
          rw [ht.out, ← HF2.out]
          exact ⟨_, _, _, _, rfl, Own.nil_ _ _, rfl, hB2⟩
      · have hk2 : k = ps.length := by omega
        have hf := hfi.out
        rw [hk2, List.drop_length, joinT] at hf
        by_cases h6 : 60000 < outl.length
        · rw [if_pos h6] at hf
          have HF2 := Lib.hid hf
          clear hf
          rw [hmo2] at h6
          go_wp2
          go_ret2
          rw [ht.out, ← HF2.out]
          exact ⟨_, _, _, _, rfl, Own.nil_ _ _, rfl, hbr⟩
        · rw [if_neg h6] at hf
          have HF2 := Lib.hid hf
          clear hf
          rw [hmo2] at h6
          go_wp2
          go_ret2
          rw [ht.out, ← HF2.out]
          exact ⟨_, _, _, _, rfl, hown, rfl, hbr⟩
end Go.Proofs.Ytcakdlfhmdkocaa
