/- The packets that count: packet.Clean. -/
import Derived.Test.YtcakdlfhmdkocaaPd
namespace Go.Proofs.Ytcakdlfhmdkocaa
open Go.RowKit

set_option maxRecDepth 100000 in
set_option maxHeartbeats 3200000 in
theorem Clean_calls {A : Option Addr} {n c : Nat} {ps : List (Int × List UInt8)} {w : World} (h : Ps w A n ps) (hn : n ≤ 9223372036854775807) (hl : ∀ p ∈ ps, p.2.length ≤ 100000) :
    Calls Try.prog 39 #[.slice A n c] w fun e w' => ∃ A' m' c' r, e = .returned (.tuple #[.slice A' m' c', .int .i64 r]) ∧ OwnPs w' w.heap.size A' m' c' (cleanF ps).1 ∧ r = (cleanF ps).2 ∧ Below w.heap.size w w' := by
  obtain rfl := h.1
  by_cases h100 : 100 < ps.length
  · have ht := Lib.hid (show cleanF ps = ([], 4) by rw [cleanF, if_pos h100])
    go_enter Try.func39, Try.ntmps39
    go_wp2
    go_ret2
    rw [ht.out]
    exact ⟨_, _, _, _, rfl, OwnPs.nil_ _ _, rfl, Below.refl _ _⟩
  · have ht := Lib.hid (show cleanF ps = cleanT ps [] by rw [cleanF, if_neg h100])
    go_enter Try.func39, Try.ntmps39
    go_wp2_with fail
    go_loopw [4, 14] (fun o i wr => ∃ (k : Nat) (Ao : Option Addr) (mo co : Nat) (outl : List (Int × List UInt8)), k ≤ ps.length ∧ mo ≤ k ∧ i = .int .i64 k ∧ o = .slice Ao mo co ∧ OwnPs wr w.heap.size Ao mo co outl ∧ Below w.heap.size w wr ∧ Hid (cleanT (ps.drop k) outl = cleanT ps [])) (fun _ i _ => ps.length - (intOf i).toNat)
    case atStart => exact ⟨0, _, 0, 0, [], Nat.zero_le _, Nat.zero_le _, rfl, rfl, OwnPs.nil_ _ _, Below.refl _ _, Lib.hid rfl⟩
    case round =>
      obtain ⟨k, Ao, mo, co, outl, hk, hmk, rfl, rfl, hown, hbr, hfi⟩ := hrel
      by_cases hlt : k < ps.length
      · obtain ⟨b, off, Ak, nk, ck, hA, hbl, hc0, hc1, hbs⟩ := h.2 k hlt
        subst hA
        have hdr : ps.drop k = ps[k] :: ps.drop (k + 1) := List.drop_eq_getElem_cons hlt
        have hlk := hl (ps[k]) (List.getElem_mem hlt)
        have hf := hfi.out
        rw [hdr, cleanT] at hf
        generalize ps[k] = p at hc0 hc1 hbs hf hlk
        obtain ⟨tag, body⟩ := p
        simp only at hc0 hc1 hbs hf hlk
        have q0 := (hbr.cell (p := ⟨b, off + k * 2, none⟩) hbl).trans hc0
        have q1 := (hbr.cell (p := ⟨b, off + k * 2 + 1, none⟩) hbl).trans hc1
        have hnk : nk ≤ 140737488355328 := by have := hbs.2; omega
        have HF := Lib.hid hf
        have hnew := heap_alloc_new wr (.cells #[.int .i64 tag, .slice Ak nk ck] 61)
        have hba := (Below.refl wr.heap.size wr).alloc (Nat.le_refl _) (.cells #[.int .i64 tag, .slice Ak nk ck] 61)
        have hbD := below_then hbr hbr.size hba
        have hoD := hown.below hba
        have hrow : ∀ a0, Ao.map (·.block) = some a0 → a0 < wr.heap.size ∧ w.heap.size ≤ a0 := fun a0 e => by
          cases Ao with
          | none => cases e
          | some ad => have e' : ad.block = a0 := by injection e
                       have := (hown.blk ad rfl); omega
        have hcn := counts_calls tag ((hbs.below hbr).below hba)
        rw [countsS_eq] at hcn
        clear hdr hf hc0 hc1
        cases hno : nothingS tag body with
        | true =>
          have hf := HF.out
          rw [if_pos hno] at hf
          rw [hno] at hcn
          simp only [if_true] at hcn
          have HF2 := Lib.hid hf
          have HN := Lib.hid hcn
          clear hf hcn hno
          go_wp2_with fail
          generalize wr.alloc (.cells #[.int .i64 tag, .slice Ak nk ck] 61) = w1 at hnew hbD hoD HN ⊢
          refine HN.out.mono ?_
          rintro e w2 ⟨rfl, hb2⟩
          go_wp2
          go_roundw
          case rel => exact ⟨k + 1, Ao, mo, co, outl, by omega, by omega, by go_num, rfl, hoD.below hb2, below_then hbD hbD.size hb2, Lib.hid HF2.out⟩
          case measure => simp [intOf]; omega
        | false =>
          have hf := HF.out
          rw [if_neg (by simp [hno])] at hf
          rw [hno] at hcn
          cases hkn : knownS tag with
          | false =>
            rw [if_neg (by simp [hkn])] at hf
            rw [hkn] at hcn
            simp only [Bool.false_eq_true, if_false] at hcn
            have HF2 := Lib.hid hf
            have HN := Lib.hid hcn
            clear hf hcn hno
            go_wp2_with fail
            generalize wr.alloc (.cells #[.int .i64 tag, .slice Ak nk ck] 61) = w1 at hnew hbD hoD HN ⊢
            refine HN.out.mono ?_
            rintro e w2 ⟨rfl, hb2⟩
            go_wp2
            go_ret2
            rw [ht.out, ← HF2.out]
            exact ⟨_, _, _, _, rfl, OwnPs.nil_ _ _, rfl, below_then hbD hbD.size hb2⟩
          | true =>
            rw [if_pos hkn] at hf
            rw [hkn] at hcn
            simp only [Bool.false_eq_true, if_false, if_true] at hcn
            have HF2 := Lib.hid hf
            have HN := Lib.hid hcn
            clear hf hcn hno
            go_wp2_with fail
            generalize wr.alloc (.cells #[.int .i64 tag, .slice Ak nk ck] 61) = w1 at hnew hbD hoD HN ⊢
            refine HN.out.mono ?_
            rintro e w2 ⟨rfl, hb2⟩
            go_wp2_with fail
            have hn2 := (hb2.block wr.heap.size (blk_lt hnew)).trans hnew
            have hB2 := (below_then hbD hbD.size hb2).drew
            have ho2 : OwnPs w2.drew w.heap.size Ao mo co outl := hoD.below hb2.drew
            have hs2 : Bs w2.drew Ak nk ck body := hbs.below hB2
            have k0 : w2.drew.cell? ⟨wr.heap.size, 0, none⟩ = some (.int .i64 tag) := blk_cell hn2 0
            have k1 : w2.drew.cell? ⟨wr.heap.size, 1, none⟩ = some (.slice Ak nk ck) := blk_cell hn2 1
            have hbx : wr.heap.size < w2.heap.size := blk_lt hn2
            have HN2 := Lib.hid (show w2.drew.heap[wr.heap.size]? = some (.cells #[.int .i64 tag, .slice Ak nk ck] 61 (0, 0)) from hn2)
            clear hn2
            go_region_held_law (fun w' => w'.cell? ⟨wr.heap.size, 0, none⟩ = some (.int .i64 tag) ∧ w'.cell? ⟨wr.heap.size, 1, none⟩ = some (.slice Ak nk ck)) (first | exact ⟨k0, k1⟩ | exact ⟨blk_cell H3.out 0, blk_cell H3.out 1⟩ | exact ⟨blk_cell H4.out 0, blk_cell H4.out 1⟩ | exact ⟨blk_cell H5.out 0, blk_cell H5.out 1⟩) ((first
              | (go_simp; go_at_call 64; refine (Clone_calls hs2 hnk).mono ?_; rintro e w3 ⟨A3, c3, rfl, ho3, hb3⟩; have hB3 := below_then hB2 hB2.size hb3; have H3 := Lib.hid ((hb3.block wr.heap.size (blk_lt HN2.out)).trans HN2.out); have hba3 := (Below.refl w3.heap.size w3).alloc (Nat.le_refl _) (.cells #[.int .i64 tag, .slice A3 nk c3] 61); have H4 := Lib.hid ((hba3.block wr.heap.size (blk_lt H3.out)).trans H3.out); have hnX := heap_alloc_new w3 (.cells #[.int .i64 tag, .slice A3 nk c3] 61); have hoX := (ho2.below hb3).below hba3; have hsX := (ho3.below hba3).bs; have hBX := below_then hB3 hB3.size hba3; have hneX : body ≠ [] → ∀ ad, A3 = some ad → some ad.block ≠ Ao.map (·.block) := (fun _ ad e e2 => by
                have h1 : w2.heap.size ≤ ad.block := (ho3.blk ad e).1
                have := hrow _ e2.symm
                omega))
              | (refine stepPk (.tmp 27) (.tmp 34) (by rfl) (by rfl) (by rfl) hoX (by rfl) hnX hsX hneX (by omega) hBX.size ?_; intro A5 c5 w5 ho5 hg5 hat5; have H5 := Lib.hid ((hg5.block wr.heap.size (blk_lt H4.out) (fun e => by have := hrow _ e.symm; omega)).trans H4.out))))
            have hb5 : Below w.heap.size w w5 := hBX.grown hg5 hBX.size (fun i e => (hrow i e).2)
            go_wp2
            go_roundw
            case rel => exact ⟨k + 1, A5, _, c5, _, by omega, by omega, by go_num, rfl, ho5, hb5, Lib.hid HF2.out⟩
            case measure => simp [intOf]; omega
      · have hk2 : k = ps.length := by omega
        have hf := hfi.out
        rw [hk2, List.drop_length, cleanT] at hf
        have HF2 := Lib.hid hf
        clear hf
        go_wp2
        go_ret2
        rw [ht.out, ← HF2.out]
        exact ⟨_, _, _, _, rfl, hown, rfl, hbr⟩
end Go.Proofs.Ytcakdlfhmdkocaa
