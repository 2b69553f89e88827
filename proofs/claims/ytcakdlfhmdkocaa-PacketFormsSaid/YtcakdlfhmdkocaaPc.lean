/- The packets that count: the document's answer. -/
import Derived.Test.YtcakdlfhmdkocaaPo
import Derived.Test.YtcakdlfhmdkocaaPm
namespace Go.Proofs.Ytcakdlfhmdkocaa
open Go.RowKit

/-- The packets that count, behind out. -/
def cleanT : List (Int × List UInt8) → List (Int × List UInt8) → List (Int × List UInt8) × Int
  | [], out => (out, 0)
  | p :: ps, out => if nothingS p.1 p.2 then cleanT ps out else if knownS p.1 then cleanT ps (out ++ [p]) else ([], 8)
def cleanF (ps : List (Int × List UInt8)) : List (Int × List UInt8) × Int := if 100 < ps.length then ([], 4) else cleanT ps []
theorem emptyPk (w : World) : OwnPs (w.alloc (.cells #[] 61)) w.heap.size (some ⟨w.heap.size, 0, none⟩) 0 0 [] := ⟨[], World.ownsRow_made w #[] 0 (Nat.le_refl _) (by simp [maxLen]) rfl, rfl, rfl⟩
theorem OwnPs.len' {w : World} {B n c : Nat} {A : Option Addr} {ps : List (Int × List UInt8)} (h : OwnPs w B A n c ps) : ps.length = n := by
  obtain ⟨_, _, _, h⟩ := h
  exact h

set_option maxRecDepth 100000 in
set_option maxHeartbeats 3200000 in
theorem rClean_calls {A : Option Addr} {n c : Nat} {ps : List (Int × List UInt8)} {w : World} (h : Ps w A n ps) (hn : n ≤ 9223372036854775807) :
    Calls Try.prog 40 #[.slice A n c] w fun e w' => ∃ A' m' c' r, e = .returned (.tuple #[.slice A' m' c', .int .i64 r]) ∧ OwnPs w' w.heap.size A' m' c' (cleanF ps).1 ∧ r = (cleanF ps).2 ∧ Below w.heap.size w w' := by
  obtain rfl := h.1
  by_cases h100 : 100 < ps.length
  · have ht := Lib.hid (show cleanF ps = ([], 4) by rw [cleanF, if_pos h100])
    go_enter Try.func40, Try.ntmps40
    go_wp2
    go_ret2
    rw [ht.out]
    exact ⟨_, _, _, _, rfl, OwnPs.nil_ _ _, rfl, Below.refl _ _⟩
  · have ht := Lib.hid (show cleanF ps = cleanT ps [] by rw [cleanF, if_neg h100])
    have hem := emptyPk w
    have hbe := (Below.refl w.heap.size w).alloc (Nat.le_refl _) (.cells #[] 61)
    go_enter Try.func40, Try.ntmps40
    go_wp2_with fail
    generalize w.alloc (.cells #[] 61) = w0 at hem hbe ⊢
    go_loopw [4, 5] (fun o i wr => ∃ (k : Nat) (Ao : Option Addr) (mo co : Nat) (outl : List (Int × List UInt8)), k ≤ ps.length ∧ mo ≤ k ∧ i = .int .i64 k ∧ o = .slice Ao mo co ∧ OwnPs wr w.heap.size Ao mo co outl ∧ Below w.heap.size w wr ∧ Hid (cleanT (ps.drop k) outl = cleanT ps [])) (fun _ i _ => ps.length - (intOf i).toNat)
    case atStart => exact ⟨0, _, 0, 0, [], Nat.zero_le _, Nat.zero_le _, rfl, rfl, hem, hbe, Lib.hid rfl⟩
    case round =>
      obtain ⟨k, Ao, mo, co, outl, hk, hmk, rfl, rfl, hown, hbr, hfi⟩ := hrel
      clear hem hbe
      by_cases hlt : k < ps.length
      · obtain ⟨b, off, Ak, nk, ck, hA, hbl, hc0, hc1, hbs⟩ := h.2 k hlt
        subst hA
        have hdr : ps.drop k = ps[k] :: ps.drop (k + 1) := List.drop_eq_getElem_cons hlt
        have hf := hfi.out
        rw [hdr, cleanT] at hf
        generalize ps[k] = p at hc0 hc1 hbs hf
        obtain ⟨tag, body⟩ := p
        simp only at hc0 hc1 hbs hf
        have cell := fun (W : World) (hW : Below w.heap.size w W) => (And.intro ((hW.cell (p := ⟨b, off + k * 2, none⟩) hbl).trans hc0) ((hW.cell (p := ⟨b, off + k * 2 + 1, none⟩) hbl).trans hc1) : W.cell? ⟨b, off + k * 2, none⟩ = some (.int .i64 tag) ∧ W.cell? ⟨b, off + k * 2 + 1, none⟩ = some (.slice Ak nk ck))
        have CELL := Lib.hid cell
        have HF := Lib.hid hf
        obtain ⟨q0, q1⟩ := cell wr hbr
        have hnt := nothing_calls tag (hbs.below hbr)
        clear hdr hf hc0 hc1 cell
        cases hno : nothingS tag body with
        | true =>
          have hf := HF.out
          rw [if_pos hno] at hf
          rw [hno] at hnt
          have HF2 := Lib.hid hf
          have HN := Lib.hid hnt
          clear hf hnt hno
          go_wp2_with (go_at_call 66; refine HN.out.mono ?_; rintro e w1 ⟨rfl, hb1⟩; have hB1 := below_then hbr hbr.size hb1)
          go_roundw
          case rel => exact ⟨k + 1, Ao, mo, co, outl, by omega, by omega, by go_num, rfl, hown.below hb1, hB1, Lib.hid HF2.out⟩
          case measure => simp [intOf]; omega
        | false =>
          have hf := HF.out
          rw [if_neg (by simp [hno])] at hf
          rw [hno] at hnt
          have HN := Lib.hid hnt
          cases hkn : knownS tag with
          | false =>
            rw [if_neg (by simp [hkn])] at hf
            have HF2 := Lib.hid hf
            clear hf hnt hno
            go_wp2_with (first
              | (go_at_call 66; refine HN.out.mono ?_; rintro e w1 ⟨rfl, hb1⟩; have hB1 := below_then hbr hbr.size hb1; have qq := CELL.out _ hB1)
              | (go_at_call 67; refine (known_calls tag _).mono ?_; rw [hkn]; rintro e w2 ⟨rfl, rfl⟩))
            go_ret2
            rw [ht.out, ← HF2.out]
            exact ⟨_, _, _, _, rfl, OwnPs.nil_ _ _, rfl, hB1⟩
          | true =>
            rw [if_pos hkn] at hf
            have HF2 := Lib.hid hf
            clear hf hnt hno
            have hnee : body ≠ [] → ∀ ad, Ak = some ad → some ad.block ≠ Ao.map (·.block) := fun hl ad e e2 => by
              have h1 := hbs.lt hl ad e
              cases Ao with
              | none => cases e2
              | some a0 =>
                have e' : ad.block = a0.block := by injection e2
                have := (hown.blk a0 rfl).1
                omega
            go_wp2_with (first
              | (go_at_call 66; refine HN.out.mono ?_; rintro e w1 ⟨rfl, hb1⟩; have hB1 := below_then hbr hbr.size hb1; have qq := CELL.out _ hB1; have hown1 := hown.below hb1)
              | (go_at_call 67; refine (known_calls tag _).mono ?_; rw [hkn]; rintro e w2 ⟨rfl, rfl⟩)
              | (at_builtin; go_must (refine appPk (.tmp 28) (.tmp 33) rfl rfl rfl hown1 rfl (hbs.below hB1) hnee (by omega) hB1.size ?_); intro A3 c3 w3 hown3 hg3 hat3))
            have hb3 : Below w.heap.size w w3 := hB1.grown hg3 hB1.size (fun i e => by
              cases Ao with
              | none => cases e
              | some ad => cases e; exact (hown.blk _ rfl).1)
            go_roundw
            case rel => exact ⟨k + 1, A3, _, c3, _, by omega, by omega, by go_num, rfl, hown3, hb3, Lib.hid HF2.out⟩
            case measure => simp [intOf]; omega
      · have hk2 : k = ps.length := by omega
        have hf := hfi.out
        rw [hk2, List.drop_length, cleanT] at hf
        have HF2 := Lib.hid hf
        clear hf
        go_wp2
        go_ret2
        rw [ht.out, ← HF2.out]
        exact ⟨_, _, _, _, rfl, hown, rfl, hbr⟩
end Go.Proofs.Ytcakdlfhmdkocaa
