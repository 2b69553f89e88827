/- The statements of layer 19: PacketForms. -/
import Derived.Test.YtcakdlfhmdkocaaLw19b
import Derived.Test.YtcakdlfhmdkocaaPh
namespace Go.Proofs.Ytcakdlfhmdkocaa
open Go.RowKit

theorem headedS_len {tag : Int} {body : List UInt8} (q : Int) (h : (headS tag body.length).2 = 0) : (headedS tag body q).length ≤ body.length + 10 := by
  obtain ⟨_, t, rfl, ht, hn, e⟩ := headS_tag h
  unfold headedS
  split
  · rename_i hp
    by_cases hm : mayPart (t : Int) = true
    · have h1 := parts_one hm hn
      by_cases h512 : body.length < 512
      · rw [h1, if_pos h512] at hp
        exact absurd hp.2 (by decide)
      · rw [h1, if_neg h512]
        have := lenS_length (body.drop 512).length
        simp only [List.length_cons, List.length_append, List.length_take, List.length_drop] at this ⊢
        omega
    · exact absurd hp.2 (partsF_no (by simpa using hm))
  · have := headF_len (tag := (t : Int)) q hn
    rw [List.length_append]
    omega

set_option maxRecDepth 100000 in
set_option maxHeartbeats 6400000 in
theorem PacketForms_walk {A D : Option Addr} {n c m d : Nat} {ps : List (Int × List UInt8)} {zs : List Int} {w : World} (h : Ps w A n ps) (hn : n ≤ 9223372036854775807) (hz : Is w D m d zs) :
    Calls Try.prog 13 #[.slice A n c, .slice D m d] w fun e w' => e = .returned (.bool true) ∧ Below w.heap.size w w' := by
  have hm63 := hz.max
  obtain rfl := h.1
  obtain rfl := hz.2
  go_enter Try.func13, Try.ntmps13
  go_wp2_with fail
  refine (small_calls h hn).mono ?_
  rintro e w1 ⟨⟨r, rfl, hs⟩, rfl⟩
  have HS := Lib.hid hs
  clear hs
  cases r with
  | false =>
    go_wp2_with (go_at_call 36; refine (alive19_calls _).mono ?_; rintro e w1 ⟨rfl, hb1⟩)
    go_ret
    exact ⟨rfl, hb1⟩
  | true =>
    obtain ⟨h110, h2000⟩ := HS.out rfl
    have H2 := Lib.hid h2000
    clear h2000
    go_wp2_with fail
    refine (Join_calls h hn (fun p hp => by have := H2.out p hp; omega)).mono ?_
    rintro e w1 ⟨A1, m1, c1, r1, rfl, ho1, hr1, hb1⟩
    by_cases h0 : r1 = 0
    · subst h0
      have HJ := Lib.hid (split_join hr1.symm)
      obtain ⟨_, _, hp100, hall⟩ := joinF_ok hr1.symm
      have HA := Lib.hid hall
      have hjd := ho1.bs
      have hem := empty8 w1
      have hbe := (Below.refl w1.heap.size w1).alloc (Nat.le_refl _) (.cells #[] 5)
      clear hr1 hall ho1
      generalize (joinF ps).1 = joined at HJ hjd
      go_wp2_with fail
      generalize w1.alloc (.cells #[] 5) = w2 at hem hbe ⊢
      generalize some { block := w1.heap.size, off := 0 : Addr } = A0 at hem ⊢
      go_loopw [7, 8] (fun o i wr => ∃ (k : Nat) (Ao : Option Addr) (mo co : Nat) (outl : List UInt8), k ≤ ps.length ∧ i = .int .i64 k ∧ o = .slice Ao mo co ∧ Own wr w1.heap.size Ao mo co outl ∧ Below w1.heap.size w1 wr ∧ mo ≤ k * 2100 ∧ Hid (Encs (ps.take k) outl)) (fun _ i _ => ps.length - (intOf i).toNat)
      case atStart => exact ⟨0, _, 0, 0, [], Nat.zero_le _, rfl, rfl, hem, hbe, by omega, Lib.hid rfl⟩
      case round =>
        obtain ⟨k, Ao, mo, co, outl, hk, rfl, rfl, hown, hbr, hmo, hen⟩ := hrel
        clear hem hbe
        have hmo2 := hown.2
        by_cases hlt : k < ps.length
        · obtain ⟨b, off, Ak, nk, ck, hA, hbl, hc0, hc1, hbs⟩ := h.2 k hlt
          subst hA
          have htk := Lib.hid (take_snoc ps k hlt)
          have hlk := H2.out (ps[k]) (List.getElem_mem hlt)
          have hhk := HA.out (ps[k]) (List.getElem_mem hlt)
          generalize ps[k] = p at hc0 hc1 hbs hlk hhk htk
          obtain ⟨tag, body⟩ := p
          simp only at hc0 hc1 hbs hlk hhk
          obtain rfl := hbs.2
          have hB := below_then hb1 hb1.size hbr
          have CELL := Lib.hid (fun (W : World) (hW : Below w.heap.size w W) => (And.intro ((hW.cell (p := ⟨b, off + k * 2, none⟩) hbl).trans hc0) ((hW.cell (p := ⟨b, off + k * 2 + 1, none⟩) hbl).trans hc1) : W.cell? ⟨b, off + k * 2, none⟩ = some (.int .i64 tag) ∧ W.cell? ⟨b, off + k * 2 + 1, none⟩ = some (.slice Ak body.length ck)))
          have hi0 : (0 : Int) ≤ (k : Int) := by omega
          have hi1 : (k : Int) < (ps.length : Int) := by omega
          have hhl := fun q => headedS_len q hhk
          have hec := fun q => enc_headed q hhk
          have HC := Lib.hid hec
          have HL := Lib.hid hhl
          have HHK := Lib.hid hhk
          clear hc0 hc1 hec hhl hhk
          by_cases hz1 : k < zs.length
          · obtain ⟨b2, off2, rfl, hbl2, hz2⟩ := hz.at_ hz1
            have qz : wr.cell? ⟨b2, off2 + k, none⟩ = some (.int .i64 zs[k]) := (hB.cell (p := ⟨b2, off2 + k, none⟩) hbl2).trans hz2
            clear hz2
            obtain ⟨q0, q1⟩ := CELL.out wr hB
            go_wp2_with (first
              | (go_at_call 43; refine (headed_calls tag zs[k] (hbs.below hB) (by omega) HHK.out).mono ?_; rintro e w3 ⟨A3, m3, c3, rfl, ho3, hb3⟩; go_must (have hB3 := below_then hbr hbr.size hb3; have hown3 := hown.below hb3; have hl3 := HL.out (form3 zs[k]); have hm3 := ho3.2))
              | (at_builtin; refine app8 (.tmp 41) (.tmp 47) rfl rfl rfl hown3 rfl ho3.bs (by omega) hB3.size ?_; intro A4 c4 w4 hown4 hg4 hat4; go_must (have hb4 := hown3.grew hB3 hB3.size hg4)))
            go_roundw
            case rel => exact ⟨k + 1, A4, _, c4, _, by omega, by go_num, rfl, hown4, hb4, by omega, Lib.hid (by rw [htk.out]; exact hen.out.snoc (HC.out _))⟩
            case measure => simp [intOf]; omega
          · have hz2 : ¬ ((k : Int) < (zs.length : Int)) := by omega
            obtain ⟨q0, q1⟩ := CELL.out wr hB
            go_wp2_with (first
              | (go_at_call 43; refine (headed_calls tag 0 (hbs.below hB) (by omega) HHK.out).mono ?_; rintro e w3 ⟨A3, m3, c3, rfl, ho3, hb3⟩; go_must (have hB3 := below_then hbr hbr.size hb3; have hown3 := hown.below hb3; have hl3 := HL.out (form3 0); have hm3 := ho3.2))
              | (at_builtin; refine app8 (.tmp 41) (.tmp 47) rfl rfl rfl hown3 rfl ho3.bs (by omega) hB3.size ?_; intro A4 c4 w4 hown4 hg4 hat4; go_must (have hb4 := hown3.grew hB3 hB3.size hg4)))
            go_roundw
            case rel => exact ⟨k + 1, A4, _, c4, _, by omega, by go_num, rfl, hown4, hb4, by omega, Lib.hid (by rw [htk.out]; exact hen.out.snoc (HC.out _))⟩
            case measure => simp [intOf]; omega
        · have hk2 : k = ps.length := by omega
          have he := hen.out
          rw [hk2, List.take_length] at he
          have hB := below_then hb1 hb1.size hbr
          by_cases h6 : 60000 < mo
          · go_wp2_with (go_at_call 36; refine (alive19_calls _).mono ?_; rintro e w3 ⟨rfl, hb3⟩)
            go_ret
            exact ⟨rfl, below_then hB hB.size hb3⟩
          · have HS2 := Lib.hid (splitF_encs he (by omega) hp100)
            clear he
            go_wp2_with fail
            refine (Split_calls hown.bs).mono ?_
            rintro e w3 ⟨A3, m3, c3, r3, rfl, ho3, hr3, hb3⟩
            rw [HS2.out] at ho3 hr3
            simp only at ho3 hr3
            subst hr3
            have hb3' := below_then hbr hbr.size hb3
            go_wp2_with fail
            refine (Split_calls (hjd.below hb3')).mono ?_
            rintro e w4 ⟨A4, m4, c4, r4, rfl, ho4, hr4, hb4⟩
            rw [HJ.out] at ho4 hr4
            simp only at ho4 hr4
            subst hr4
            have hb4' := below_then hb3' hb3'.size hb4
            go_wp2_with fail
            refine (alive19_calls _).mono ?_
            rintro e w5 ⟨rfl, hb5⟩
            have hB5 := below_then hb1 hb1.size (below_then hb4' hb4'.size hb5)
            have p3 := ((ho3.below hb4).below hb5).ps
            have p4 := (ho4.below hb5).ps
            have p0 := h.below hB5
            have hm3 : m3 ≤ 9223372036854775807 := by have := ho3.len; omega
            clear ho3 ho4
            go_wp2_with (first
              | (go_at_call 41; refine (Same_calls p3 p4 hm3).mono ?_; rintro e w6 ⟨rfl, hb6⟩; go_must (have hB6 := below_then hB5 hB5.size hb6; have p36 := p3.below hb6; have p06 := p0.below hb6; clear p3))
              | (go_at_call 41; refine (Same_calls p36 p06 hm3).mono ?_; rintro e w7 ⟨rfl, hb7⟩))
            go_ret
            exact ⟨rfl, below_then hB6 hB6.size hb7⟩
    · have hne : (r1 != 0) = true := by rw [bne_iff_ne]; exact h0
      clear hr1 ho1
      go_wp2_with (go_at_call 36; refine (alive19_calls _).mono ?_; rintro e w2 ⟨rfl, hb2⟩)
      go_ret
      exact ⟨by simp, below_then hb1 hb1.size hb2⟩
end Go.Proofs.Ytcakdlfhmdkocaa
