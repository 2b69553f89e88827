import Derived.Test.YtjbnoamoadaknaaYSigBack13
/- subpkt.Emit. -/
section
namespace Go.Proofs.Ytjbnoamoadaknaa
open Go.RowKit

/-- The subpackets' bytes behind out, or none where a type is out of range. -/
def emitT : List SubV → List UInt8 → Option (List UInt8)
  | [], out => some out
  | s :: ss, out => if s.1 < 0 ∨ 127 < s.1 then none else emitT ss (out ++ subBytes s)
def endE (n : Nat) : Option (List UInt8) → List UInt8 × Int
  | none => ([], 1)
  | some out => if 40 < n ∨ 4000 < out.length then ([], 4) else (out, 0)
def emitF (ss : List SubV) : List UInt8 × Int := endE ss.length (emitT ss [])
theorem subBytes_len (s : SubV) : (subBytes s).length ≤ s.2.2.length + 6 := by
  have := slenE_len (s.2.2.length + 1)
  simp [subBytes]
  omega

set_option maxRecDepth 100000 in
set_option maxHeartbeats 3200000 in
theorem Emit_calls {A : Option Addr} {n c : Nat} {ss : List SubV} {w : World} (h : Ss w A n ss) (hn : n ≤ 500) (hl : ∀ s ∈ ss, s.2.2.length ≤ 100000) :
    Calls Try.prog 57 #[.slice A n c] w fun e w' => ∃ A' m' c' r, e = .returned (.tuple #[.slice A' m' c', .int .i64 r]) ∧ Own w' w.heap.size A' m' c' (emitF ss).1 ∧ r = (emitF ss).2 ∧ Below w.heap.size w w' := by
  obtain rfl := h.1
  have ht := Lib.hid (show emitF ss = endE ss.length (emitT ss []) from rfl)
  go_enter Try.func57, Try.ntmps57
  go_wp2_with fail
  go_loopw [4, 9] (fun o i wr => ∃ (k : Nat) (Ao : Option Addr) (mo co : Nat) (outl : List UInt8), k ≤ ss.length ∧ mo ≤ k * 100006 ∧ i = .int .i64 k ∧ o = .slice Ao mo co ∧ Own wr w.heap.size Ao mo co outl ∧ Below w.heap.size w wr ∧ Hid (emitT (ss.drop k) outl = emitT ss [])) (fun _ i _ => ss.length - (intOf i).toNat)
  case atStart => exact ⟨0, _, 0, 0, [], Nat.zero_le _, Nat.zero_le _, rfl, rfl, Own.nil_ _ _, Below.refl _ _, Lib.hid rfl⟩
  case round =>
    obtain ⟨k, Ao, mo, co, outl, hk, hmk, rfl, rfl, hown, hbr, hfi⟩ := hrel
    by_cases hlt : k < ss.length
    · obtain ⟨b, off, Ak, nk, ck, hA, hbl, hc0, hc1, hc2, hbs⟩ := h.2 k hlt
      subst hA
      have hdr : ss.drop k = ss[k] :: ss.drop (k + 1) := List.drop_eq_getElem_cons hlt
      have hlk := hl (ss[k]) (List.getElem_mem hlt)
      have hf := hfi.out
      rw [hdr, emitT] at hf
      generalize ss[k] = s at hc0 hc1 hc2 hbs hf hlk
      obtain ⟨ty, cr, body⟩ := s
      simp only at hc0 hc1 hc2 hbs hf hlk
      have q0 := (hbr.cell (p := ⟨b, off + k * 3, none⟩) hbl).trans hc0
      have q1 := (hbr.cell (p := ⟨b, off + k * 3 + 1, none⟩) hbl).trans hc1
      have q2 := (hbr.cell (p := ⟨b, off + k * 3 + 2, none⟩) hbl).trans hc2
      have hnk : nk ≤ 100000 := by have := hbs.2; omega
      have hba := (Below.refl wr.heap.size wr).alloc (Nat.le_refl _) (.cells #[.int .i64 ty, .bool cr, .slice Ak nk ck] 70)
      have hbD := below_then hbr hbr.size hba
      have hoD := hown.below hba
      clear hdr hc0 hc1 hc2
      by_cases hbad : ty < 0 ∨ 127 < ty
      · rw [if_pos hbad] at hf
        have HF := Lib.hid hf
        clear hf
        rcases hbad with hbad | hbad
        all_goals
          have hd : decide (ty < 0) = decide (ty < 0) := rfl
          go_wp2_with fail
          go_ret2
          rw [ht.out, ← HF.out, endE]
          exact ⟨_, _, _, _, rfl, Own.nil_ _ _, rfl, hbD⟩
      · rw [if_neg hbad] at hf
        have HF := Lib.hid hf
        obtain ⟨t, rfl⟩ := Int.eq_ofNat_of_zero_le (by omega : 0 ≤ ty)
        have ht7 : t ≤ 127 := by omega
        have HC := Lib.hid (put_calls hbD hbD.size hoD (by omega) ht7 (cr := cr) hbs hnk)
        have hbl2 := Lib.hid hbs.2
        clear hf hbad
        go_wp2_with (go_at_call 81; refine HC.out.mono ?_; rintro e w2 ⟨A2, m2, c2, rfl, ho2, hB2⟩)
        go_roundw
        case rel => exact ⟨k + 1, A2, m2, c2, _, by omega, by have h1 := ho2.2; have h2 := hown.2; have h3 := subBytes_len ((t : Int), cr, body); have h4 := hbl2.out; simp only [List.length_append] at h1; simp only at h3; omega, by go_num, rfl, ho2, hB2, Lib.hid HF.out⟩
        case measure => simp [intOf]; omega
    · have hk2 : k = ss.length := by omega
      have hf := hfi.out
      rw [hk2, List.drop_length, emitT] at hf
      have hol := hown.2
      have ht2 : emitF ss = if 40 < ss.length ∨ 4000 < mo then ([], 4) else (outl, 0) := by rw [ht.out, ← hf, endE, hol]
      have HT := Lib.hid ht2
      clear hf ht2 hol
      by_cases h40 : 40 < ss.length
      · go_wp2
        go_ret2
        rw [HT.out, if_pos (.inl h40)]
        exact ⟨_, _, _, _, rfl, Own.nil_ _ _, rfl, hbr⟩
      · by_cases h4 : 4000 < mo
        · have hd : decide ((4000 : Int) < (mo : Int)) = true := decide_eq_true (by omega)
          have HX := Lib.hid h4
          clear h4 hmk
          go_wp2
          go_ret2
          rw [HT.out, if_pos (.inr HX.out)]
          exact ⟨_, _, _, _, rfl, Own.nil_ _ _, rfl, hbr⟩
        · have hd : decide ((4000 : Int) < (mo : Int)) = false := decide_eq_false (by omega)
          have HX := Lib.hid (show ¬ (40 < ss.length ∨ 4000 < mo) by omega)
          clear h4 hmk
          go_wp2
          go_ret2
          rw [HT.out, if_neg HX.out]
          exact ⟨_, _, _, _, rfl, hown, rfl, hbr⟩
end Go.Proofs.Ytjbnoamoadaknaa
end

/- The document's Emit of subpackets. -/
section
namespace Go.Proofs.Ytjbnoamoadaknaa
open Go.RowKit

set_option maxRecDepth 100000 in
set_option maxHeartbeats 3200000 in
theorem rEmit_calls {A : Option Addr} {n c : Nat} {ss : List SubV} {w : World} (h : Ss w A n ss) (hn : n ≤ 500) (hl : ∀ s ∈ ss, s.2.2.length ≤ 100000) :
    Calls Try.prog 42 #[.slice A n c] w fun e w' => ∃ A' m' c' r, e = .returned (.tuple #[.slice A' m' c', .int .i64 r]) ∧ Own w' w.heap.size A' m' c' (emitF ss).1 ∧ r = (emitF ss).2 ∧ Below w.heap.size w w' := by
  obtain rfl := h.1
  have ht := Lib.hid (show emitF ss = endE ss.length (emitT ss []) from rfl)
  go_enter Try.func42, Try.ntmps42
  go_wp2_with fail
  go_loopw [4, 5] (fun o i wr => ∃ (k : Nat) (Ao : Option Addr) (mo co : Nat) (outl : List UInt8), k ≤ ss.length ∧ mo ≤ k * 100006 ∧ i = .int .i64 k ∧ o = .slice Ao mo co ∧ Own wr w.heap.size Ao mo co outl ∧ Below w.heap.size w wr ∧ Hid (emitT (ss.drop k) outl = emitT ss [])) (fun _ i _ => ss.length - (intOf i).toNat)
  case atStart => exact ⟨0, _, 0, _, [], Nat.zero_le _, Nat.zero_le _, rfl, rfl, own_lit w #[] [] rfl 0 rfl (by omega), (Below.refl _ _).alloc (Nat.le_refl _) _, Lib.hid rfl⟩
  case round =>
    obtain ⟨k, Ao, mo, co, outl, hk, hmk, rfl, rfl, hown, hbr, hfi⟩ := hrel
    by_cases hlt : k < ss.length
    · obtain ⟨b, off, Ak, nk, ck, hA, hbl, hc0, hc1, hc2, hbs⟩ := h.2 k hlt
      subst hA
      have hdr : ss.drop k = ss[k] :: ss.drop (k + 1) := List.drop_eq_getElem_cons hlt
      have hlk := hl (ss[k]) (List.getElem_mem hlt)
      have hf := hfi.out
      rw [hdr, emitT] at hf
      generalize ss[k] = s at hc0 hc1 hc2 hbs hf hlk
      obtain ⟨ty, cr, body⟩ := s
      simp only at hc0 hc1 hc2 hbs hf hlk
      have HC0 := Lib.hid hc0
      have HC1 := Lib.hid hc1
      have HC2 := Lib.hid hc2
      have q0 := (hbr.cell (p := ⟨b, off + k * 3, none⟩) hbl).trans hc0
      have q1 := (hbr.cell (p := ⟨b, off + k * 3 + 1, none⟩) hbl).trans hc1
      have q2 := (hbr.cell (p := ⟨b, off + k * 3 + 2, none⟩) hbl).trans hc2
      have hnk : nk ≤ 100000 := by have := hbs.2; omega
      clear hdr hc0 hc1 hc2
      by_cases hbad : ty < 0 ∨ 127 < ty
      · rw [if_pos hbad] at hf
        have HF := Lib.hid hf
        clear hf
        rcases hbad with hbad | hbad
        all_goals
          have hd : decide (ty < 0) = decide (ty < 0) := rfl
          go_wp2
          go_ret2
          rw [ht.out, ← HF.out, endE]
          exact ⟨_, _, _, _, rfl, Own.nil_ _ _, rfl, hbr⟩
      · rw [if_neg hbad] at hf
        have HF := Lib.hid hf
        obtain ⟨t, rfl⟩ := Int.eq_ofNat_of_zero_le (by omega : 0 ≤ ty)
        have ht7 : t ≤ 127 := by omega
        have HBL := Lib.hid hbs.2
        have hnk2 := Lib.hid hnk
        obtain ⟨m, hm⟩ : ∃ m, m = nk + 1 := ⟨_, rfl⟩
        have hm1 : (nk : Int) + 1 = (m : Int) := by omega
        have HM2 := Lib.hid (show m ≤ 100001 by omega)
        have HM := Lib.hid hm
        have hmo1 : mo ≤ 50003000 := by omega
        clear hf hbad hm
        by_cases h192 : m < 192
        · have HE := Lib.hid (show slenE m = [UInt8.ofNat m] by rw [slenE, if_pos h192])
          cases cr with
          | false =>
            go_wp2_with (first
              | (at_builtin; refine app8_one (.tmp 51) (.tmp 54) rfl rfl rfl hown [UInt8.ofNat m] _ (bvs1 _ m (by omega)) 1 rfl rfl (by omega) hbr.size ?_; intro A2 c2' w2 ho2 hg2 hat2; go_must (have hB2 : Below w.heap.size w w2 := hown.grew hbr hbr.size hg2; have q0 := (hB2.cell (p := ⟨b, off + k * 3, none⟩) hbl).trans HC0.out; have q1 := (hB2.cell (p := ⟨b, off + k * 3 + 1, none⟩) hbl).trans HC1.out; have q2 := (hB2.cell (p := ⟨b, off + k * 3 + 2, none⟩) hbl).trans HC2.out))
              | (at_builtin; refine app8_one (.tmp 83) (.tmp 85) rfl rfl rfl ho2 [UInt8.ofNat (t)] _ (bvs1 _ (t) (by omega)) 1 rfl rfl (by omega) hB2.size ?_; intro A3 c3' w3 ho3 hg3 hat3; go_must (have hB3 : Below w.heap.size w w3 := ho2.grew hB2 hB2.size hg3; have q0 := (hB3.cell (p := ⟨b, off + k * 3, none⟩) hbl).trans HC0.out; have q1 := (hB3.cell (p := ⟨b, off + k * 3 + 1, none⟩) hbl).trans HC1.out; have q2 := (hB3.cell (p := ⟨b, off + k * 3 + 2, none⟩) hbl).trans HC2.out; have hbs3 := hbs.below hB3))
              | (at_builtin; refine app8 (.tmp 87) (.tmp 92) rfl rfl rfl ho3 rfl hbs3 (by omega) hB3.size ?_; intro A4 c4' w4 ho4 hg4 hat4; go_must (have hB4 : Below w.heap.size w w4 := ho3.grew hB3 hB3.size hg4)))
            have hfin := Lib.hid (show emitT (ss.drop (k + 1)) (outl ++ slenE m ++ [UInt8.ofNat (t)] ++ body) = emitT ss [] by rw [← HF.out, subBytes]; simp [tyB, HM.out, HBL.out])
            rw [HE.out] at hfin
            go_roundw
            case rel => exact ⟨k + 1, A4, _, c4', _, by omega, by omega, by go_num, rfl, ho4, hB4, by first | exact hfin | (simpa using hfin)⟩
            case measure => simp [intOf]; omega
          | true =>
            go_wp2_with (first
              | (at_builtin; refine app8_one (.tmp 51) (.tmp 54) rfl rfl rfl hown [UInt8.ofNat m] _ (bvs1 _ m (by omega)) 1 rfl rfl (by omega) hbr.size ?_; intro A2 c2' w2 ho2 hg2 hat2; go_must (have hB2 : Below w.heap.size w w2 := hown.grew hbr hbr.size hg2; have q0 := (hB2.cell (p := ⟨b, off + k * 3, none⟩) hbl).trans HC0.out; have q1 := (hB2.cell (p := ⟨b, off + k * 3 + 1, none⟩) hbl).trans HC1.out; have q2 := (hB2.cell (p := ⟨b, off + k * 3 + 2, none⟩) hbl).trans HC2.out))
              | (at_builtin; refine app8_one (.tmp 83) (.tmp 85) rfl rfl rfl ho2 [UInt8.ofNat (t + 128)] _ (bvs1 _ (t + 128) (by omega)) 1 rfl rfl (by omega) hB2.size ?_; intro A3 c3' w3 ho3 hg3 hat3; go_must (have hB3 : Below w.heap.size w w3 := ho2.grew hB2 hB2.size hg3; have q0 := (hB3.cell (p := ⟨b, off + k * 3, none⟩) hbl).trans HC0.out; have q1 := (hB3.cell (p := ⟨b, off + k * 3 + 1, none⟩) hbl).trans HC1.out; have q2 := (hB3.cell (p := ⟨b, off + k * 3 + 2, none⟩) hbl).trans HC2.out; have hbs3 := hbs.below hB3))
              | (at_builtin; refine app8 (.tmp 87) (.tmp 92) rfl rfl rfl ho3 rfl hbs3 (by omega) hB3.size ?_; intro A4 c4' w4 ho4 hg4 hat4; go_must (have hB4 : Below w.heap.size w w4 := ho3.grew hB3 hB3.size hg4)))
            have hfin := Lib.hid (show emitT (ss.drop (k + 1)) (outl ++ slenE m ++ [UInt8.ofNat (t + 128)] ++ body) = emitT ss [] by rw [← HF.out, subBytes]; simp [tyB, HM.out, HBL.out])
            rw [HE.out] at hfin
            go_roundw
            case rel => exact ⟨k + 1, A4, _, c4', _, by omega, by omega, by go_num, rfl, ho4, hB4, by first | exact hfin | (simpa using hfin)⟩
            case measure => simp [intOf]; omega
        · by_cases h163 : m < 16320
          · obtain ⟨x, hx⟩ : ∃ x, x = m - 192 := ⟨_, rfl⟩
            obtain ⟨j, hj⟩ : ∃ j, j = x / 256 := ⟨_, rfl⟩
            have HE := Lib.hid (show slenE m = [UInt8.ofNat (j + 192), UInt8.ofNat x] by rw [slenE, if_neg h192, if_pos h163, hj, hx])
            have hd : decide ((m : Int) < 16320) = true := decide_eq_true (by omega)
            have hx1 : (m : Int) - 192 = (x : Int) := by omega
            have hj1 : Int.tdiv (x : Int) 256 = (j : Int) := by rw [hj, Int.tdiv_eq_ediv_of_nonneg (by omega)]; omega
            have hj2 : (x : Int) / 256 = (j : Int) := by omega
            have hj3 : j ≤ 62 := by omega
            clear hx hj h163
            cases cr with
            | false =>
              go_wp2_with (first
                | (at_builtin; refine app8_one (.tmp 59) (.tmp 68) rfl rfl rfl hown [UInt8.ofNat (j + 192), UInt8.ofNat x] _ (bvs2 _ _ (j + 192) x (by go_num) (by go_num)) 2 rfl rfl (by omega) hbr.size ?_; intro A2 c2' w2 ho2 hg2 hat2; go_must (have hB2 : Below w.heap.size w w2 := hown.grew hbr hbr.size hg2; have q0 := (hB2.cell (p := ⟨b, off + k * 3, none⟩) hbl).trans HC0.out; have q1 := (hB2.cell (p := ⟨b, off + k * 3 + 1, none⟩) hbl).trans HC1.out; have q2 := (hB2.cell (p := ⟨b, off + k * 3 + 2, none⟩) hbl).trans HC2.out))
                | (at_builtin; refine app8_one (.tmp 83) (.tmp 85) rfl rfl rfl ho2 [UInt8.ofNat (t)] _ (bvs1 _ (t) (by omega)) 1 rfl rfl (by omega) hB2.size ?_; intro A3 c3' w3 ho3 hg3 hat3; go_must (have hB3 : Below w.heap.size w w3 := ho2.grew hB2 hB2.size hg3; have q0 := (hB3.cell (p := ⟨b, off + k * 3, none⟩) hbl).trans HC0.out; have q1 := (hB3.cell (p := ⟨b, off + k * 3 + 1, none⟩) hbl).trans HC1.out; have q2 := (hB3.cell (p := ⟨b, off + k * 3 + 2, none⟩) hbl).trans HC2.out; have hbs3 := hbs.below hB3))
                | (at_builtin; refine app8 (.tmp 87) (.tmp 92) rfl rfl rfl ho3 rfl hbs3 (by omega) hB3.size ?_; intro A4 c4' w4 ho4 hg4 hat4; go_must (have hB4 : Below w.heap.size w w4 := ho3.grew hB3 hB3.size hg4)))
              have hfin := Lib.hid (show emitT (ss.drop (k + 1)) (outl ++ slenE m ++ [UInt8.ofNat (t)] ++ body) = emitT ss [] by rw [← HF.out, subBytes]; simp [tyB, HM.out, HBL.out])
              rw [HE.out] at hfin
              go_roundw
              case rel => exact ⟨k + 1, A4, _, c4', _, by omega, by omega, by go_num, rfl, ho4, hB4, by first | exact hfin | (simpa using hfin)⟩
              case measure => simp [intOf]; omega
            | true =>
              go_wp2_with (first
                | (at_builtin; refine app8_one (.tmp 59) (.tmp 68) rfl rfl rfl hown [UInt8.ofNat (j + 192), UInt8.ofNat x] _ (bvs2 _ _ (j + 192) x (by go_num) (by go_num)) 2 rfl rfl (by omega) hbr.size ?_; intro A2 c2' w2 ho2 hg2 hat2; go_must (have hB2 : Below w.heap.size w w2 := hown.grew hbr hbr.size hg2; have q0 := (hB2.cell (p := ⟨b, off + k * 3, none⟩) hbl).trans HC0.out; have q1 := (hB2.cell (p := ⟨b, off + k * 3 + 1, none⟩) hbl).trans HC1.out; have q2 := (hB2.cell (p := ⟨b, off + k * 3 + 2, none⟩) hbl).trans HC2.out))
                | (at_builtin; refine app8_one (.tmp 83) (.tmp 85) rfl rfl rfl ho2 [UInt8.ofNat (t + 128)] _ (bvs1 _ (t + 128) (by omega)) 1 rfl rfl (by omega) hB2.size ?_; intro A3 c3' w3 ho3 hg3 hat3; go_must (have hB3 : Below w.heap.size w w3 := ho2.grew hB2 hB2.size hg3; have q0 := (hB3.cell (p := ⟨b, off + k * 3, none⟩) hbl).trans HC0.out; have q1 := (hB3.cell (p := ⟨b, off + k * 3 + 1, none⟩) hbl).trans HC1.out; have q2 := (hB3.cell (p := ⟨b, off + k * 3 + 2, none⟩) hbl).trans HC2.out; have hbs3 := hbs.below hB3))
                | (at_builtin; refine app8 (.tmp 87) (.tmp 92) rfl rfl rfl ho3 rfl hbs3 (by omega) hB3.size ?_; intro A4 c4' w4 ho4 hg4 hat4; go_must (have hB4 : Below w.heap.size w w4 := ho3.grew hB3 hB3.size hg4)))
              have hfin := Lib.hid (show emitT (ss.drop (k + 1)) (outl ++ slenE m ++ [UInt8.ofNat (t + 128)] ++ body) = emitT ss [] by rw [← HF.out, subBytes]; simp [tyB, HM.out, HBL.out])
              rw [HE.out] at hfin
              go_roundw
              case rel => exact ⟨k + 1, A4, _, c4', _, by omega, by omega, by go_num, rfl, ho4, hB4, by first | exact hfin | (simpa using hfin)⟩
              case measure => simp [intOf]; omega
          · have HE := Lib.hid (show slenE m = 255 :: be 4 m by rw [slenE, if_neg h192, if_neg h163])
            have hd : decide ((m : Int) < 16320) = false := decide_eq_false (by omega)
            have HP := Lib.hid (show putS [255] m 4 = ([255] ++ be 4 m, 0) by rw [putS, if_pos (by have := HM2.out; rw [show 256 ^ Int.toNat 4 = 4294967296 by decide]; omega)]; rfl)
            have hlit := own_lit wr #[.int .u8 255] [255] rfl 1 rfl (by omega)
            have hbL := (Below.refl wr.heap.size wr).alloc (Nat.le_refl _) (.cells #[.int .u8 255] 5)
            clear h163
            cases cr with
            | false =>
              go_wp2_with (first
                | (go_at_call 67; refine (rPut_any hlit.bs (by omega) m (by have := HM2.out; omega) 4).mono ?_; rw [HP.out]; rintro e w1 ⟨A1, n1, c1', r1, rfl, ho1, hr1, hb1⟩; obtain rfl : r1 = 0 := hr1; go_must (obtain rfl : n1 = 5 := (by have h1 := ho1.2; simpa [be_length] using h1.symm); have hown1 := (hown.below hbL).below hb1; have hB1 := below_then (below_then hbr hbr.size hbL) (Nat.le_trans hbr.size hbL.size) hb1))
                | (at_builtin; refine app8 (.tmp 45) (.tmp 46) rfl rfl rfl hown1 rfl ho1.bs (by omega) hB1.size ?_; intro A2 c2' w2 ho2 hg2 hat2; go_must (have hB2 : Below w.heap.size w w2 := hown1.grew hB1 hB1.size hg2; have q0 := (hB2.cell (p := ⟨b, off + k * 3, none⟩) hbl).trans HC0.out; have q1 := (hB2.cell (p := ⟨b, off + k * 3 + 1, none⟩) hbl).trans HC1.out; have q2 := (hB2.cell (p := ⟨b, off + k * 3 + 2, none⟩) hbl).trans HC2.out))
                | (at_builtin; refine app8_one (.tmp 83) (.tmp 85) rfl rfl rfl ho2 [UInt8.ofNat (t)] _ (bvs1 _ (t) (by omega)) 1 rfl rfl (by omega) hB2.size ?_; intro A3 c3' w3 ho3 hg3 hat3; go_must (have hB3 : Below w.heap.size w w3 := ho2.grew hB2 hB2.size hg3; have q0 := (hB3.cell (p := ⟨b, off + k * 3, none⟩) hbl).trans HC0.out; have q1 := (hB3.cell (p := ⟨b, off + k * 3 + 1, none⟩) hbl).trans HC1.out; have q2 := (hB3.cell (p := ⟨b, off + k * 3 + 2, none⟩) hbl).trans HC2.out; have hbs3 := hbs.below hB3))
                | (at_builtin; refine app8 (.tmp 87) (.tmp 92) rfl rfl rfl ho3 rfl hbs3 (by omega) hB3.size ?_; intro A4 c4' w4 ho4 hg4 hat4; go_must (have hB4 : Below w.heap.size w w4 := ho3.grew hB3 hB3.size hg4)))
              have hfin := Lib.hid (show emitT (ss.drop (k + 1)) (outl ++ slenE m ++ [UInt8.ofNat (t)] ++ body) = emitT ss [] by rw [← HF.out, subBytes]; simp [tyB, HM.out, HBL.out])
              rw [HE.out] at hfin
              go_roundw
              case rel => exact ⟨k + 1, A4, _, c4', _, by omega, by omega, by go_num, rfl, ho4, hB4, by first | exact hfin | (simpa using hfin)⟩
              case measure => simp [intOf]; omega
            | true =>
              go_wp2_with (first
                | (go_at_call 67; refine (rPut_any hlit.bs (by omega) m (by have := HM2.out; omega) 4).mono ?_; rw [HP.out]; rintro e w1 ⟨A1, n1, c1', r1, rfl, ho1, hr1, hb1⟩; obtain rfl : r1 = 0 := hr1; go_must (obtain rfl : n1 = 5 := (by have h1 := ho1.2; simpa [be_length] using h1.symm); have hown1 := (hown.below hbL).below hb1; have hB1 := below_then (below_then hbr hbr.size hbL) (Nat.le_trans hbr.size hbL.size) hb1))
                | (at_builtin; refine app8 (.tmp 45) (.tmp 46) rfl rfl rfl hown1 rfl ho1.bs (by omega) hB1.size ?_; intro A2 c2' w2 ho2 hg2 hat2; go_must (have hB2 : Below w.heap.size w w2 := hown1.grew hB1 hB1.size hg2; have q0 := (hB2.cell (p := ⟨b, off + k * 3, none⟩) hbl).trans HC0.out; have q1 := (hB2.cell (p := ⟨b, off + k * 3 + 1, none⟩) hbl).trans HC1.out; have q2 := (hB2.cell (p := ⟨b, off + k * 3 + 2, none⟩) hbl).trans HC2.out))
                | (at_builtin; refine app8_one (.tmp 83) (.tmp 85) rfl rfl rfl ho2 [UInt8.ofNat (t + 128)] _ (bvs1 _ (t + 128) (by omega)) 1 rfl rfl (by omega) hB2.size ?_; intro A3 c3' w3 ho3 hg3 hat3; go_must (have hB3 : Below w.heap.size w w3 := ho2.grew hB2 hB2.size hg3; have q0 := (hB3.cell (p := ⟨b, off + k * 3, none⟩) hbl).trans HC0.out; have q1 := (hB3.cell (p := ⟨b, off + k * 3 + 1, none⟩) hbl).trans HC1.out; have q2 := (hB3.cell (p := ⟨b, off + k * 3 + 2, none⟩) hbl).trans HC2.out; have hbs3 := hbs.below hB3))
                | (at_builtin; refine app8 (.tmp 87) (.tmp 92) rfl rfl rfl ho3 rfl hbs3 (by omega) hB3.size ?_; intro A4 c4' w4 ho4 hg4 hat4; go_must (have hB4 : Below w.heap.size w w4 := ho3.grew hB3 hB3.size hg4)))
              have hfin := Lib.hid (show emitT (ss.drop (k + 1)) (outl ++ slenE m ++ [UInt8.ofNat (t + 128)] ++ body) = emitT ss [] by rw [← HF.out, subBytes]; simp [tyB, HM.out, HBL.out])
              rw [HE.out] at hfin
              go_roundw
              case rel => exact ⟨k + 1, A4, _, c4', _, by omega, by omega, by go_num, rfl, ho4, hB4, by first | exact hfin | (simpa using hfin)⟩
              case measure => simp [intOf]; omega
    · have hk2 : k = ss.length := by omega
      have hf := hfi.out
      rw [hk2, List.drop_length, emitT] at hf
      have hol := hown.2
      have ht2 : emitF ss = if 40 < ss.length ∨ 4000 < mo then ([], 4) else (outl, 0) := by rw [ht.out, ← hf, endE, hol]
      have HT := Lib.hid ht2
      clear hf ht2 hol
      by_cases h40 : 40 < ss.length
      · go_wp2
        go_ret2
        rw [HT.out, if_pos (.inl h40)]
        exact ⟨_, _, _, _, rfl, Own.nil_ _ _, rfl, hbr⟩
      · by_cases h4 : 4000 < mo
        · have hd : decide ((4000 : Int) < (mo : Int)) = true := decide_eq_true (by omega)
          have HX := Lib.hid h4
          clear h4 hmk
          go_wp2
          go_ret2
          rw [HT.out, if_pos (.inr HX.out)]
          exact ⟨_, _, _, _, rfl, Own.nil_ _ _, rfl, hbr⟩
        · have hd : decide ((4000 : Int) < (mo : Int)) = false := decide_eq_false (by omega)
          have HX := Lib.hid (show ¬ (40 < ss.length ∨ 4000 < mo) by omega)
          clear h4 hmk
          go_wp2
          go_ret2
          rw [HT.out, if_neg HX.out]
          exact ⟨_, _, _, _, rfl, hown, rfl, hbr⟩
end Go.Proofs.Ytjbnoamoadaknaa
end
