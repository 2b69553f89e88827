/- subpkt.Emit. -/
import Derived.Test.YtegbncngencfnaaSe
namespace Go.Proofs.Ytegbncngencfnaa
open Go.RowKit

/-- The subpackets' bytes behind out, or none where a type is out of range. -/
def emitT : List SubV → List UInt8 → Option (List UInt8)
  | [], out => some out
  | s :: ss, out => if s.1 < 0 ∨ 127 < s.1 then none else emitT ss (out ++ subBytes s)
def endE (n : Nat) : Option (List UInt8) → List UInt8 × Int
  | none => ([], 1)
  | some out => if 40 < n ∨ 4000 < out.length then ([], 4) else (out, 0)
def emitF (ss : List SubV) : List UInt8 × Int := endE ss.length (emitT ss [])
theorem subBytes_len (s : SubV) : (subBytes s).length ≤ s.2.2.length + 6 := by
  have := slenE_len (s.2.2.length + 1)
  simp [subBytes]
  omega

set_option maxRecDepth 100000 in
set_option maxHeartbeats 3200000 in
theorem Emit_calls {A : Option Addr} {n c : Nat} {ss : List SubV} {w : World} (h : Ss w A n ss) (hn : n ≤ 500) (hl : ∀ s ∈ ss, s.2.2.length ≤ 100000) :
    Calls Try.prog 17 #[.slice A n c] w fun e w' => ∃ A' m' c' r, e = .returned (.tuple #[.slice A' m' c', .int .i64 r]) ∧ Own w' w.heap.size A' m' c' (emitF ss).1 ∧ r = (emitF ss).2 ∧ Below w.heap.size w w' := by
  obtain rfl := h.1
  have ht := Lib.hid (show emitF ss = endE ss.length (emitT ss []) from rfl)
  go_enter Try.func17, Try.ntmps17
  go_wp2_with fail
  go_loopw [4, 9] (fun o i wr => ∃ (k : Nat) (Ao : Option Addr) (mo co : Nat) (outl : List UInt8), k ≤ ss.length ∧ mo ≤ k * 100006 ∧ i = .int .i64 k ∧ o = .slice Ao mo co ∧ Own wr w.heap.size Ao mo co outl ∧ Below w.heap.size w wr ∧ Hid (emitT (ss.drop k) outl = emitT ss [])) (fun _ i _ => ss.length - (intOf i).toNat)
  case atStart => exact ⟨0, _, 0, 0, [], Nat.zero_le _, Nat.zero_le _, rfl, rfl, Own.nil_ _ _, Below.refl _ _, Lib.hid rfl⟩
  case round =>
    obtain ⟨k, Ao, mo, co, outl, hk, hmk, rfl, rfl, hown, hbr, hfi⟩ := hrel
    by_cases hlt : k < ss.length
    · obtain ⟨b, off, Ak, nk, ck, hA, hbl, hc0, hc1, hc2, hbs⟩ := h.2 k hlt
      subst hA
      have hdr : ss.drop k = ss[k] :: ss.drop (k + 1) := List.drop_eq_getElem_cons hlt
      have hlk := hl (ss[k]) (List.getElem_mem hlt)
      have hf := hfi.out
      rw [hdr, emitT] at hf
      generalize ss[k] = s at hc0 hc1 hc2 hbs hf hlk
      obtain ⟨ty, cr, body⟩ := s
      simp only at hc0 hc1 hc2 hbs hf hlk
      have q0 := (hbr.cell (p := ⟨b, off + k * 3, none⟩) hbl).trans hc0
      have q1 := (hbr.cell (p := ⟨b, off + k * 3 + 1, none⟩) hbl).trans hc1
      have q2 := (hbr.cell (p := ⟨b, off + k * 3 + 2, none⟩) hbl).trans hc2
      have hnk : nk ≤ 100000 := by have := hbs.2; omega
      have hba := (Below.refl wr.heap.size wr).alloc (Nat.le_refl _) (.cells #[.int .i64 ty, .bool cr, .slice Ak nk ck] 78)
      have hbD := below_then hbr hbr.size hba
      have hoD := hown.below hba
      clear hdr hc0 hc1 hc2
      by_cases hbad : ty < 0 ∨ 127 < ty
      · rw [if_pos hbad] at hf
        have HF := Lib.hid hf
        clear hf
        rcases hbad with hbad | hbad
        all_goals
          have hd : decide (ty < 0) = decide (ty < 0) := rfl
          go_wp2_with fail
          go_ret2
          rw [ht.out, ← HF.out, endE]
          exact ⟨_, _, _, _, rfl, Own.nil_ _ _, rfl, hbD⟩
      · rw [if_neg hbad] at hf
        have HF := Lib.hid hf
        obtain ⟨t, rfl⟩ := Int.eq_ofNat_of_zero_le (by omega : 0 ≤ ty)
        have ht7 : t ≤ 127 := by omega
        have HC := Lib.hid (put_calls hbD hbD.size hoD (by omega) ht7 (cr := cr) hbs hnk)
        have hbl2 := Lib.hid hbs.2
        clear hf hbad
        go_wp2_with (go_at_call 55; refine HC.out.mono ?_; rintro e w2 ⟨A2, m2, c2, rfl, ho2, hB2⟩)
        go_roundw
        case rel => exact ⟨k + 1, A2, m2, c2, _, by omega, by have h1 := ho2.2; have h2 := hown.2; have h3 := subBytes_len ((t : Int), cr, body); have h4 := hbl2.out; simp only [List.length_append] at h1; simp only at h3; omega, by go_num, rfl, ho2, hB2, Lib.hid HF.out⟩
        case measure => simp [intOf]; omega
    · have hk2 : k = ss.length := by omega
      have hf := hfi.out
      rw [hk2, List.drop_length, emitT] at hf
      have hol := hown.2
      have ht2 : emitF ss = if 40 < ss.length ∨ 4000 < mo then ([], 4) else (outl, 0) := by rw [ht.out, ← hf, endE, hol]
      have HT := Lib.hid ht2
      clear hf ht2 hol
      by_cases h40 : 40 < ss.length
      · go_wp2
        go_ret2
        rw [HT.out, if_pos (.inl h40)]
        exact ⟨_, _, _, _, rfl, Own.nil_ _ _, rfl, hbr⟩
      · by_cases h4 : 4000 < mo
        · have hd : decide ((4000 : Int) < (mo : Int)) = true := decide_eq_true (by omega)
          have HX := Lib.hid h4
          clear h4 hmk
          go_wp2
          go_ret2
          rw [HT.out, if_pos (.inr HX.out)]
          exact ⟨_, _, _, _, rfl, Own.nil_ _ _, rfl, hbr⟩
        · have hd : decide ((4000 : Int) < (mo : Int)) = false := decide_eq_false (by omega)
          have HX := Lib.hid (show ¬ (40 < ss.length ∨ 4000 < mo) by omega)
          clear h4 hmk
          go_wp2
          go_ret2
          rw [HT.out, if_neg HX.out]
          exact ⟨_, _, _, _, rfl, hown, rfl, hbr⟩
end Go.Proofs.Ytegbncngencfnaa
