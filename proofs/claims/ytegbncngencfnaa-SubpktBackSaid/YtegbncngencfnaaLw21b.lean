/- The statements of layer 21: SubpktBack. -/
import Derived.Test.YtegbncngencfnaaLw21
import Derived.Test.YtegbncngencfnaaSv
import Derived.Test.YtegbncngencfnaaSi
import Derived.Test.YtegbncngencfnaaSx
import Derived.IntWalk
namespace Go.Proofs.Ytegbncngencfnaa
open Go.RowKit

theorem emitF_bad {ss : List SubV} (h : (emitF ss).2 ≠ 0) : (emitF ss).1 = [] := by
  rw [emitF] at h ⊢
  cases he : emitT ss [] with
  | none => rfl
  | some out =>
    rw [he, endE] at h
    split at h
    · rename_i hb
      rw [endE, if_pos hb]
    · exact absurd rfl h
theorem emitF_len {ss : List SubV} : (emitF ss).1.length ≤ 4000 := by
  rw [emitF]
  cases he : emitT ss [] with
  | none => simp [endE]
  | some out =>
    rw [endE]
    split
    · simp
    · simp only; omega

set_option maxRecDepth 100000 in
set_option maxHeartbeats 3200000 in
theorem SubpktBack_walk {A : Option Addr} {n c : Nat} {ss : List SubV} {w : World} (h : Ss w A n ss) (hn : n ≤ 9223372036854775807) (hl : ∀ s ∈ ss, s.2.2.length ≤ 140737488355328) :
    Calls Try.prog 4 #[.slice A n c] w fun e w' => e = .returned (.bool true) ∧ Below w.heap.size w w' := by
  have hsm := Small21_calls (c := c) h hn hl
  have HL := Lib.hid hl
  clear hl
  go_enter Try.func4, Try.ntmps4
  go_wp2_with fail
  refine hsm.mono ?_
  rintro e w1 ⟨⟨r, rfl, hs⟩, rfl⟩
  have HS := Lib.hid hs
  clear hs hsm
  cases r with
  | false =>
    go_wp2_with (go_at_call 12; refine (alive21_calls _).mono ?_; rintro e w1 ⟨rfl, hb1⟩)
    go_ret
    exact ⟨rfl, hb1⟩
  | true =>
    have H60 := Lib.hid (HS.out rfl).1
    have H5 := Lib.hid (HS.out rfl).2
    have hss := h.1
    have HE := Lib.hid (Emit_calls (c := c) h (by have := H60.out; omega) (fun s hs => by have := H5.out s hs; omega))
    have hback := fun (he : (emitF ss).2 = 0) => emit_back (fun s hs => by have := H5.out s hs; omega) he
    have hbad := fun (he : (emitF ss).2 ≠ 0) => emitF_bad he
    have hlen := emitF_len (ss := ss)
    generalize emitF ss = E at HE hback hbad hlen
    obtain ⟨out, r⟩ := E
    simp only at hback hbad hlen
    have HLN := Lib.hid hlen
    have HBK := Lib.hid hback
    have HBD := Lib.hid hbad
    clear hback hbad hlen hss
    by_cases hr : r = 0
    · subst hr
      have HK := Lib.hid (HBK.out rfl)
      by_cases ho : out = []
      · subst ho
        have HK1 := Lib.hid HK.out.1
        go_wp2_with fail
        refine HE.out.mono ?_
        rintro e w1 ⟨A1, m1, c1, r1, rfl, ho1, hr1, hb1⟩
        obtain rfl : r1 = 0 := hr1
        obtain rfl : 0 = m1 := ho1.2
        go_wp2_with fail
        refine (Parse_calls ho1.bs).mono ?_
        rw [HK1.out]
        rintro e w2 ⟨A2, m2, c2, r2, rfl, ho2, hr2, hb2⟩
        obtain rfl : r2 = 0 := hr2
        have hB2 := below_then hb1 hb1.size hb2
        have HSame := Lib.hid (Same21_calls (c := c) (d := c2) (h.below hB2) ho2.ss hn)
        clear ho1 ho2
        go_wp2_with (first
          | (go_at_call 15; refine HSame.out.mono ?_; rintro e w3 ⟨rfl, hb3⟩)
          | (go_at_call 12; refine (alive21_calls _).mono ?_; rintro e w4 ⟨rfl, hb4⟩))
        go_ret
        exact ⟨rfl, below_then (below_then hB2 hB2.size hb3) (below_then hB2 hB2.size hb3).size hb4⟩
      · have HK1 := Lib.hid HK.out.1
        have HK2 := Lib.hid (HK.out.2 ho)
        have HOL := Lib.hid (show 1 ≤ out.length from List.length_pos_iff.2 ho)
        clear ho
        go_wp2_with fail
        refine HE.out.mono ?_
        rintro e w1 ⟨A1, m1, c1, r1, rfl, ho1, hr1, hb1⟩
        obtain rfl : r1 = 0 := hr1
        have hm1 : out.length = m1 := ho1.2
        have HM1 := Lib.hid hm1
        clear hm1
        go_wp2_with fail
        refine (Parse_calls ho1.bs).mono ?_
        rw [HK1.out]
        rintro e w2 ⟨A2, m2, c2, r2, rfl, ho2, hr2, hb2⟩
        obtain rfl : r2 = 0 := hr2
        have hB2 := below_then hb1 hb1.size hb2
        have HSame := Lib.hid (Same21_calls (c := c) (d := c2) (h.below hB2) ho2.ss hn)
        obtain ⟨m, hm⟩ : ∃ m, m1 = m + 1 := ⟨m1 - 1, by have := HM1.out; have := HOL.out; omega⟩
        subst hm
        have hd0 : (((m + 1 : Nat) : Int) == 0) = false := by rw [beq_eq_false_iff_ne]; omega
        have hup := fun W (hW : Below w1.heap.size w1 W) => ((ho1.below hW).bs).upto (k := m) (by omega)
        have hdl : out.take m = out.dropLast := by rw [List.dropLast_eq_take, HM1.out]; rfl
        rw [hdl] at hup
        have hcc := ho1.bs.cap
        have HUP := Lib.hid hup
        have HMB := Lib.hid (show m + 1 ≤ 4000 by have := HM1.out; have := HLN.out; omega)
        clear ho1 ho2 hup hdl
        have hcc1 := hcc.1
        have hwm : wrap64 (m : Int) = (m : Int) := IntWalk.wrap64_in _ (by have := HMB.out; omega)
        have hmi : m ≤ c1 := by omega
        clear hd0
        go_wp2_with (first
          | (go_at_call 15; refine HSame.out.mono ?_; rintro e w3 ⟨rfl, hb3⟩; have hB3 := below_then hB2 hB2.size hb3; have HP := Lib.hid (Parse_calls (HUP.out _ (below_then hb2 hb2.size hb3))))
          | (go_at_call 13; refine HP.out.mono ?_; rw [HK2.out]; rintro e w4 ⟨A4, m4, c4, r4, rfl, ho4, hr4, hb4⟩; obtain rfl : r4 = 2 := hr4; obtain rfl : 0 = m4 := ho4.len; have hB4 := below_then hB3 hB3.size hb4)
          | (go_at_call 12; refine (alive21_calls _).mono ?_; rintro e w5 ⟨rfl, hb5⟩))
        go_ret
        exact ⟨rfl, below_then hB4 hB4.size hb5⟩
    · have HBE := Lib.hid (HBD.out hr)
      have hne : (r != 0) = true := by rw [bne_iff_ne]; exact hr
      obtain rfl : out = [] := HBE.out
      have HR := Lib.hid hr
      clear hr
      go_wp2_with fail
      refine HE.out.mono ?_
      rintro e w1 ⟨A1, m1, c1, r1, rfl, ho1, hr1, hb1⟩
      obtain rfl : r1 = r := hr1
      obtain rfl : 0 = m1 := ho1.2
      go_wp2_with (go_at_call 12; refine (alive21_calls _).mono ?_; rintro e w4 ⟨rfl, hb4⟩)
      go_ret
      exact ⟨rfl, below_then hb1 hb1.size hb4⟩
end Go.Proofs.Ytegbncngencfnaa
