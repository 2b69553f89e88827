/- The statements of layer 20: MpiTake. -/
import Derived.Test.YtcakdlfhmdkocaaLw20
import Derived.Deep.RegionHeld
namespace Go.Proofs.Ytcakdlfhmdkocaa
open Go.RowKit

theorem NatR.same {w : World} {A D : Option Addr} {m c n d N : Nat} (h : NatR w A m c N) (h2 : NatR w D n d N) : ∃ xs, Nr w .u32 A m c xs ∧ Nr w .u32 D n d xs := by
  obtain ⟨xs, h1, h3, h4, h5⟩ := h
  obtain ⟨ys, g1, g3, g4, g5⟩ := h2
  obtain rfl := trim_unique (by decide) h3 g3 h4 g4 (h5.trans g5.symm)
  exact ⟨xs, h1, g1⟩
theorem Nr.max {w : World} {A : Option Addr} {m c : Nat} {xs : List Nat} (h : Nr w .u32 A m c xs) : m ≤ 9223372036854775807 := by
  have := h.1.1
  have h2 := h.1.2.1
  have := h.2
  simp only [List.length_map, maxLen] at *
  omega

set_option maxRecDepth 100000 in
set_option maxHeartbeats 3200000 in
theorem MpiTake_walk {A : Option Addr} {n c : Nat} {l : List UInt8} (k : Int) {w : World} (h : Bs w A n c l) :
    Calls Try.prog 7 #[.slice A n c, .int .i64 k] w fun e w' => e = .returned (.bool true) ∧ Below w.heap.size w w' := by
  by_cases h1 : 300 < n
  · go_enter Try.func7, Try.ntmps7
    go_wp2_with (go_at_call 14; refine (alive20_calls _).mono ?_; rintro e w1 ⟨rfl, hb1⟩)
    go_ret
    exact ⟨rfl, hb1⟩
  · have h1' : n ≤ 300 := by omega
    clear h1
    have hem := empty8 w
    have hal := h.alloc (.cells #[] 5)
    go_enter Try.func7, Try.ntmps7
    go_wp2_with (at_builtin; go_must (refine app8 (.tmp 21) (.tmp 22) rfl rfl rfl hem rfl hal (by omega) (by simp) ?_); intro A1 c1 w1 hown1 hg1 hat1)
    rw [List.nil_append, Nat.zero_add] at hown1
    have hb1 := below_empty hg1
    clear hem hal hg1 hat1
    refine (mTake_calls hown1.bs (by omega)).mono ?_
    rintro e w2 ⟨A2, m2, c2, A3, m3, c3, r2, rfl, hN2, ho3, hr2, hb2⟩
    rw [mTakeF_eq] at hN2 ho3 hr2
    have HR2 := Lib.hid hr2
    clear hr2
    have hB2 := below_then hb1 hb1.size hb2
    go_wp2_with fail
    refine (rmTake_calls (h.below hB2) (by omega)).mono ?_
    rintro e w3 ⟨A4, m4, c4, A5, m5, c5, r4, rfl, hN4, hbk4, hb5, hA5, hr4, hb3⟩
    obtain rfl : r2 = r4 := HR2.out.trans hr4.symm
    clear hr4
    have hB3 := below_then hB2 hB2.size hb3
    go_wp2_with fail
    refine (mAll_calls k ((hown1.below hb2).below hb3).bs (by omega)).mono ?_
    rintro e w4 ⟨A6, m6, c6, r6, rfl, ho6, hr6, hb4⟩
    have HR6 := Lib.hid hr6
    clear hr6
    have hB4 := below_then hB3 hB3.size hb4
    go_wp2_with fail
    refine (rmAll_calls k (h.below hB4) (by omega)).mono ?_
    rintro e w5 ⟨A7, m7, c7, r7, rfl, ho7, hr7, hb5'⟩
    obtain rfl : r6 = r7 := HR6.out.trans hr7.symm
    clear hr7
    have hB5 := below_then hB4 hB4.size hb5'
    obtain ⟨xs, q2, q4⟩ := (((hN2.below hb3).below hb4).below hb5').same ((hN4.below hb4).below hb5')
    have hmx := q2.max
    have s3 := (((ho3.below hb3).below hb4).below hb5').bs
    have s5 := (hb5.below hb4).below hb5'
    have ho6 := ho6.below hb5'
    have s1 := (((hown1.below hb2).below hb3).below hb4).below hb5'
    have hl67 : m6 = m7 := by have := ho6.len; have := ho7.len; omega
    subst hl67
    clear hown1 ho3 hN2 hN4 hb5
    go_wp2_with fail
    refine (Same04_calls q2 q4 hmx).mono ?_
    rintro e w6 ⟨rfl, hb6⟩
    have t3 := (s3.below hb6).str
    have t5 := (s5.below hb6).str
    have hB6 := below_then hB5 hB5.size hb6
    have ho6 := ho6.below hb6
    have ho7 := ho7.below hb6
    have s1 := s1.below hb6
    obtain rfl := ho6.len
    generalize hNs : (mallF l k).1 = Ns at ho6 ho7
    have hml : Ns.length ≤ 9223372036854775807 := by
      obtain ⟨cs, h1, h2, h3, _⟩ := ho6
      have := h2.len
      have h4 := h1.rd.1
      have h5 := h1.rd.2.1
      unfold maxLen at h5
      omega
    clear hNs q2 q4 s3 s5
    go_wp2_with fail
    go_loopw [16] (fun v wr => ∃ i : Nat, i ≤ Ns.length ∧ v = .int .i64 i ∧ Below w6.heap.size w6 wr) (fun v _ => Ns.length - (intOf v).toNat)
    case atStart => exact ⟨0, Nat.zero_le _, rfl, Below.refl _ _⟩
    case round =>
      obtain ⟨i, hi, rfl, hbr⟩ := hrel
      by_cases hlt : i < Ns.length
      · obtain ⟨b, off, Ak, nk, ck, rfl, hbl, hcell, hNk⟩ := (ho6.below hbr).at_ hlt
        obtain ⟨b2, off2, Dk, mk, dk, rfl, hbl2, hcell2, hMk⟩ := (ho7.below hbr).at_ hlt
        obtain ⟨xs, g1, g2⟩ := hNk.same hMk
        have hmk := g1.max
        have hsm := Lib.hid (Same04_calls (w := wr.drew) g1 g2 hmk)
        have q0 : wr.drew.cell? ⟨b, off + i, none⟩ = some (.slice Ak nk ck) := hcell
        have q1 : wr.drew.cell? ⟨b2, off2 + i, none⟩ = some (.slice Dk mk dk) := hcell2
        have hi0 : (0 : Int) ≤ (i : Int) := by omega
        have hi1 : (i : Int) < (Ns.length : Int) := by omega
        have hbd := hbr.drew
        clear hcell hcell2 g1 g2 hNk hMk
        go_wp2_with fail
        go_region_held (fun w' => w'.cell? ⟨b, off + i, none⟩ = some (.slice Ak nk ck) ∧ w'.cell? ⟨b2, off2 + i, none⟩ = some (.slice Dk mk dk)) (first | exact ⟨q0, q1⟩ | exact ⟨q3, q4⟩) (first
          | (go_at_call 29; refine hsm.out.mono ?_; rintro e w7 ⟨rfl, hb7⟩; have q3 := (hb7.cell (p := ⟨b, off + i, none⟩) hbl).trans q0; have q4 := (hb7.cell (p := ⟨b2, off2 + i, none⟩) hbl2).trans q1; have hB7 := below_then hbd hbd.size hb7))
        go_wp2
        go_roundw
        case rel => exact ⟨i + 1, by omega, by go_num, hB7⟩
        case measure => simp [intOf]; omega
      · have hBr := below_then hB6 hB6.size hbr
        go_wp2_with fail
        refine (alive20_calls wr).mono ?_
        rintro e w7 ⟨rfl, hb7⟩
        have hB7 := below_then hBr hBr.size hb7
        have u1 := ((s1.below hbr).below hb7).bs.str
        have u2 := (h.below hB7).str
        clear ho6 ho7 s1
        go_wp2
        go_ret
        exact ⟨rfl, hB7⟩
end Go.Proofs.Ytcakdlfhmdkocaa
