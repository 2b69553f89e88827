/- Taking a packet off. -/
import Derived.Test.YtcakdlfhmdkocaaTp
import Derived.Deep.RegionHeld3
namespace Go.Proofs.Ytcakdlfhmdkocaa
open Go.RowKit

/-- The taker behind a packet's head and body, and the tag. -/
def goT (l : List UInt8) : Int × St :=
  let x := numT l ⟨0, [], 0⟩ 1
  if x.2.e ≠ 0 then (0, x.2)
  else if x.1 < 128 then (0, ⟨x.2.at_, x.2.body, 8⟩)
  else if 192 ≤ x.1 then (x.1 - 192, freshT l (x.1 - 192) (l.length + 1) true x.2)
  else ((x.1 - 128) / 4, oldT l x.2 (x.1 % 4).toNat)
/-- What taking a packet off l comes to: the tag, the body, the rest, the error. -/
def takeF (l : List UInt8) : Int × List UInt8 × List UInt8 × Int :=
  if (goT l).2.e ≠ 0 then (0, [], [], (goT l).2.e) else ((goT l).1, (goT l).2.body, l.drop (goT l).2.at_, 0)

theorem bits_tab : ∀ n : Fin 256, (bits BinOp.andNot IntKind.i64 ((n.val : Nat) : Int) 192 = ((n.val % 64 : Nat) : Int)) ∧ (bits BinOp.and IntKind.i64 ((n.val : Nat) : Int) 128 == 0) = decide (n.val < 128) ∧
    (bits BinOp.and IntKind.i64 ((n.val : Nat) : Int) 192 == 192) = decide (192 ≤ n.val) ∧ bits BinOp.and IntKind.i64 ((n.val : Nat) : Int) 3 = ((n.val % 4 : Nat) : Int) := by decide +kernel
theorem numT1_lt (l : List UInt8) (s : St) : 0 ≤ (numT l s 1).1 ∧ (numT l s 1).1 < 256 := by
  unfold numT
  split
  · simp only [numS]
    rw [if_neg (by omega)]
    refine ⟨(val_range _).1, ?_⟩
    have h := (takeS_short l s.at_ 1).2 (by omega)
    generalize (takeS l s.at_ 1).1 = x at h ⊢
    match x, h with
    | [], _ => simp [val]
    | [a], _ => have := a.toNat_lt; simp [val, valStep]; omega
  · simp

theorem freshT_len (l : List UInt8) (tag : Int) : ∀ (f : Nat) (first : Bool) (s : St), s.body.length ≤ 60000 → (freshT l tag f first s).body.length ≤ 60000
  | 0, _, s, h => h
  | f + 1, first, s, h => by
    rw [freshT]
    have := (partT_on l tag first s h).1
    split
    · exact this
    · exact freshT_len l tag f false _ this
theorem oldT_len (l : List UInt8) (s : St) (k : Nat) (h : s.body.length ≤ 60000) : (oldT l s k).body.length ≤ 60000 := by
  unfold oldT
  split
  · exact (moreT_at l s _).2.1 h
  · exact (moreT_at l _ _).2.1 (by rw [(numT_at l s _).2]; exact h)
theorem res4 {fn : Func} {t u v x : Tmp} (h : fn.results = #[.tmp t, .tmp u, .tmp v, .tmp x]) (tmps : Array Value) (P : Program) (w : World) :
    (results fn tmps).run P w = .ok (.tuple #[tmps.getD t undef, tmps.getD u undef, tmps.getD v undef, tmps.getD x undef]) w := by simp [results, h]
theorem Tk.new {w : World} {g : Nat} {l : List UInt8} {B : Nat} (hc : Cur w g 0 l) (hB : B ≤ g) : Tk (w.alloc (.cells #[.pointer (some ⟨g, 0, none⟩), .slice none 0 0, .int .i64 0] 86)) B w.heap.size g l ⟨0, [], 0⟩ :=
  ⟨none, 0, 0, heap_alloc_new w _, hc.below ((Below.refl _ _).alloc (Nat.le_refl _) _), Own.nil_ _ _, (fun ad e => by cases e), hB, hc.lt⟩

set_option maxRecDepth 100000 in
set_option maxHeartbeats 6400000 in
theorem Take_calls {A : Option Addr} {n c : Nat} {l : List UInt8} {w : World} (h : Bs w A n c l) (hn : n ≤ 4294967296) :
    Calls Try.prog 34 #[.slice A n c] w fun e w' => ∃ A1 n1 c1 A2 n2 c2 tag r, e = .returned (.tuple #[.int .i64 tag, .slice A1 n1 c1, .slice A2 n2 c2, .int .i64 r]) ∧ tag = (takeF l).1 ∧ r = (takeF l).2.2.2 ∧
      Own w' w.heap.size A1 n1 c1 (takeF l).2.1 ∧ Own w' w.heap.size A2 n2 c2 (takeF l).2.2.1 ∧ Below w.heap.size w w' := by
  obtain ⟨hd0, hd1⟩ := numT1_lt l ⟨0, [], 0⟩
  have hG : goT l = if (numT l ⟨0, [], 0⟩ 1).2.e ≠ 0 then (0, (numT l ⟨0, [], 0⟩ 1).2)
    else if (numT l ⟨0, [], 0⟩ 1).1 < 128 then (0, ⟨(numT l ⟨0, [], 0⟩ 1).2.at_, (numT l ⟨0, [], 0⟩ 1).2.body, 8⟩)
    else if 192 ≤ (numT l ⟨0, [], 0⟩ 1).1 then ((numT l ⟨0, [], 0⟩ 1).1 - 192, freshT l ((numT l ⟨0, [], 0⟩ 1).1 - 192) (l.length + 1) true (numT l ⟨0, [], 0⟩ 1).2)
    else (((numT l ⟨0, [], 0⟩ 1).1 - 128) / 4, oldT l (numT l ⟨0, [], 0⟩ 1).2 ((numT l ⟨0, [], 0⟩ 1).1 % 4).toNat) := rfl
  have hx0 := (numT_at l ⟨0, [], 0⟩ 1).2
  have hnum := fun (w1 : World) (B t g : Nat) (h1 : Tk w1 B t g l ⟨0, [], 0⟩) => number_calls h1 1 (by omega)
  generalize numT l ⟨0, [], 0⟩ 1 = x at hG hd0 hd1 hx0 hnum
  obtain ⟨hd, s1⟩ := x
  simp only at hG hd0 hd1 hx0 hnum
  obtain ⟨k, rfl⟩ := Int.eq_ofNat_of_zero_le hd0
  have hk : k < 256 := by omega
  obtain ⟨q1, q2, q3, q4⟩ := bits_tab ⟨k, hk⟩
  simp only at q1 q2 q3 q4
  have Hnum := Lib.hid hnum
  have HG := Lib.hid hG
  have HX : s1.body.length ≤ 60000 := by rw [hx0]; simp
  have HTF := Lib.hid (show takeF l = if (goT l).2.e ≠ 0 then (0, [], [], (goT l).2.e) else ((goT l).1, (goT l).2.body, l.drop (goT l).2.at_, 0) from rfl)
  clear hnum hG hd0 hd1 hx0
  go_enter Try.func34, Try.ntmps34
  go_wp2_with (go_at_call 49; refine (Over_calls h hn).mono ?_; rintro e w1 ⟨g, rfl, hg, hcur, hb1⟩)
  have hT0 := Tk.new (B := w.heap.size) hcur hg
  have hb2 := hb1.alloc hb1.size (.cells #[.pointer (some ⟨g, 0, none⟩), .slice none 0 0, .int .i64 0] 86)
  generalize w1.alloc (.cells #[.pointer (some ⟨g, 0, none⟩), .slice none 0 0, .int .i64 0] 86) = w2 at hT0 hb2 ⊢
  generalize w1.heap.size = t at hT0 ⊢
  clear hb1 hcur h
  refine (Hnum.out _ _ _ _ hT0).mono ?_
  rintro e w3 ⟨rfl, hT3, hb3⟩
  have hB3 := hb2.trans hb3
  obtain ⟨hB, hgt, htl⟩ := hT0.ord
  obtain ⟨A3, n3, c3, k0, k1, k2, f1, f2, hc3, ho3, hb4⟩ := hT3.open_
  clear hb2 hb3 hT0
  by_cases he : s1.e = 0
  · have hG1 := HG.out
    rw [if_neg (by simpa using he)] at hG1
    rw [he] at k2
    by_cases h128 : k < 128
    · rw [if_pos (by omega)] at hG1
      have hT := HTF.out
      rw [hG1] at hT
      simp only at hT
      rw [if_pos (by omega)] at hT
      have HT := Lib.hid hT
      have hd2 : decide (k < 128) = true := decide_eq_true h128
      rw [hd2] at q2
      clear hG1 hT he hd2
      have hT4 := hT3.err 8
      have hB4 := hB3.setCell (p := ⟨t, 2, none⟩) (by show w.heap.size ≤ t; omega) (.int .i64 8)
      obtain ⟨A4, n4, c4, _, _, kk2, _, _, _, _, _⟩ := hT4.open_
      clear hT4
      go_wp2
      go_quiet (fail)
      go_wp2
      refine bodyPost_ret (res4 rfl _ _ _) rfl ?_
      rw [HT.out]
      exact ⟨_, _, _, _, _, _, _, _, rfl, rfl, rfl, Own.nil_ _ _, Own.nil_ _ _, below_drewN hB4 _⟩
    · rw [if_neg (by omega)] at hG1
      have hd2 : decide (k < 128) = false := decide_eq_false h128
      rw [hd2] at q2
      clear hd2
      by_cases h192 : 192 ≤ k
      · rw [if_pos (by omega)] at hG1
        have hd3 : decide (192 ≤ k) = true := decide_eq_true h192
        rw [hd3] at q3
        have hkk : (k : Int) % 64 = (k : Int) - 192 := by omega
        have hfr := fresh_calls hT3 ((k : Int) - 192) HX
        rw [← hkk] at hfr hG1
        have HG1 := Lib.hid hG1
        have hL4 := freshT_len l ((k : Int) % 64) (l.length + 1) true s1 HX
        generalize freshT l ((k : Int) % 64) (l.length + 1) true s1 = s4 at hfr HG1 hL4
        clear hG1 hd3 hkk he
        go_wp2_with fail
        refine hfr.mono ?_
        rintro e w4 ⟨rfl, hT4, hb4'⟩
        have hB4 := hB3.trans hb4'
        obtain ⟨A4, n4, c4, kk0, kk1, kk2, ff1, ff2, hc4, ho4, hbb, hh4⟩ := hT4.open2
        clear hB3 hb4 hb4'
        by_cases he4 : s4.e = 0
        · have hT := HTF.out
          rw [HG1.out] at hT
          simp only at hT
          rw [if_neg (by simpa using he4)] at hT
          have HT := Lib.hid hT
          rw [he4] at kk2
          have hn4 : n4 ≤ 140737488355328 := by have := ho4.2; omega
          have hB4s := hB4.size
          clear hT he4
          go_wp2_with fail
          have hh := hh4.out
          have hhD : w4.drew.heap[t]? = some (.cells #[.pointer (some ⟨g, 0, none⟩), .slice A4 n4 c4, .int .i64 s4.e] 86 (0, 0)) := hh
          have hoC : Own w4.drew w.heap.size A4 n4 c4 s4.body := ho4
          have hcC : Cur w4.drew g s4.at_ l := hc4
          have hBC : Below w.heap.size w w4.drew := hB4.drew
          have HHD := Lib.hid hhD
          clear hh hhD hT4
          go_region_held (fun w' => w'.cell? ⟨t, 0, none⟩ = some (.pointer (some ⟨g, 0, none⟩)) ∧ w'.cell? ⟨t, 1, none⟩ = some (.slice A4 n4 c4)) (first | exact ⟨kk0, kk1⟩ | exact ⟨blk_cell HHD.out 0, blk_cell HHD.out 1⟩) (first
            | (go_at_call 64; refine (Clone_calls hoC.bs hn4).mono ?_; rintro e w5 ⟨A5, c5, rfl, ho5, hb6⟩; go_must (have htS := blk_lt HHD.out; have ho5 := ho5.lower (B' := t + 1) htS; have HHD := Lib.hid ((hb6.block t htS).trans HHD.out); (first | (have ho6 := ho6.below hb6) | skip); have hBC := below_then hBC hBC.size hb6; have hcC := hcC.below hb6; have hoC := hoC.below hb6))
            | (go_at_call 51; refine (Rest_calls hcC).mono ?_; rintro e w6 ⟨A6, m6, c6, rfl, ho6, hc6, hg6⟩; go_must (have htS := blk_lt HHD.out; have ho6 := ho6.lower (B' := t + 1) htS; have HHD := Lib.hid ((hg6.block t htS (fun e => by injection e with e; omega)).trans HHD.out); (first | (have ho5 := ho5.grown hg6 (fun ad e e2 => by have := (ho5.blk ad e).1; injection e2 with e2; omega)) | skip); have hBC := hBC.grown hg6 hBC.size (fun k e => by cases e; exact hB); have hoC := hoC.grown hg6 (fun ad e e2 => by have := hbb ad e; injection e2 with e2; omega))))
          all_goals
            go_wp2
            refine bodyPost_ret (res4 rfl _ _ _) rfl ?_
            rw [HT.out]
            exact ⟨_, _, _, _, _, _, _, _, rfl, rfl, rfl, by first | exact ho5.lower (by omega) | (rw [ho4.2]; exact ho5.lower (by omega)), ho6.lower (by omega), hBC⟩
        · have hT := HTF.out
          rw [HG1.out] at hT
          simp only at hT
          rw [if_pos he4] at hT
          have HT := Lib.hid hT
          have hne : (s4.e != 0) = true := by rw [bne_iff_ne]; exact he4
          clear hT he4
          go_wp2
          go_quiet (fail)
          go_wp2
          refine bodyPost_ret (res4 rfl _ _ _) rfl ?_
          rw [HT.out]
          exact ⟨_, _, _, _, _, _, _, _, rfl, rfl, rfl, Own.nil_ _ _, Own.nil_ _ _, below_drewN hB4 _⟩
      · rw [if_neg (by omega)] at hG1
        have hd3 : decide (192 ≤ k) = false := decide_eq_false h192
        rw [hd3] at q3
        have hkk : (k : Int) % 64 / 4 = ((k : Int) - 128) / 4 := by omega
        have hk4 : ((k : Int) % 4).toNat = k % 4 := by omega
        have hol := old_calls hT3 (k % 4) (by omega) HX
        rw [← hkk, hk4] at hG1
        have HG1 := Lib.hid hG1
        have hL4 := oldT_len l s1 (k % 4) HX
        generalize oldT l s1 (k % 4) = s4 at hol HG1 hL4
        clear hG1 hd3 hkk he hk4
        go_wp2_with fail
        refine hol.mono ?_
        rintro e w4 ⟨rfl, hT4, hb4'⟩
        have hB4 := hB3.trans hb4'
        obtain ⟨A4, n4, c4, kk0, kk1, kk2, ff1, ff2, hc4, ho4, hbb, hh4⟩ := hT4.open2
        clear hB3 hb4 hb4'
        by_cases he4 : s4.e = 0
        · have hT := HTF.out
          rw [HG1.out] at hT
          simp only at hT
          rw [if_neg (by simpa using he4)] at hT
          have HT := Lib.hid hT
          rw [he4] at kk2
          have hn4 : n4 ≤ 140737488355328 := by have := ho4.2; omega
          have hB4s := hB4.size
          clear hT he4
          go_wp2_with fail
          have hh := hh4.out
          have hhD : w4.drew.heap[t]? = some (.cells #[.pointer (some ⟨g, 0, none⟩), .slice A4 n4 c4, .int .i64 s4.e] 86 (0, 0)) := hh
          have hoC : Own w4.drew w.heap.size A4 n4 c4 s4.body := ho4
          have hcC : Cur w4.drew g s4.at_ l := hc4
          have hBC : Below w.heap.size w w4.drew := hB4.drew
          have HHD := Lib.hid hhD
          clear hh hhD hT4
          go_region_held (fun w' => w'.cell? ⟨t, 0, none⟩ = some (.pointer (some ⟨g, 0, none⟩)) ∧ w'.cell? ⟨t, 1, none⟩ = some (.slice A4 n4 c4)) (first | exact ⟨kk0, kk1⟩ | exact ⟨blk_cell HHD.out 0, blk_cell HHD.out 1⟩) (first
            | (go_at_call 64; refine (Clone_calls hoC.bs hn4).mono ?_; rintro e w5 ⟨A5, c5, rfl, ho5, hb6⟩; go_must (have htS := blk_lt HHD.out; have ho5 := ho5.lower (B' := t + 1) htS; have HHD := Lib.hid ((hb6.block t htS).trans HHD.out); (first | (have ho6 := ho6.below hb6) | skip); have hBC := below_then hBC hBC.size hb6; have hcC := hcC.below hb6; have hoC := hoC.below hb6))
            | (go_at_call 51; refine (Rest_calls hcC).mono ?_; rintro e w6 ⟨A6, m6, c6, rfl, ho6, hc6, hg6⟩; go_must (have htS := blk_lt HHD.out; have ho6 := ho6.lower (B' := t + 1) htS; have HHD := Lib.hid ((hg6.block t htS (fun e => by injection e with e; omega)).trans HHD.out); (first | (have ho5 := ho5.grown hg6 (fun ad e e2 => by have := (ho5.blk ad e).1; injection e2 with e2; omega)) | skip); have hBC := hBC.grown hg6 hBC.size (fun k e => by cases e; exact hB); have hoC := hoC.grown hg6 (fun ad e e2 => by have := hbb ad e; injection e2 with e2; omega))))
          all_goals
            go_wp2
            refine bodyPost_ret (res4 rfl _ _ _) rfl ?_
            rw [HT.out]
            exact ⟨_, _, _, _, _, _, _, _, rfl, rfl, rfl, by first | exact ho5.lower (by omega) | (rw [ho4.2]; exact ho5.lower (by omega)), ho6.lower (by omega), hBC⟩
        · have hT := HTF.out
          rw [HG1.out] at hT
          simp only at hT
          rw [if_pos he4] at hT
          have HT := Lib.hid hT
          have hne : (s4.e != 0) = true := by rw [bne_iff_ne]; exact he4
          clear hT he4
          go_wp2
          go_quiet (fail)
          go_wp2
          refine bodyPost_ret (res4 rfl _ _ _) rfl ?_
          rw [HT.out]
          exact ⟨_, _, _, _, _, _, _, _, rfl, rfl, rfl, Own.nil_ _ _, Own.nil_ _ _, below_drewN hB4 _⟩
  · have hG1 := HG.out
    rw [if_pos he] at hG1
    have hT := HTF.out
    rw [hG1] at hT
    simp only at hT
    rw [if_pos he] at hT
    have HT := Lib.hid hT
    have hne : (s1.e != 0) = true := by rw [bne_iff_ne]; exact he
    clear hG1 hT he
    go_wp2
    go_quiet (fail)
    go_wp2
    refine bodyPost_ret (res4 rfl _ _ _) rfl ?_
    rw [HT.out]
    exact ⟨_, _, _, _, _, _, _, _, rfl, rfl, rfl, Own.nil_ _ _, Own.nil_ _ _, below_drewN hB3 _⟩
end Go.Proofs.Ytcakdlfhmdkocaa
