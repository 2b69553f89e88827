/- The document's Parse of subpackets. -/
import Derived.Test.YtegbncngencfnaaSo
import Derived.Test.YtegbncngencfnaaSn
import Derived.Test.YtegbncngencfnaaSt
namespace Go.Proofs.Ytegbncngencfnaa
open Go.RowKit

theorem slenR_le (b : List UInt8) : (slenR b).2.1.length ≤ b.length := by
  cases b with
  | nil => simp [slenR]
  | cons a b =>
    rw [slenR]
    split
    · simp
    · split
      · cases b <;> simp [twoR]; omega
      · split
        · simp
        · simp; omega
theorem own_zero {w : World} {B m c : Nat} {A : Option Addr} {l : List UInt8} (h : Own w B A (0 + m) c ([] ++ l)) : Own w B A m c l := by
  rw [Nat.zero_add] at h
  exact h
theorem rem_tab : ∀ n : Fin 256, Int.tmod ((n.val : Nat) : Int) 128 = ((n.val % 128 : Nat) : Int) := by decide +kernel

theorem own_lit (w : World) (cs : Array Value) (l : List UInt8) (hcs : cs.toList = bvs l) (m : Nat) (hm : l.length = m) (hm2 : m ≤ 140737488355328) : Own (w.alloc (.cells cs 5)) w.heap.size (some ⟨w.heap.size, 0, none⟩) m m l := by
  have hsz : cs.size = m := by rw [← Array.length_toList, hcs]; simp [hm]
  refine ⟨⟨by simp [hm], .inr ⟨_, m, cs, rfl, Nat.le_refl _, heap_alloc_new w _, Nat.le_refl _, by simp only [maxLen]; omega, by omega, ?_⟩⟩, hm⟩
  rw [hcs, Nat.mul_one, List.take_of_length_le (by simp [hm])]
theorem below_lit {w w1 : World} {cs : Array Value} {t : TypeId} (hg : (w.alloc (.cells cs t)).grownBy w1 (Option.map (fun x : Addr => x.block) (some ⟨w.heap.size, 0, none⟩))) : Below w.heap.size w w1 :=
  ((Below.refl _ _).alloc (Nat.le_refl _) _).grown hg (by simp) (fun k hk => by cases hk; exact Nat.le_refl _)
theorem ownSs_lit (w : World) (G : Option Nat) (hG : ∀ g, G = some g → g < w.heap.size) : OwnSs (w.alloc (.cells #[] 78)) w.heap.size G (some ⟨w.heap.size, 0, none⟩) 0 0 [] :=
  ⟨[], ⟨by simp, .inr ⟨_, 0, #[], rfl, Nat.le_refl _, heap_alloc_new w _, Nat.le_refl _, by simp only [maxLen]; omega, by simp, by simp⟩⟩, rfl, rfl, fun g e e2 => by have := hG g e; injection e2 with e2; simp only at e2; omega⟩

set_option maxRecDepth 100000 in
set_option maxHeartbeats 3200000 in
theorem rParse_calls {A : Option Addr} {n c : Nat} {l : List UInt8} {w : World} (h : Bs w A n c l) :
    Calls Try.prog 14 #[.slice A n c] w fun e w' => ∃ A' m' c' r, e = .returned (.tuple #[.slice A' m' c', .int .i64 r]) ∧ OwnSs w' w.heap.size none A' m' c' (parseF l).1 ∧ r = (parseF l).2 ∧ Below w.heap.size w w' := by
  have hln := h.2
  by_cases h4 : 4000 < l.length
  · have ht := Lib.hid (show parseF l = ([], 4) by rw [parseF, if_pos h4])
    have hd4 : decide ((4000 : Int) < (n : Int)) = true := decide_eq_true (by omega)
    clear h4 hln
    go_enter Try.func14, Try.ntmps14
    go_wp2
    go_ret2
    rw [ht.out]
    exact ⟨_, _, _, _, rfl, OwnSs.nil_ _ _ _, rfl, Below.refl _ _⟩
  · have ht := Lib.hid (show parseF l = parseT 41 [] l by rw [parseF, if_neg h4])
    have hd4 : decide ((4000 : Int) < (n : Int)) = false := decide_eq_false (by omega)
    have HN4 := Lib.hid (show n ≤ 4000 by omega)
    clear h4 hln
    go_enter Try.func14, Try.ntmps14
    go_wp2_with fail
    have hb0 := (Below.refl w.heap.size w).alloc (Nat.le_refl _) (.cells #[] 78)
    go_loopw [0, 4] (fun b o wr => ∃ (Ab : Option Addr) (nb_ cb : Nat) (bl : List UInt8) (Ao : Option Addr) (k co : Nat) (acc : List SubV), b = .slice Ab nb_ cb ∧ o = .slice Ao k co ∧ k ≤ 40 ∧ nb_ ≤ n ∧ Bs wr Ab nb_ cb bl ∧ (bl ≠ [] → ∀ ad, Ab = some ad → ad.block < w.heap.size) ∧ OwnSs wr w.heap.size none Ao k co acc ∧ Below w.heap.size w wr ∧ Hid (parseT (41 - k) acc bl = parseT 41 [] l)) (fun _ o _ => match o with | .slice _ k _ => 41 - k | _ => 0)
    case atStart => exact ⟨_, _, _, l, _, 0, 0, [], rfl, rfl, Nat.zero_le _, Nat.le_refl _, h.below hb0, h.lt8, ownSs_lit w none (fun g e => by cases e), hb0, Lib.hid rfl⟩
    case round =>
      obtain ⟨Ab, nb_, cb, bl, Ao, k, co, acc, rfl, rfl, hk, hbn, hbs, hlt8, hown, hbr, hfi⟩ := hrel
      clear hb0
      obtain rfl := hown.len
      have hf := hfi.out
      have hnb := hbs.2
      have HBN := Lib.hid hbn
      clear hbn
      rw [show 41 - acc.length = 40 - acc.length + 1 by omega, parseT] at hf
      by_cases hbl : bl = []
      · rw [if_pos hbl] at hf
        have HF := Lib.hid hf
        subst hbl
        obtain rfl : nb_ = 0 := hnb.symm
        clear hf hnb
        go_wp2
        go_ret2
        rw [ht.out, ← HF.out]
        exact ⟨_, _, _, _, rfl, hown, rfl, hbr⟩
      · have hla : (0 : Int) < (nb_ : Int) := by
          have := List.length_pos_iff.2 hbl
          omega
        rw [if_neg hbl] at hf
        have HL := Lib.hid (fun W hW => rlength_calls (w := W) (A := Ab) (n := nb_) (c := cb) hW hbl)
        clear hnb
        by_cases hk40 : acc.length = 40
        · rw [if_pos hk40] at hf
          have HF := Lib.hid hf
          clear hf
          go_wp2
          go_ret2
          rw [ht.out, ← HF.out]
          exact ⟨_, _, _, _, rfl, OwnSs.nil_ _ _ _, rfl, hbr⟩
        · rw [if_neg hk40] at hf
          have hd40 : ((acc.length : Int) == 40) = false := by rw [beq_eq_false_iff_ne]; omega
          have hk39 : acc.length ≤ 39 := by omega
          have hS : stakeR bl = (if (slenR bl).2.2 ≠ 0 then ((0, false, []), [], (slenR bl).2.2) else if (slenR bl).1 = 0 then ((0, false, []), [], 3) else
            if (slenR bl).2.1.length < (slenR bl).1 then ((0, false, []), [], 2) else
            ((((((slenR bl).2.1.headD 0).toNat % 128 : Nat) : Int), decide (128 ≤ ((slenR bl).2.1.headD 0).toNat), ((slenR bl).2.1.take (slenR bl).1).drop 1), (slenR bl).2.1.drop (slenR bl).1, 0) : SubV × List UInt8 × Int) := rfl
          generalize stakeR bl = S at hf hS
          have hcall := HL.out wr hbs
          have hSL := slenR_le bl
          rw [hbs.2] at hSL
          generalize slenR bl = L at hS hcall hSL
          obtain ⟨m, rst, r⟩ := L
          simp only at hS hcall hSL
          have HSL := Lib.hid hSL
          clear hSL
          have HC := Lib.hid hcall
          have HBL := Lib.hid hbl
          clear hk40 hbl HL hcall
          by_cases hr0 : r = 0
          · subst hr0
            rw [if_neg (by simp)] at hS
            by_cases hm0 : m = 0
            · subst hm0
              rw [if_pos rfl] at hS
              subst hS
              rw [if_neg (by simp)] at hf
              have HF := Lib.hid hf
              clear hf
              go_wp2_with (go_at_call 54; refine HC.out.mono ?_; rintro e w2 ⟨A2, m2, c2, r2, rfl, hb2, hA2, hr2, hB2⟩; obtain rfl : r2 = 0 := hr2; have hBB := below_then hbr hbr.size hB2)
              go_ret2
              rw [ht.out, ← HF.out]
              exact ⟨_, _, _, _, rfl, OwnSs.nil_ _ _ _, rfl, hBB⟩
            · rw [if_neg hm0] at hS
              have hdm : ((m : Int) == 0) = false := by rw [beq_eq_false_iff_ne]; omega
              by_cases hsh : rst.length < m
              · rw [if_pos hsh] at hS
                subst hS
                rw [if_neg (by simp)] at hf
                have HF := Lib.hid hf
                have HSH := Lib.hid hsh
                clear hf hm0 hsh
                go_wp2_with (go_at_call 54; refine HC.out.mono ?_; rintro e w2 ⟨A2, m2, c2, r2, rfl, hb2, hA2, hr2, hB2⟩; obtain rfl : r2 = 0 := hr2; have hBB := below_then hbr hbr.size hB2; have hds : m2 < m := (by have := hb2.2; have := HSH.out; omega))
                go_ret2
                rw [ht.out, ← HF.out]
                exact ⟨_, _, _, _, rfl, OwnSs.nil_ _ _ _, rfl, hBB⟩
              · rw [if_neg hsh] at hS
                subst hS
                rw [if_pos rfl] at hf
                have HF := Lib.hid hf
                have HSH := Lib.hid hsh
                have HM0 := Lib.hid hm0
                clear hf hm0 hsh
                go_wp2_with (go_at_call 54; refine HC.out.mono ?_; rintro e w2 ⟨A2, m2, c2, r2, rfl, hb2, hA2, hr2, hB2⟩; obtain rfl : r2 = 0 := hr2; have hBB := below_then hbr hbr.size hB2; have hds : ¬ m2 < m := (by have := hb2.2; have := HSH.out; omega))
                have hm2 := hb2.2
                obtain ⟨x, rs, rfl⟩ : ∃ x rs, rst = x :: rs := by
                  cases rst with
                  | nil => exact absurd hm2.symm (by have := HM0.out; simp only [List.length_nil] at hm2; omega)
                  | cons x rs => exact ⟨x, rs, rfl⟩
                replace HF : Hid (parseT (40 - acc.length) (acc ++ [(((x.toNat % 128 : Nat) : Int), decide (128 ≤ x.toNat), ((x :: rs).take m).drop 1)]) ((x :: rs).drop m) = parseT 41 [] l) := HF
                obtain ⟨b2, o2, hA2', hbk2, hcell⟩ := hb2.byte (k := 0) (by simp)
                simp only [List.getElem_cons_zero, Nat.add_zero] at hcell
                have hbW : b2 < w.heap.size := by
                  obtain ⟨a1, e1, e2⟩ := hA2 _ hA2'
                  have := hlt8 HBL.out a1 e1
                  simp only at e2
                  omega
                have hc2 := hb2.cap
                have hm1 : 1 ≤ m := by have := HM0.out; omega
                have hmm : m ≤ m2 := by omega
                have hmid := (hb2.from_ (k := 1) (by omega)).upto (k := m - 1) (by omega)
                have hsm := fun W => slice_mid A2 m2 c2 1 m hm1 (by have := hb2.1.len_cap; simp at this; omega) 1 (m : Int) rfl rfl W
                have hmb := map_blk (A := A2) (a2 := if c2 = 1 then A2 else A2.map (·.add 1)) rfl
                generalize (if c2 = 1 then A2 else A2.map (·.add 1)) = A6 at hmid hsm hmb
                have hend := hb2.from_ (k := m) hmm
                have hse := fun W => slice_from A2 m2 c2 m hmm (m : Int) rfl W
                have hme := map_blk (A := A2) (a2 := if c2 = m then A2 else A2.map (·.add m)) rfl
                generalize (if c2 = m then A2 else A2.map (·.add m)) = A7 at hend hse hme
                rw [← List.drop_take] at hmid
                subst hA2'
                have hx := x.toNat_lt
                have hrem : Int.tmod ((x.toNat : Nat) : Int) 128 = ((x.toNat % 128 : Nat) : Int) := rem_tab ⟨x.toNat, hx⟩
                generalize List.drop 1 (List.take m (x :: rs)) = body at HF hmid
                generalize List.drop m (x :: rs) = tail at HF hend
                obtain ⟨v, hv⟩ : ∃ v, x.toNat = v := ⟨_, rfl⟩
                rw [hv] at HF hcell hx hrem
                have hn0 : (0 : Int) < (m2 : Int) := by omega
                have hlit := own_lit w2.drew #[] [] rfl 0 rfl (by omega)
                have hbE := (Below.refl w2.drew.heap.size w2.drew).alloc (Nat.le_refl _) (.cells #[] 5)
                have k0 : w2.drew.cell? ⟨b2, o2, none⟩ = some (.int .u8 (v : Int)) := hcell
                have kE := (hbE.cell (p := ⟨b2, o2, none⟩) hbk2).trans k0
                have hbBE := below_then (hBB.drew) hBB.size hbE
                have hRow : ∀ i, Ao.map (·.block) = some i → w.heap.size ≤ i ∧ i < wr.heap.size := fun i e => by
                  cases Ao with
                  | none => cases e
                  | some ad => have e' : ad.block = i := by injection e
                               have := hown.blk ad rfl; omega
                have hownE : OwnSs (w2.drew.alloc (.cells #[] 5)) w.heap.size none Ao acc.length co acc := (hown.below hB2.drew).below hbE
                have hszr := hB2.size
                have hcm2 : 0 + (m - 1) ≤ 140737488355328 := by have := HSL.out; have := HBN.out; have := HN4.out; omega
                have kw : w.cell? ⟨b2, o2, none⟩ = some (.int .u8 (v : Int)) := (hBB.cell (p := ⟨b2, o2, none⟩) hbW).symm.trans hcell
                have hneX : ∀ {w3 : World} {c3 : Nat} (A3 : Option Addr), Own w3 w2.heap.size A3 (m - 1) c3 body → body ≠ [] → ∀ ad, A3 = some ad → some ad.block ≠ Ao.map (·.block) ∧ some ad.block ≠ none := fun A3 ho _ ad e => ⟨fun e2 => by
                  have h1 := (ho.blk ad e).1
                  have := hRow _ e2.symm
                  omega, fun e2 => by cases e2⟩
                have e5 : IntKind.i64.wrap ((v : Int) % 128) = ((v % 128 : Nat) : Int) := by rw [IntWalk.i64_in _ (by omega)]; omega
                have e6 : decide ((128 : Int) ≤ (v : Int)) = decide (128 ≤ v) := decide_eq_decide.mpr (by omega)
                rw [← e5, ← e6] at HF
                clear e5 e6
                go_region_held_law (fun w' => w'.cell? ⟨b2, o2, none⟩ = some (.int .u8 (v : Int))) (first | exact k0 | exact kE | exact K3.out | exact K4.out | exact K5.out) ((first
                  | (refine step_app8 (.tmp 43) (.tmp 46) (by rfl) (by rfl) (by rfl) hlit (by rfl) (hmid.drew.below hbE) hcm2 (by simp) ?_; intro A3 c3 w3 ho3 hg3 hat3; have ho3 : Own w3 w2.heap.size A3 (m - 1) c3 body := own_zero ho3; have hb3 : Below w2.drew.heap.size w2.drew w3 := below_lit hg3; have hB3 := below_then hBB.drew hBB.size hb3; have K3 := Lib.hid ((hB3.cell (p := ⟨b2, o2, none⟩) hbW).trans kw); have hba3 := (Below.refl w3.heap.size w3).alloc (Nat.le_refl _) (.cells #[.int .i64 (IntKind.i64.wrap ((v : Int) % 128)), .bool (decide ((128 : Int) ≤ (v : Int))), .slice A3 (m - 1) c3] 78); have hBX := below_then hB3 hB3.size hba3; have K4 := Lib.hid ((hBX.cell (p := ⟨b2, o2, none⟩) hbW).trans kw); have hoX := ((hown.below hB2.drew).below hb3).below hba3; have hsX := (ho3.below hba3).bs; have hnX := heap_alloc_new w3 (.cells #[.int .i64 (IntKind.i64.wrap ((v : Int) % 128)), .bool (decide ((128 : Int) ≤ (v : Int))), .slice A3 (m - 1) c3] 78))
                  | (refine stepSk (.tmp 33) (.tmp 49) (by rfl) (by rfl) (by rfl) hoX (IntKind.i64.wrap ((v : Int) % 128), decide ((128 : Int) ≤ (v : Int)), body) (by rfl) hnX hsX (hneX A3 ho3) (fun k e => by cases e) (by omega) hBX.size ?_; intro A5 c5 w5 ho5 hg5 hat5; have hB5 := hBX.grown hg5 hBX.size (fun i e => (hRow i e).1); have K5 := Lib.hid ((hB5.cell (p := ⟨b2, o2, none⟩) hbW).trans kw))))
                all_goals
                  go_wp2
                  go_roundw
                  case rel => exact ⟨A7, m2 - m, c2 - m, tail, A5, _, c5, _, rfl, rfl, by omega, by have := HSL.out; have := HBN.out; omega, (((hend.drew).below hb3).below hba3).grown8 hg5 (fun _ ad e e2 => by
                      obtain ⟨a1, ea, eb⟩ := hme ad e
                      cases ea
                      have := hRow _ e2.symm
                      simp only at eb
                      omega), fun _ ad e => by
                      obtain ⟨a1, ea, eb⟩ := hme ad e
                      cases ea
                      simp only at eb
                      omega, ho5, hB5, Lib.hid (by rw [show 41 - (acc.length + 1) = 40 - acc.length by omega]; exact HF.out)⟩
                  case measure => simp; omega
          · rw [if_pos hr0] at hS
            subst hS
            rw [if_neg hr0] at hf
            have HF := Lib.hid hf
            have hne : (r != 0) = true := by rw [bne_iff_ne]; exact hr0
            have H0 := Lib.hid hr0
            clear hf hr0
            go_wp2_with (go_at_call 54; refine HC.out.mono ?_; rintro e w2 ⟨A2, m2, c2, r2, rfl, hb2, hA2, hr2, hB2⟩; obtain rfl : r2 = r := hr2; have hBB := below_then hbr hbr.size hB2)
            go_ret2
            rw [ht.out, ← HF.out]
            exact ⟨_, _, _, _, rfl, OwnSs.nil_ _ _ _, rfl, hBB⟩
end Go.Proofs.Ytegbncngencfnaa
