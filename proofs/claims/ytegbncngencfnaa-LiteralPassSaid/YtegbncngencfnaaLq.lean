/- The document's EmitPass. -/
import Derived.Test.YtegbncngencfnaaLg
import Derived.Test.YtegbncngencfnaaBx
import Derived.Test.YtegbncngencfnaaLe
namespace Go.Proofs.Ytegbncngencfnaa
open Go.RowKit

def EmitPassPost (x : List UInt8 × Int) (w : World) (e : Ending) (w' : World) : Prop := ∃ A' m' c' r, e = .returned (.tuple #[.slice A' m' c', .int .i64 r]) ∧ Own w' w.heap.size A' m' c' x.1 ∧ r = x.2 ∧ Below w.heap.size w w'
theorem emitP_not {v ty ha pu : Int} {salt iss : List UInt8} (la : Bool) (h : ¬ okP v ty ha pu salt iss) : emitP v ty ha pu salt iss la = ([], 1) := by rw [emitP, if_neg h]
theorem sizeS3 (ha : Int) : sizeS 3 ha = (0, 8, true) := rfl
theorem sizeS6 (ha : Int) : sizeS 6 ha = (saltS ha, 32, true) := rfl
theorem sizeSn {v ha : Int} (h3 : v ≠ 3) (h6 : v ≠ 6) : sizeS v ha = (0, 0, false) := by rw [sizeS, if_neg h3, if_neg h6]

set_option maxRecDepth 100000 in
set_option maxHeartbeats 3200000 in
theorem rEmitPass_no (v ty ha pu : Int) {As Ai : Option Addr} {ns cs ni ci : Nat} {salt iss : List UInt8} (la : Bool) {w : World} (hs : Bs w As ns cs salt) (hi : Bs w Ai ni ci iss) (h3 : v ≠ 3) (h6 : v ≠ 6) :
    Calls Try.prog 46 #[.agg #[.int .i64 v, .int .i64 ty, .int .i64 ha, .int .i64 pu, .slice As ns cs, .slice Ai ni ci, .bool la]] w (EmitPassPost (emitP v ty ha pu salt iss la) w) := by
  have d3 : (v != 3) = true := by rw [bne_iff_ne]; exact h3
  have d6 : (v != 6) = true := by rw [bne_iff_ne]; exact h6
  have HE := Lib.hid (show emitP v ty ha pu salt iss la = ([], 1) from emitP_not la (fun hk => by have h1 := hk.1; rw [sizeSn h3 h6] at h1; simp at h1))
  clear h3 h6
  go_enter Try.func46, Try.ntmps46
  go_upto_region 1 with fail
  go_name_world w1 hw1
  have H1 : Box w w1 45 #[.int .i64 v, .int .i64 ty, .int .i64 ha, .int .i64 pu, .slice As ns cs, .slice Ai ni ci, .bool la] := Box.mk_ hw1
  clear hw1
  have k0 : w1.cell? ⟨w.heap.size, 0, none⟩ = some (.int .i64 v) := H1.cell 0
  have k1 : w1.cell? ⟨w.heap.size, 1, none⟩ = some (.int .i64 ty) := H1.cell 1
  have k2 : w1.cell? ⟨w.heap.size, 2, none⟩ = some (.int .i64 ha) := H1.cell 2
  have k3 : w1.cell? ⟨w.heap.size, 3, none⟩ = some (.int .i64 pu) := H1.cell 3
  have k4 : w1.cell? ⟨w.heap.size, 4, none⟩ = some (.slice As ns cs) := H1.cell 4
  have k5 : w1.cell? ⟨w.heap.size, 5, none⟩ = some (.slice Ai ni ci) := H1.cell 5
  have k6 : w1.cell? ⟨w.heap.size, 6, none⟩ = some (.bool la) := H1.cell 6
  go_wp2_with (first | (go_at_call 67; refine (HM.out _).mono ?_; rintro e wq ⟨rfl, rfl⟩) | (go_at_call 68; refine (HP.out _).mono ?_; rintro e wq ⟨rfl, rfl⟩))
  go_ret2
  unfold EmitPassPost
  rw [HE.out]
  exact ⟨_, _, _, _, rfl, Own.nil_ _ _, rfl, H1.B⟩

set_option maxRecDepth 100000 in
set_option maxHeartbeats 3200000 in
theorem rEmitPass_three (ty ha pu : Int) {As Ai : Option Addr} {ns cs ni ci : Nat} {salt iss : List UInt8} (la : Bool) {w : World} (hs : Bs w As ns cs salt) (hi : Bs w Ai ni ci iss) :
    Calls Try.prog 46 #[.agg #[.int .i64 3, .int .i64 ty, .int .i64 ha, .int .i64 pu, .slice As ns cs, .slice Ai ni ci, .bool la]] w (EmitPassPost (emitP 3 ty ha pu salt iss la) w) := by
  have HM := Lib.hid (fun W => rhashed_calls ha 3 W)
  have HP := Lib.hid (fun W => rpub_calls pu W)
  have HK := Lib.hid (fun W => show Calls Try.prog 69 #[.int .i64 ha] W fun e w' => e = .returned (.int .i64 (saltS ha)) ∧ w' = W from (rSaltSize_calls ha W).mono fun _ _ h => ⟨h.1, h.2.symm⟩)
  go_enter Try.func46, Try.ntmps46
  go_upto_region 1 with fail
  go_name_world w1 hw1
  have H1 : Box w w1 45 #[.int .i64 3, .int .i64 ty, .int .i64 ha, .int .i64 pu, .slice As ns cs, .slice Ai ni ci, .bool la] := Box.mk_ hw1
  clear hw1
  have k0 : w1.cell? ⟨w.heap.size, 0, none⟩ = some (.int .i64 3) := H1.cell 0
  have k1 : w1.cell? ⟨w.heap.size, 1, none⟩ = some (.int .i64 ty) := H1.cell 1
  have k2 : w1.cell? ⟨w.heap.size, 2, none⟩ = some (.int .i64 ha) := H1.cell 2
  have k3 : w1.cell? ⟨w.heap.size, 3, none⟩ = some (.int .i64 pu) := H1.cell 3
  have k4 : w1.cell? ⟨w.heap.size, 4, none⟩ = some (.slice As ns cs) := H1.cell 4
  have k5 : w1.cell? ⟨w.heap.size, 5, none⟩ = some (.slice Ai ni ci) := H1.cell 5
  have k6 : w1.cell? ⟨w.heap.size, 6, none⟩ = some (.bool la) := H1.cell 6
  by_cases ht0 : ty < 0
  · have HE := Lib.hid (show emitP 3 ty ha pu salt iss la = ([], 1) from emitP_not la (fun hk => by have := hk.2.1; omega))
    have d1 : decide (ty < 0) = true := decide_eq_true ht0
    clear ht0
    go_wp2_with (first | (go_at_call 67; refine (HM.out _).mono ?_; rintro e wq ⟨rfl, rfl⟩) | (go_at_call 68; refine (HP.out _).mono ?_; rintro e wq ⟨rfl, rfl⟩))
    go_ret2
    unfold EmitPassPost
    rw [HE.out]
    exact ⟨_, _, _, _, rfl, Own.nil_ _ _, rfl, H1.B⟩
  have d1 : decide (ty < 0) = false := decide_eq_false ht0
  by_cases ht1 : 255 < ty
  · have HE := Lib.hid (show emitP 3 ty ha pu salt iss la = ([], 1) from emitP_not la (fun hk => by have := hk.2.2.1; omega))
    have d2 : decide (255 < ty) = true := decide_eq_true ht1
    clear ht0 ht1
    go_wp2_with (first | (go_at_call 67; refine (HM.out _).mono ?_; rintro e wq ⟨rfl, rfl⟩) | (go_at_call 68; refine (HP.out _).mono ?_; rintro e wq ⟨rfl, rfl⟩))
    go_ret2
    unfold EmitPassPost
    rw [HE.out]
    exact ⟨_, _, _, _, rfl, Own.nil_ _ _, rfl, H1.B⟩
  have d2 : decide (255 < ty) = false := decide_eq_false ht1
  by_cases hm : mayS ha 3 = true
  rotate_left
  · have HE := Lib.hid (show emitP 3 ty ha pu salt iss la = ([], 1) from emitP_not la (fun hk => by exact hm hk.2.2.2.1))
    have hm2 : mayS ha 3 = false := by simpa using hm
    rw [hm2] at HM
    clear ht0 ht1 hm hm2
    go_wp2_with (first | (go_at_call 67; refine (HM.out _).mono ?_; rintro e wq ⟨rfl, rfl⟩) | (go_at_call 68; refine (HP.out _).mono ?_; rintro e wq ⟨rfl, rfl⟩))
    go_ret2
    unfold EmitPassPost
    rw [HE.out]
    exact ⟨_, _, _, _, rfl, Own.nil_ _ _, rfl, H1.B⟩
  have Hm := Lib.hid hm
  rw [hm] at HM
  clear hm
  by_cases hp : pubS pu = true
  rotate_left
  · have HE := Lib.hid (show emitP 3 ty ha pu salt iss la = ([], 1) from emitP_not la (fun hk => by exact hp hk.2.2.2.2.1))
    have hp2 : pubS pu = false := by simpa using hp
    rw [hp2] at HP
    clear ht0 ht1 hp hp2
    go_wp2_with (first | (go_at_call 67; refine (HM.out _).mono ?_; rintro e wq ⟨rfl, rfl⟩) | (go_at_call 68; refine (HP.out _).mono ?_; rintro e wq ⟨rfl, rfl⟩))
    go_ret2
    unfold EmitPassPost
    rw [HE.out]
    exact ⟨_, _, _, _, rfl, Own.nil_ _ _, rfl, H1.B⟩
  have Hp := Lib.hid hp
  rw [hp] at HP
  clear hp
  obtain ⟨hh0, hh1⟩ := may_nat Hm.out
  obtain ⟨hp0, hp1⟩ := pub_nat Hp.out
  obtain ⟨t, hT⟩ := Int.eq_ofNat_of_zero_le (show 0 ≤ ty by omega)
  obtain ⟨hn, hN⟩ := Int.eq_ofNat_of_zero_le hh0
  obtain ⟨pn, hP⟩ := Int.eq_ofNat_of_zero_le hp0
  have m1 : ty % 256 = (t : Int) := by omega
  have m2 : ha % 256 = (hn : Int) := by omega
  have m3 : pu % 256 = (pn : Int) := by omega
  have HL0 := Lib.hid (bvs4 3 t hn pn (by omega) (by omega) (by omega) (by omega))
  have HT := Lib.hid (show t = ty.toNat ∧ hn = ha.toNat ∧ pn = pu.toNat by omega)
  have Ht := Lib.hid (show 0 ≤ ty ∧ ty ≤ 255 by omega)
  clear ht0 ht1 hh0 hh1 hp0 hp1 hT hN hP
  go_upto_region 4 with (first | (go_at_call 67; refine (HM.out _).mono ?_; rintro e wq ⟨rfl, rfl⟩) | (go_at_call 68; refine (HP.out _).mono ?_; rintro e wq ⟨rfl, rfl⟩))
  go_name_world w2 hw2
  clear m1 m2 m3 d1 d2 HM HP
  have hbl := (Below.refl w1.heap.size w1).alloc (Nat.le_refl _) (.cells #[.int .u8 3, .int .u8 (t : Int), .int .u8 (hn : Int), .int .u8 (pn : Int)] 5)
  have ho2 := own_lit w1 #[.int .u8 3, .int .u8 (t : Int), .int .u8 (hn : Int), .int .u8 (pn : Int)] [UInt8.ofNat 3, UInt8.ofNat t, UInt8.ofNat hn, UInt8.ofNat pn] HL0.out 4 rfl (by omega)
  rw [hw2] at hbl ho2
  have H2 := H1.below hbl
  have hsz := hbl.size
  have hlt := H1.lt
  clear hw2 hbl k0 k1 k2 k3 k4 k5 k6 H1
  have k0 : w2.cell? ⟨w.heap.size, 0, none⟩ = some (.int .i64 3) := H2.cell 0
  have k1 : w2.cell? ⟨w.heap.size, 1, none⟩ = some (.int .i64 ty) := H2.cell 1
  have k2 : w2.cell? ⟨w.heap.size, 2, none⟩ = some (.int .i64 ha) := H2.cell 2
  have k3 : w2.cell? ⟨w.heap.size, 3, none⟩ = some (.int .i64 pu) := H2.cell 3
  have k4 : w2.cell? ⟨w.heap.size, 4, none⟩ = some (.slice As ns cs) := H2.cell 4
  have k5 : w2.cell? ⟨w.heap.size, 5, none⟩ = some (.slice Ai ni ci) := H2.cell 5
  have k6 : w2.cell? ⟨w.heap.size, 6, none⟩ = some (.bool la) := H2.cell 6
  by_cases hns : ns = 0
  rotate_left
  · have HE := Lib.hid (show emitP 3 ty ha pu salt iss la = ([], 1) from emitP_not la (fun hk => by have h3 := hk.2.2.2.2.2.1; rw [sizeS3] at h3; have h2 := hs.2; simp only at h3; omega))
    have d4 : decide ((0 : Int) < (ns : Int)) = true := decide_eq_true (by omega)
    have d4n : decide (0 < ns) = true := decide_eq_true (by omega)
    clear hns
    go_quiet (((go_at_call 69; exact Calls.quiet_of_same (HK.out _))))
    go_wp2
    go_ret2
    unfold EmitPassPost
    rw [HE.out]
    exact ⟨_, _, _, _, rfl, Own.nil_ _ _, rfl, below_drewN H2.B _⟩
  by_cases hni : ni = 8
  rotate_left
  · have HE := Lib.hid (show emitP 3 ty ha pu salt iss la = ([], 1) from emitP_not la (fun hk => by have h3 := hk.2.2.2.2.2.2; rw [sizeS3] at h3; have h2 := hi.2; simp only at h3; omega))
    have d4 : decide ((0 : Int) < (ns : Int)) = false := decide_eq_false (by omega)
    have d4n : decide (0 < ns) = false := decide_eq_false (by omega)
    have d5 : ((ni : Int) != 8) = true := by rw [bne_iff_ne]; omega
    clear hns hni
    go_quiet (((go_at_call 69; exact Calls.quiet_of_same (HK.out _))))
    go_wp2
    go_ret2
    unfold EmitPassPost
    rw [HE.out]
    exact ⟨_, _, _, _, rfl, Own.nil_ _ _, rfl, below_drewN H2.B _⟩
  have d4 : decide ((0 : Int) < (ns : Int)) = false := decide_eq_false (by omega)
  have d4n : decide (0 < ns) = false := decide_eq_false (by omega)
  have d5 : ((ni : Int) != 8) = false := by rw [bne_eq_false_iff_eq]; omega
  have HE := Lib.hid (show emitP 3 ty ha pu salt iss la = ([UInt8.ofNat 3, UInt8.ofNat ty.toNat, UInt8.ofNat ha.toNat, UInt8.ofNat pu.toNat] ++ iss ++ [if la then 1 else 0], 0) by
    rw [emitP, if_pos ⟨rfl, Ht.out.1, Ht.out.2, Hm.out, Hp.out, by rw [sizeS3]; have := hs.2; show (salt.length : Int) = 0; omega, by rw [sizeS3]; have := hi.2; show (iss.length : Int) = 8; omega⟩, saltB, if_neg (by omega), List.append_nil]
    rfl)
  have hni8 : ni ≤ 8 := by omega
  have HB2 := Lib.hid H2.B
  clear hns hni
  go_quiet (((go_at_call 69; exact Calls.quiet_of_same (HK.out _))))
  have H3 := H2.drewN nq
  have ho3 := own_drewN ho2 nq
  have hsz3 : w1.heap.size ≤ (w2.drewN nq).heap.size := hsz
  generalize w2.drewN nq = w3 at H3 ho3 hsz3 ⊢
  clear k0 k1 k2 k3 k4 k5 k6 d4 d4n d5 HK
  have k0 : w3.cell? ⟨w.heap.size, 0, none⟩ = some (.int .i64 3) := H3.cell 0
  have k5 : w3.cell? ⟨w.heap.size, 5, none⟩ = some (.slice Ai ni ci) := H3.cell 5
  have hsz9 : w1.heap.size ≤ w3.heap.size := hsz3
  have hi9 := H3.bs hi
  go_upto_region 10 with (at_builtin; refine app8 (.tmp 99) (.tmp 101) rfl rfl rfl ho3 rfl hi9 (by omega) hsz9 ?_; intro A8 c8 w8 ho8 hg8 hat8)
  have H8 := H3.app ho3 hlt hg8
  have k6 : w8.cell? ⟨w.heap.size, 6, none⟩ = some (.bool la) := H8.cell 6
  have hsz8 : w1.heap.size ≤ w8.heap.size := Nat.le_trans hsz9 hg8.size
  clear k0 k5 hsz9 hi9 hg8 hat8 H3 ho3
  go_upto_if 104 with fail
  clear k6
  by_cases hla : la = true
  · have hl2 : la = true := by simpa using hla
    rw [hl2]
    have Hl2 := Lib.hid hl2
    have HE2 := Lib.hid (hl2 ▸ HE.out)
    clear hla hl2
    go_wp2_with (at_builtin; refine app8_one (.tmp 105) (.tmp 106) rfl rfl rfl ho8 [1] _ rfl 1 rfl rfl (by omega) hsz8 ?_; intro A9 c9 w9 ho9 hg9 hat9)
    go_ret2
    unfold EmitPassPost
    first | rw [HE.out, Hl2.out, ← HT.out.1, ← HT.out.2.1, ← HT.out.2.2] | rw [HE2.out, ← HT.out.1, ← HT.out.2.1, ← HT.out.2.2]
    exact ⟨_, _, _, _, rfl, by simpa using ho9.lower (Nat.le_of_lt hlt), rfl, (H8.app ho8 hlt hg9).B⟩
  · have hl2 : la = false := by simpa using hla
    rw [hl2]
    have Hl2 := Lib.hid hl2
    have HE2 := Lib.hid (hl2 ▸ HE.out)
    clear hla hl2
    go_wp2_with (at_builtin; refine app8_one (.tmp 108) (.tmp 109) rfl rfl rfl ho8 [0] _ rfl 1 rfl rfl (by omega) hsz8 ?_; intro A9 c9 w9 ho9 hg9 hat9)
    go_ret2
    unfold EmitPassPost
    first | rw [HE.out, Hl2.out, ← HT.out.1, ← HT.out.2.1, ← HT.out.2.2] | rw [HE2.out, ← HT.out.1, ← HT.out.2.1, ← HT.out.2.2]
    exact ⟨_, _, _, _, rfl, by simpa using ho9.lower (Nat.le_of_lt hlt), rfl, (H8.app ho8 hlt hg9).B⟩

set_option maxRecDepth 100000 in
set_option maxHeartbeats 3200000 in
theorem rEmitPass_six (ty ha pu : Int) {As Ai : Option Addr} {ns cs ni ci : Nat} {salt iss : List UInt8} (la : Bool) {w : World} (hs : Bs w As ns cs salt) (hi : Bs w Ai ni ci iss) :
    Calls Try.prog 46 #[.agg #[.int .i64 6, .int .i64 ty, .int .i64 ha, .int .i64 pu, .slice As ns cs, .slice Ai ni ci, .bool la]] w (EmitPassPost (emitP 6 ty ha pu salt iss la) w) := by
  have HM := Lib.hid (fun W => rhashed_calls ha 6 W)
  have HP := Lib.hid (fun W => rpub_calls pu W)
  have HK := Lib.hid (fun W => show Calls Try.prog 69 #[.int .i64 ha] W fun e w' => e = .returned (.int .i64 (saltS ha)) ∧ w' = W from (rSaltSize_calls ha W).mono fun _ _ h => ⟨h.1, h.2.symm⟩)
  go_enter Try.func46, Try.ntmps46
  go_upto_region 1 with fail
  go_name_world w1 hw1
  have H1 : Box w w1 45 #[.int .i64 6, .int .i64 ty, .int .i64 ha, .int .i64 pu, .slice As ns cs, .slice Ai ni ci, .bool la] := Box.mk_ hw1
  clear hw1
  have k0 : w1.cell? ⟨w.heap.size, 0, none⟩ = some (.int .i64 6) := H1.cell 0
  have k1 : w1.cell? ⟨w.heap.size, 1, none⟩ = some (.int .i64 ty) := H1.cell 1
  have k2 : w1.cell? ⟨w.heap.size, 2, none⟩ = some (.int .i64 ha) := H1.cell 2
  have k3 : w1.cell? ⟨w.heap.size, 3, none⟩ = some (.int .i64 pu) := H1.cell 3
  have k4 : w1.cell? ⟨w.heap.size, 4, none⟩ = some (.slice As ns cs) := H1.cell 4
  have k5 : w1.cell? ⟨w.heap.size, 5, none⟩ = some (.slice Ai ni ci) := H1.cell 5
  have k6 : w1.cell? ⟨w.heap.size, 6, none⟩ = some (.bool la) := H1.cell 6
  by_cases ht0 : ty < 0
  · have HE := Lib.hid (show emitP 6 ty ha pu salt iss la = ([], 1) from emitP_not la (fun hk => by have := hk.2.1; omega))
    have d1 : decide (ty < 0) = true := decide_eq_true ht0
    clear ht0
    go_wp2_with (first | (go_at_call 67; refine (HM.out _).mono ?_; rintro e wq ⟨rfl, rfl⟩) | (go_at_call 68; refine (HP.out _).mono ?_; rintro e wq ⟨rfl, rfl⟩))
    go_ret2
    unfold EmitPassPost
    rw [HE.out]
    exact ⟨_, _, _, _, rfl, Own.nil_ _ _, rfl, H1.B⟩
  have d1 : decide (ty < 0) = false := decide_eq_false ht0
  by_cases ht1 : 255 < ty
  · have HE := Lib.hid (show emitP 6 ty ha pu salt iss la = ([], 1) from emitP_not la (fun hk => by have := hk.2.2.1; omega))
    have d2 : decide (255 < ty) = true := decide_eq_true ht1
    clear ht0 ht1
    go_wp2_with (first | (go_at_call 67; refine (HM.out _).mono ?_; rintro e wq ⟨rfl, rfl⟩) | (go_at_call 68; refine (HP.out _).mono ?_; rintro e wq ⟨rfl, rfl⟩))
    go_ret2
    unfold EmitPassPost
    rw [HE.out]
    exact ⟨_, _, _, _, rfl, Own.nil_ _ _, rfl, H1.B⟩
  have d2 : decide (255 < ty) = false := decide_eq_false ht1
  by_cases hm : mayS ha 6 = true
  rotate_left
  · have HE := Lib.hid (show emitP 6 ty ha pu salt iss la = ([], 1) from emitP_not la (fun hk => by exact hm hk.2.2.2.1))
    have hm2 : mayS ha 6 = false := by simpa using hm
    rw [hm2] at HM
    clear ht0 ht1 hm hm2
    go_wp2_with (first | (go_at_call 67; refine (HM.out _).mono ?_; rintro e wq ⟨rfl, rfl⟩) | (go_at_call 68; refine (HP.out _).mono ?_; rintro e wq ⟨rfl, rfl⟩))
    go_ret2
    unfold EmitPassPost
    rw [HE.out]
    exact ⟨_, _, _, _, rfl, Own.nil_ _ _, rfl, H1.B⟩
  have Hm := Lib.hid hm
  rw [hm] at HM
  clear hm
  by_cases hp : pubS pu = true
  rotate_left
  · have HE := Lib.hid (show emitP 6 ty ha pu salt iss la = ([], 1) from emitP_not la (fun hk => by exact hp hk.2.2.2.2.1))
    have hp2 : pubS pu = false := by simpa using hp
    rw [hp2] at HP
    clear ht0 ht1 hp hp2
    go_wp2_with (first | (go_at_call 67; refine (HM.out _).mono ?_; rintro e wq ⟨rfl, rfl⟩) | (go_at_call 68; refine (HP.out _).mono ?_; rintro e wq ⟨rfl, rfl⟩))
    go_ret2
    unfold EmitPassPost
    rw [HE.out]
    exact ⟨_, _, _, _, rfl, Own.nil_ _ _, rfl, H1.B⟩
  have Hp := Lib.hid hp
  rw [hp] at HP
  clear hp
  obtain ⟨hh0, hh1⟩ := may_nat Hm.out
  obtain ⟨hp0, hp1⟩ := pub_nat Hp.out
  obtain ⟨t, hT⟩ := Int.eq_ofNat_of_zero_le (show 0 ≤ ty by omega)
  obtain ⟨hn, hN⟩ := Int.eq_ofNat_of_zero_le hh0
  obtain ⟨pn, hP⟩ := Int.eq_ofNat_of_zero_le hp0
  have m1 : ty % 256 = (t : Int) := by omega
  have m2 : ha % 256 = (hn : Int) := by omega
  have m3 : pu % 256 = (pn : Int) := by omega
  have HL0 := Lib.hid (bvs4 6 t hn pn (by omega) (by omega) (by omega) (by omega))
  have HT := Lib.hid (show t = ty.toNat ∧ hn = ha.toNat ∧ pn = pu.toNat by omega)
  have Ht := Lib.hid (show 0 ≤ ty ∧ ty ≤ 255 by omega)
  clear ht0 ht1 hh0 hh1 hp0 hp1 hT hN hP
  go_upto_region 4 with (first | (go_at_call 67; refine (HM.out _).mono ?_; rintro e wq ⟨rfl, rfl⟩) | (go_at_call 68; refine (HP.out _).mono ?_; rintro e wq ⟨rfl, rfl⟩))
  go_name_world w2 hw2
  clear m1 m2 m3 d1 d2 HM HP
  have hbl := (Below.refl w1.heap.size w1).alloc (Nat.le_refl _) (.cells #[.int .u8 6, .int .u8 (t : Int), .int .u8 (hn : Int), .int .u8 (pn : Int)] 5)
  have ho2 := own_lit w1 #[.int .u8 6, .int .u8 (t : Int), .int .u8 (hn : Int), .int .u8 (pn : Int)] [UInt8.ofNat 6, UInt8.ofNat t, UInt8.ofNat hn, UInt8.ofNat pn] HL0.out 4 rfl (by omega)
  rw [hw2] at hbl ho2
  have H2 := H1.below hbl
  have hsz := hbl.size
  have hlt := H1.lt
  clear hw2 hbl k0 k1 k2 k3 k4 k5 k6 H1
  have k0 : w2.cell? ⟨w.heap.size, 0, none⟩ = some (.int .i64 6) := H2.cell 0
  have k1 : w2.cell? ⟨w.heap.size, 1, none⟩ = some (.int .i64 ty) := H2.cell 1
  have k2 : w2.cell? ⟨w.heap.size, 2, none⟩ = some (.int .i64 ha) := H2.cell 2
  have k3 : w2.cell? ⟨w.heap.size, 3, none⟩ = some (.int .i64 pu) := H2.cell 3
  have k4 : w2.cell? ⟨w.heap.size, 4, none⟩ = some (.slice As ns cs) := H2.cell 4
  have k5 : w2.cell? ⟨w.heap.size, 5, none⟩ = some (.slice Ai ni ci) := H2.cell 5
  have k6 : w2.cell? ⟨w.heap.size, 6, none⟩ = some (.bool la) := H2.cell 6
  by_cases hns : (ns : Int) = saltS ha
  rotate_left
  · have HE := Lib.hid (show emitP 6 ty ha pu salt iss la = ([], 1) from emitP_not la (fun hk => by have h3 := hk.2.2.2.2.2.1; rw [sizeS6] at h3; have h2 := hs.2; simp only at h3; omega))
    have d4 : ((ns : Int) != saltS ha) = true := by rw [bne_iff_ne]; exact hns
    have d6 : saltS ha = saltS ha := rfl
    clear hns d6
    generalize saltS ha = sz at HK d4
    go_quiet (((go_at_call 69; exact Calls.quiet_of_same (HK.out _))))
    go_wp2
    go_ret2
    unfold EmitPassPost
    rw [HE.out]
    exact ⟨_, _, _, _, rfl, Own.nil_ _ _, rfl, below_drewN H2.B _⟩
  by_cases hni : ni = 32
  rotate_left
  · have HE := Lib.hid (show emitP 6 ty ha pu salt iss la = ([], 1) from emitP_not la (fun hk => by have h3 := hk.2.2.2.2.2.2; rw [sizeS6] at h3; have h2 := hi.2; simp only at h3; omega))
    have d4 : ((ns : Int) != saltS ha) = false := by rw [bne_eq_false_iff_eq]; exact hns
    have d5 : ((ni : Int) != 32) = true := by rw [bne_iff_ne]; omega
    clear hns hni
    generalize saltS ha = sz at HK d4
    go_quiet (((go_at_call 69; exact Calls.quiet_of_same (HK.out _))))
    go_wp2
    go_ret2
    unfold EmitPassPost
    rw [HE.out]
    exact ⟨_, _, _, _, rfl, Own.nil_ _ _, rfl, below_drewN H2.B _⟩
  have d4 : ((ns : Int) != saltS ha) = false := by rw [bne_eq_false_iff_eq]; exact hns
  have d5 : ((ni : Int) != 32) = false := by rw [bne_eq_false_iff_eq]; omega
  have HE := Lib.hid (show emitP 6 ty ha pu salt iss la = ([UInt8.ofNat 6, UInt8.ofNat ty.toNat, UInt8.ofNat ha.toNat, UInt8.ofNat pu.toNat] ++ (UInt8.ofNat ns :: salt) ++ iss ++ [if la then 1 else 0], 0) by
    rw [emitP, if_pos ⟨rfl, Ht.out.1, Ht.out.2, Hm.out, Hp.out, by rw [sizeS6]; have := hs.2; show (salt.length : Int) = saltS ha; omega, by rw [sizeS6]; have := hi.2; show (iss.length : Int) = 32; omega⟩, saltB, if_pos rfl, hs.2]
    rfl)
  have hni8 : ni ≤ 32 := by omega
  have hns8 : ns ≤ 32 := by have := saltS_range ha; omega
  have HB2 := Lib.hid H2.B
  clear hns hni
  generalize saltS ha = sz at HK d4
  go_quiet (((go_at_call 69; exact Calls.quiet_of_same (HK.out _))))
  have H3 := H2.drewN nq
  have ho3 := own_drewN ho2 nq
  have hsz3 : w1.heap.size ≤ (w2.drewN nq).heap.size := hsz
  generalize w2.drewN nq = w3 at H3 ho3 hsz3 ⊢
  clear k0 k1 k2 k3 k4 k5 k6 d4 d5 HK
  have k0 : w3.cell? ⟨w.heap.size, 0, none⟩ = some (.int .i64 6) := H3.cell 0
  have k4 : w3.cell? ⟨w.heap.size, 4, none⟩ = some (.slice As ns cs) := H3.cell 4
  have m5 : IntKind.u8.wrap (ns : Int) = (ns : Int) := by rw [IntKind.wrap_u8']; omega
  have m6 : (ns : Int) % 256 = (ns : Int) := by omega
  have HLN := Lib.hid (bvs1a ns (by omega))
  go_upto_region 8 with (at_builtin; refine app8_one (.tmp 88) (.tmp 93) rfl rfl rfl ho3 [UInt8.ofNat ns] _ HLN.out 1 rfl rfl (by omega) hsz3 ?_; intro A6 c6 w6 ho6 hg6 hat6)
  have H6 := H3.app ho3 hlt hg6
  have hsz6 : w1.heap.size ≤ w6.heap.size := Nat.le_trans hsz3 hg6.size
  have hs6 := H6.bs hs
  have k4 : w6.cell? ⟨w.heap.size, 4, none⟩ = some (.slice As ns cs) := H6.cell 4
  clear k0 m5 m6 hg6 hat6 H3 ho3 hsz3
  go_upto_region 9 with (at_builtin; refine app8 (.tmp 95) (.tmp 97) rfl rfl rfl ho6 rfl hs6 (by omega) hsz6 ?_; intro A7 c7 w7 ho7 hg7 hat7)
  have H7 := H6.app ho6 hlt hg7
  have hsz7 : w1.heap.size ≤ w7.heap.size := Nat.le_trans hsz6 hg7.size
  clear k4 hg7 hat7 H6 ho6 hsz6 hs6
  have k0 : w7.cell? ⟨w.heap.size, 0, none⟩ = some (.int .i64 6) := H7.cell 0
  have k5 : w7.cell? ⟨w.heap.size, 5, none⟩ = some (.slice Ai ni ci) := H7.cell 5
  have hsz9 : w1.heap.size ≤ w7.heap.size := hsz7
  have hi9 := H7.bs hi
  go_upto_region 10 with (at_builtin; refine app8 (.tmp 99) (.tmp 101) rfl rfl rfl ho7 rfl hi9 (by omega) hsz9 ?_; intro A8 c8 w8 ho8 hg8 hat8)
  have H8 := H7.app ho7 hlt hg8
  have k6 : w8.cell? ⟨w.heap.size, 6, none⟩ = some (.bool la) := H8.cell 6
  have hsz8 : w1.heap.size ≤ w8.heap.size := Nat.le_trans hsz9 hg8.size
  clear k0 k5 hsz9 hi9 hg8 hat8 H7 ho7
  go_upto_if 104 with fail
  clear k6
  by_cases hla : la = true
  · have hl2 : la = true := by simpa using hla
    rw [hl2]
    have Hl2 := Lib.hid hl2
    have HE2 := Lib.hid (hl2 ▸ HE.out)
    clear hla hl2
    go_wp2_with (at_builtin; refine app8_one (.tmp 105) (.tmp 106) rfl rfl rfl ho8 [1] _ rfl 1 rfl rfl (by omega) hsz8 ?_; intro A9 c9 w9 ho9 hg9 hat9)
    go_ret2
    unfold EmitPassPost
    first | rw [HE.out, Hl2.out, ← HT.out.1, ← HT.out.2.1, ← HT.out.2.2] | rw [HE2.out, ← HT.out.1, ← HT.out.2.1, ← HT.out.2.2]
    exact ⟨_, _, _, _, rfl, by simpa using ho9.lower (Nat.le_of_lt hlt), rfl, (H8.app ho8 hlt hg9).B⟩
  · have hl2 : la = false := by simpa using hla
    rw [hl2]
    have Hl2 := Lib.hid hl2
    have HE2 := Lib.hid (hl2 ▸ HE.out)
    clear hla hl2
    go_wp2_with (at_builtin; refine app8_one (.tmp 108) (.tmp 109) rfl rfl rfl ho8 [0] _ rfl 1 rfl rfl (by omega) hsz8 ?_; intro A9 c9 w9 ho9 hg9 hat9)
    go_ret2
    unfold EmitPassPost
    first | rw [HE.out, Hl2.out, ← HT.out.1, ← HT.out.2.1, ← HT.out.2.2] | rw [HE2.out, ← HT.out.1, ← HT.out.2.1, ← HT.out.2.2]
    exact ⟨_, _, _, _, rfl, by simpa using ho9.lower (Nat.le_of_lt hlt), rfl, (H8.app ho8 hlt hg9).B⟩

set_option maxRecDepth 100000 in
set_option maxHeartbeats 3200000 in
theorem rEmitPass_calls (v ty ha pu : Int) {As Ai : Option Addr} {ns cs ni ci : Nat} {salt iss : List UInt8} (la : Bool) {w : World} (hs : Bs w As ns cs salt) (hi : Bs w Ai ni ci iss) :
    Calls Try.prog 46 #[.agg #[.int .i64 v, .int .i64 ty, .int .i64 ha, .int .i64 pu, .slice As ns cs, .slice Ai ni ci, .bool la]] w (EmitPassPost (emitP v ty ha pu salt iss la) w) := by
  by_cases h3 : v = 3
  · subst h3; exact rEmitPass_three ty ha pu la hs hi
  · by_cases h6 : v = 6
    · subst h6; exact rEmitPass_six ty ha pu la hs hi
    · exact rEmitPass_no v ty ha pu la hs hi h3 h6
end Go.Proofs.Ytegbncngencfnaa
