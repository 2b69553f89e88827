/- bytes.Equal; whether a signature is small; whether a one-pass packet fits a signature. -/
import Derived.Test.YtegbncngencfnaaOv
import Derived.Test.YtegbncngencfnaaBx
import Derived.Test.YtegbncngencfnaaSi
namespace Go.Proofs.Ytegbncngencfnaa
open Go.RowKit

set_option maxHeartbeats 800000 in
theorem Equal_calls {A B : Option Addr} {n c m d : Nat} {l k : List UInt8} {w : World} (h : Bs w A n c l) (g : Bs w B m d k) :
    Calls Try.prog 78 #[.slice A n c, .slice B m d] w fun e w' => e = .returned (.bool (decide (l = k))) ∧ w = w' := by
  have h1 := h.str
  have h2 := g.str
  have HE := Lib.hid (strOf_inj (a := l) (b := k))
  generalize strOf l = x at h1 HE
  generalize strOf k = y at h2 HE
  go_enter Try.func78, Try.ntmps78
  go_wp2
  go_ret
  refine ⟨?_, rfl⟩
  have he : (x.toList == y.toList) = decide (l = k) := by
    by_cases hxy : x = y
    · rw [decide_eq_true (HE.out.1 hxy), hxy]
      exact beq_self_eq_true _
    · rw [decide_eq_false (fun h => hxy (HE.out.2 h))]
      refine beq_eq_false_iff_ne.2 fun h => hxy ?_
      have h2 : x.data.toList = y.data.toList := by simpa [ByteArray.toList_eq] using h
      exact WideShapes.bytes_inj h2
  simp [he]

/-- What Small has answered. -/
def SmallSaid (s : SigV) (e : Ending) : Prop := ∃ r : Bool, e = .returned (.bool r) ∧ (r = true → (s.hs.length ≤ 60 ∧ ∀ x ∈ s.hs, x.2.2.length ≤ 5000) ∧ (s.us.length ≤ 60 ∧ ∀ x ∈ s.us, x.2.2.length ≤ 5000) ∧ s.salt.length ≤ 100 ∧ s.value.length ≤ 2100)
set_option maxRecDepth 100000 in
set_option maxHeartbeats 1600000 in
theorem Small_calls {s : SigV} {a : SigA} {w : World} (h : SigR w s a) (b : SigB s a 140737488355328) :
    Calls Try.prog 45 #[.agg (sigC s a)] w fun e w' => SmallSaid s e ∧ Below w.heap.size w w' := by
  go_enter Try.func45, Try.ntmps45
  go_upto_region 1 with fail
  go_name_world w1 hw1
  have H1 : Box w w1 70 (sigC s a) := Box.mk_ hw1
  clear hw1
  have k4 : w1.cell? ⟨w.heap.size, 4, none⟩ = some (.slice a.A4 a.n4 a.c4) := H1.cell 4
  have k5 : w1.cell? ⟨w.heap.size, 5, none⟩ = some (.slice a.A5 a.n5 a.c5) := H1.cell 5
  have k8 : w1.cell? ⟨w.heap.size, 8, none⟩ = some (.slice a.A8 a.n8 a.c8) := H1.cell 8
  have k9 : w1.cell? ⟨w.heap.size, 9, none⟩ = some (.slice a.A9 a.n9 a.c9) := H1.cell 9
  have HS4 := Lib.hid (Small21_calls (c := a.c4) (h.h4.below H1.B) b.n4 b.b4)
  have HS5 := Lib.hid (Small21_calls (c := a.c5) (h.h5.below H1.B) b.n5 b.b5)
  have HL8 := Lib.hid h.h8.2
  have HL9 := Lib.hid h.h9.2
  have HB := Lib.hid H1.B
  clear h b H1
  go_wp2_with fail
  refine HS4.out.mono ?_
  rintro e wq ⟨⟨r, rfl, hr⟩, rfl⟩
  have HR := Lib.hid hr
  clear hr
  by_cases hr : r = true
  rotate_left
  · obtain rfl : r = false := by simpa using hr
    go_wp2
    go_ret
    exact ⟨⟨false, rfl, fun h => by cases h⟩, HB.out⟩
  · subst hr
    go_wp2_with fail
    refine HS5.out.mono ?_
    rintro e wq ⟨⟨r, rfl, hr⟩, rfl⟩
    have HR5 := Lib.hid hr
    clear hr
    by_cases hr : r = true
    rotate_left
    · obtain rfl : r = false := by simpa using hr
      go_wp2
      go_ret
      exact ⟨⟨false, rfl, fun h => by cases h⟩, HB.out⟩
    · subst hr
      by_cases h8 : a.n8 ≤ 100
      rotate_left
      · have d8 : decide ((a.n8 : Int) ≤ 100) = false := decide_eq_false (by omega)
        clear h8
        go_wp2
        go_ret
        exact ⟨⟨false, by first | rfl | simp, fun h => by cases h⟩, HB.out⟩
      · have d8 : decide ((a.n8 : Int) ≤ 100) = true := decide_eq_true (by omega)
        have H8 := Lib.hid h8
        clear h8
        by_cases h9 : a.n9 ≤ 2100
        rotate_left
        · have d9 : decide ((a.n9 : Int) ≤ 2100) = false := decide_eq_false (by omega)
          clear h9
          go_wp2
          go_ret
          exact ⟨⟨false, by first | rfl | simp, fun h => by cases h⟩, HB.out⟩
        · have d9 : decide ((a.n9 : Int) ≤ 2100) = true := decide_eq_true (by omega)
          have H9 := Lib.hid h9
          clear h9
          go_wp2
          go_ret
          exact ⟨⟨true, by first | rfl | simp, fun _ => ⟨HR.out trivial, HR5.out trivial, by rw [HL8.out]; exact H8.out, by rw [HL9.out]; exact H9.out⟩⟩, HB.out⟩

/-- Whether the version fits. -/
def fitV (v ve : Int) : Bool := (decide (v = 3) && decide (ve = 4)) || (decide (v = 6) && decide (ve = 6))
/-- Whether a one-pass packet fits a signature. -/
def fitS (v ty ha pu : Int) (salt : List UInt8) (s : SigV) : Bool := decide (ty = s.ty) && decide (ha = s.ha) && decide (pu = s.pu) && decide (salt = s.salt) && fitV v s.ve

set_option maxRecDepth 100000 in
set_option maxHeartbeats 3200000 in
theorem Fits_calls (v ty ha pu : Int) {As Ai : Option Addr} {ns cs ni ci : Nat} {salt iss : List UInt8} (la : Bool) {s : SigV} {a : SigA} {w : World} (hs : Bs w As ns cs salt) (h8 : Bs w a.A8 a.n8 a.c8 s.salt) :
    Calls Try.prog 47 #[.agg #[.int .i64 v, .int .i64 ty, .int .i64 ha, .int .i64 pu, .slice As ns cs, .slice Ai ni ci, .bool la], .agg (sigC s a)] w fun e w' => e = .returned (.bool (fitS v ty ha pu salt s)) ∧ Below w.heap.size w w' := by
  have HF := Lib.hid (show fitS v ty ha pu salt s = (decide (ty = s.ty) && decide (ha = s.ha) && decide (pu = s.pu) && decide (salt = s.salt) && fitV v s.ve) from rfl)
  have HV := Lib.hid (show fitV v s.ve = ((decide (v = 3) && decide (s.ve = 4)) || (decide (v = 6) && decide (s.ve = 6))) from rfl)
  go_enter Try.func47, Try.ntmps47
  go_upto_region 1 with fail
  go_name_world w2 hw2
  have hP : w2.heap[w.heap.size]? = some (.cells #[.int .i64 v, .int .i64 ty, .int .i64 ha, .int .i64 pu, .slice As ns cs, .slice Ai ni ci, .bool la] 42 (0, 0)) := by
    rw [← hw2]
    exact (((Below.refl _ (w.alloc (.cells #[.int .i64 v, .int .i64 ty, .int .i64 ha, .int .i64 pu, .slice As ns cs, .slice Ai ni ci, .bool la] 42))).alloc (Nat.le_refl _) _).block w.heap.size (by simp)).trans (heap_alloc_new w _)
  have hS : w2.heap[w.heap.size + 1]? = some (.cells (sigC s a) 70 (0, 0)) := by
    have := heap_alloc_new (w.alloc (.cells #[.int .i64 v, .int .i64 ty, .int .i64 ha, .int .i64 pu, .slice As ns cs, .slice Ai ni ci, .bool la] 42)) (.cells (sigC s a) 70)
    rw [← hw2]
    simpa using this
  have hB : Below w.heap.size w w2 := by
    rw [← hw2]
    exact ((Below.refl _ w).alloc (Nat.le_refl _) _).alloc (by simp) _
  clear hw2
  have p0 : w2.cell? ⟨w.heap.size, 0, none⟩ = some (.int .i64 v) := blk_cell hP 0
  have p1 : w2.cell? ⟨w.heap.size, 1, none⟩ = some (.int .i64 ty) := blk_cell hP 1
  have p2 : w2.cell? ⟨w.heap.size, 2, none⟩ = some (.int .i64 ha) := blk_cell hP 2
  have p3 : w2.cell? ⟨w.heap.size, 3, none⟩ = some (.int .i64 pu) := blk_cell hP 3
  have p4 : w2.cell? ⟨w.heap.size, 4, none⟩ = some (.slice As ns cs) := blk_cell hP 4
  have s0 : w2.cell? ⟨w.heap.size + 1, 0, none⟩ = some (.int .i64 s.ve) := blk_cell hS 0
  have s1 : w2.cell? ⟨w.heap.size + 1, 1, none⟩ = some (.int .i64 s.ty) := blk_cell hS 1
  have s2 : w2.cell? ⟨w.heap.size + 1, 2, none⟩ = some (.int .i64 s.pu) := blk_cell hS 2
  have s3 : w2.cell? ⟨w.heap.size + 1, 3, none⟩ = some (.int .i64 s.ha) := blk_cell hS 3
  have s8 : w2.cell? ⟨w.heap.size + 1, 8, none⟩ = some (.slice a.A8 a.n8 a.c8) := blk_cell hS 8
  have b1 := hs.below hB
  have b2 := h8.below hB
  clear hs h8
  have HB := Lib.hid hB
  clear hB hP hS
  go_cut [5] from 6 (fun x wx => x = .bool (fitV v s.ve) ∧ wx = w2)
  case first =>
    clear HF b1 b2
    by_cases hx : s.ve = 6
    · have d1 : (s.ve == 6) = true := beq_iff_eq.2 hx
      by_cases hy : v = 6
      · have d2 : (v == 6) = true := beq_iff_eq.2 hy
        have HR := Lib.hid (show fitV v s.ve = true by rw [HV.out]; simp [hx, hy])
        clear hx hy
        go_wp2_with fail
        go_meet
        exact ⟨by rw [HR.out], rfl⟩
      · have d2 : (v == 6) = false := beq_eq_false_iff_ne.2 hy
        have d3 : (s.ve == 4) = false := beq_eq_false_iff_ne.2 (by omega)
        have HR := Lib.hid (show fitV v s.ve = false by rw [HV.out]; simp [hx, hy])
        clear hx hy
        go_wp2_with fail
        go_meet
        exact ⟨by rw [HR.out], rfl⟩
    · have d1 : (s.ve == 6) = false := beq_eq_false_iff_ne.2 hx
      by_cases hx4 : s.ve = 4
      · have d2 : (s.ve == 4) = true := beq_iff_eq.2 hx4
        by_cases hy : v = 3
        · have d3 : (v == 3) = true := beq_iff_eq.2 hy
          have HR := Lib.hid (show fitV v s.ve = true by rw [HV.out]; simp [hx4, hy])
          clear hx hy hx4
          go_wp2_with fail
          go_meet
          exact ⟨by rw [HR.out], rfl⟩
        · have d3 : (v == 3) = false := beq_eq_false_iff_ne.2 hy
          have HR := Lib.hid (show fitV v s.ve = false by rw [HV.out]; simp [hx, hy])
          clear hx hy hx4
          go_wp2_with fail
          go_meet
          exact ⟨by rw [HR.out], rfl⟩
      · have d2 : (s.ve == 4) = false := beq_eq_false_iff_ne.2 hx4
        have HR := Lib.hid (show fitV v s.ve = false by rw [HV.out]; simp [hx, hx4])
        clear hx hx4
        go_wp2_with fail
        go_meet
        exact ⟨by rw [HR.out], rfl⟩
  obtain ⟨rfl, rfl⟩ := hcut
  clear HV
  generalize fitV v s.ve = fv at HF
  by_cases hf : fv = true
  rotate_left
  · obtain rfl : fv = false := by simpa using hf
    have HR := Lib.hid (show fitS v ty ha pu salt s = false by rw [HF.out]; simp)
    clear hf
    go_wp2
    go_ret
    exact ⟨by rw [HR.out] <;> rfl, HB.out⟩
  subst hf
  by_cases ht : ty = s.ty
  rotate_left
  · have dt : (ty == s.ty) = false := beq_eq_false_iff_ne.2 ht
    have HR := Lib.hid (show fitS v ty ha pu salt s = false by rw [HF.out]; simp [ht])
    clear ht
    go_wp2
    go_ret
    exact ⟨by rw [HR.out] <;> rfl, HB.out⟩
  have dt : (ty == s.ty) = true := beq_iff_eq.2 ht
  have Et := Lib.hid ht
  clear ht
  by_cases hh : ha = s.ha
  rotate_left
  · have dh : (ha == s.ha) = false := beq_eq_false_iff_ne.2 hh
    have HR := Lib.hid (show fitS v ty ha pu salt s = false by rw [HF.out]; simp [hh])
    clear hh
    go_wp2
    go_ret
    exact ⟨by rw [HR.out] <;> rfl, HB.out⟩
  have dh : (ha == s.ha) = true := beq_iff_eq.2 hh
  have Eh := Lib.hid hh
  clear hh
  by_cases hu : pu = s.pu
  rotate_left
  · have du : (pu == s.pu) = false := beq_eq_false_iff_ne.2 hu
    have HR := Lib.hid (show fitS v ty ha pu salt s = false by rw [HF.out]; simp [hu])
    clear hu
    go_wp2
    go_ret
    exact ⟨by rw [HR.out] <;> rfl, HB.out⟩
  have du : (pu == s.pu) = true := beq_iff_eq.2 hu
  have Eu := Lib.hid hu
  clear hu
  have HR := Lib.hid (show fitS v ty ha pu salt s = decide (salt = s.salt) by rw [HF.out, decide_eq_true Et.out, decide_eq_true Eh.out, decide_eq_true Eu.out]; simp)
  have HQ := Lib.hid (Equal_calls b1 b2)
  clear b1 b2
  go_wp2_with (go_at_call 78; refine HQ.out.mono ?_; rintro e wq ⟨rfl, rfl⟩)
  go_ret
  exact ⟨by rw [HR.out] <;> rfl, HB.out⟩
set_option maxRecDepth 100000 in
set_option maxHeartbeats 3200000 in
theorem rFits_calls (v ty ha pu : Int) {As Ai : Option Addr} {ns cs ni ci : Nat} {salt iss : List UInt8} (la : Bool) {s : SigV} {a : SigA} {w : World} (hs : Bs w As ns cs salt) (h8 : Bs w a.A8 a.n8 a.c8 s.salt) :
    Calls Try.prog 48 #[.agg #[.int .i64 v, .int .i64 ty, .int .i64 ha, .int .i64 pu, .slice As ns cs, .slice Ai ni ci, .bool la], .agg (sigC s a)] w fun e w' => e = .returned (.bool (fitS v ty ha pu salt s)) ∧ Below w.heap.size w w' := by
  have HF := Lib.hid (show fitS v ty ha pu salt s = (decide (ty = s.ty) && decide (ha = s.ha) && decide (pu = s.pu) && decide (salt = s.salt) && fitV v s.ve) from rfl)
  have HV := Lib.hid (show fitV v s.ve = ((decide (v = 3) && decide (s.ve = 4)) || (decide (v = 6) && decide (s.ve = 6))) from rfl)
  go_enter Try.func48, Try.ntmps48
  go_upto_region 1 with fail
  go_name_world w2 hw2
  have hP : w2.heap[w.heap.size]? = some (.cells #[.int .i64 v, .int .i64 ty, .int .i64 ha, .int .i64 pu, .slice As ns cs, .slice Ai ni ci, .bool la] 45 (0, 0)) := by
    rw [← hw2]
    exact (((Below.refl _ (w.alloc (.cells #[.int .i64 v, .int .i64 ty, .int .i64 ha, .int .i64 pu, .slice As ns cs, .slice Ai ni ci, .bool la] 45))).alloc (Nat.le_refl _) _).block w.heap.size (by simp)).trans (heap_alloc_new w _)
  have hS : w2.heap[w.heap.size + 1]? = some (.cells (sigC s a) 70 (0, 0)) := by
    have := heap_alloc_new (w.alloc (.cells #[.int .i64 v, .int .i64 ty, .int .i64 ha, .int .i64 pu, .slice As ns cs, .slice Ai ni ci, .bool la] 45)) (.cells (sigC s a) 70)
    rw [← hw2]
    simpa using this
  have hB : Below w.heap.size w w2 := by
    rw [← hw2]
    exact ((Below.refl _ w).alloc (Nat.le_refl _) _).alloc (by simp) _
  clear hw2
  have p0 : w2.cell? ⟨w.heap.size, 0, none⟩ = some (.int .i64 v) := blk_cell hP 0
  have p1 : w2.cell? ⟨w.heap.size, 1, none⟩ = some (.int .i64 ty) := blk_cell hP 1
  have p2 : w2.cell? ⟨w.heap.size, 2, none⟩ = some (.int .i64 ha) := blk_cell hP 2
  have p3 : w2.cell? ⟨w.heap.size, 3, none⟩ = some (.int .i64 pu) := blk_cell hP 3
  have p4 : w2.cell? ⟨w.heap.size, 4, none⟩ = some (.slice As ns cs) := blk_cell hP 4
  have s0 : w2.cell? ⟨w.heap.size + 1, 0, none⟩ = some (.int .i64 s.ve) := blk_cell hS 0
  have s1 : w2.cell? ⟨w.heap.size + 1, 1, none⟩ = some (.int .i64 s.ty) := blk_cell hS 1
  have s2 : w2.cell? ⟨w.heap.size + 1, 2, none⟩ = some (.int .i64 s.pu) := blk_cell hS 2
  have s3 : w2.cell? ⟨w.heap.size + 1, 3, none⟩ = some (.int .i64 s.ha) := blk_cell hS 3
  have s8 : w2.cell? ⟨w.heap.size + 1, 8, none⟩ = some (.slice a.A8 a.n8 a.c8) := blk_cell hS 8
  have b1 := hs.below hB
  have b2 := h8.below hB
  clear hs h8
  have HB := Lib.hid hB
  clear hB hP hS
  by_cases ht : ty = s.ty
  rotate_left
  · have dt : (ty == s.ty) = false := beq_eq_false_iff_ne.2 ht
    have HR := Lib.hid (show fitS v ty ha pu salt s = false by rw [HF.out]; simp [ht])
    clear ht
    go_wp2
    go_ret
    exact ⟨by rw [HR.out] <;> rfl, HB.out⟩
  have dt : (ty == s.ty) = true := beq_iff_eq.2 ht
  have Et := Lib.hid ht
  clear ht
  by_cases hh : ha = s.ha
  rotate_left
  · have dh : (ha == s.ha) = false := beq_eq_false_iff_ne.2 hh
    have HR := Lib.hid (show fitS v ty ha pu salt s = false by rw [HF.out]; simp [hh])
    clear hh
    go_wp2
    go_ret
    exact ⟨by rw [HR.out] <;> rfl, HB.out⟩
  have dh : (ha == s.ha) = true := beq_iff_eq.2 hh
  have Eh := Lib.hid hh
  clear hh
  by_cases hu : pu = s.pu
  rotate_left
  · have du : (pu == s.pu) = false := beq_eq_false_iff_ne.2 hu
    have HR := Lib.hid (show fitS v ty ha pu salt s = false by rw [HF.out]; simp [hu])
    clear hu
    go_wp2
    go_ret
    exact ⟨by rw [HR.out] <;> rfl, HB.out⟩
  have du : (pu == s.pu) = true := beq_iff_eq.2 hu
  have Eu := Lib.hid hu
  clear hu
  have c1 := b1.str
  have c2 := b2.str
  have HE := Lib.hid (strOf_inj (a := salt) (b := s.salt))
  generalize strOf salt = x at c1 HE
  generalize strOf s.salt = y at c2 HE
  clear b1 b2
  by_cases hq : salt = s.salt
  rotate_left
  · have dq : (x.toList == y.toList) = false := beq_eq_false_iff_ne.2 fun h => hq (HE.out.1 (WideShapes.bytes_inj (by simpa [ByteArray.toList_eq] using h)))
    have HR := Lib.hid (show fitS v ty ha pu salt s = false by rw [HF.out]; simp [hq])
    clear hq
    go_wp2
    go_ret
    exact ⟨by rw [HR.out] <;> rfl, HB.out⟩
  have dq : (x.toList == y.toList) = true := by rw [HE.out.2 hq]; exact beq_self_eq_true _
  have HG := Lib.hid (show fitS v ty ha pu salt s = fitV v s.ve by rw [HF.out, decide_eq_true Et.out, decide_eq_true Eh.out, decide_eq_true Eu.out, decide_eq_true hq]; simp)
  clear hq
  by_cases h3 : v = 3
  · have d3 : (v == 3) = true := beq_iff_eq.2 h3
    by_cases h4 : s.ve = 4
    · have d4 : (s.ve == 4) = true := beq_iff_eq.2 h4
      have HR := Lib.hid (show fitS v ty ha pu salt s = true by rw [HG.out, HV.out]; simp [h3, h4])
      clear h3 h4
      go_wp2
      go_ret
      exact ⟨by rw [HR.out] <;> rfl, HB.out⟩
    · have d4 : (s.ve == 4) = false := beq_eq_false_iff_ne.2 h4
      have d6 : (v == 6) = false := beq_eq_false_iff_ne.2 (by omega)
      have HR := Lib.hid (show fitS v ty ha pu salt s = false by rw [HG.out, HV.out]; simp [h3, h4])
      clear h3 h4
      go_wp2
      go_ret
      exact ⟨by rw [HR.out] <;> rfl, HB.out⟩
  · have d3 : (v == 3) = false := beq_eq_false_iff_ne.2 h3
    by_cases h6 : v = 6
    · have d6 : (v == 6) = true := beq_iff_eq.2 h6
      by_cases h7 : s.ve = 6
      · have d7 : (s.ve == 6) = true := beq_iff_eq.2 h7
        have HR := Lib.hid (show fitS v ty ha pu salt s = true by rw [HG.out, HV.out]; simp [h6, h7])
        clear h3 h6 h7
        go_wp2
        go_ret
        exact ⟨by rw [HR.out] <;> rfl, HB.out⟩
      · have d7 : (s.ve == 6) = false := beq_eq_false_iff_ne.2 h7
        have HR := Lib.hid (show fitS v ty ha pu salt s = false by rw [HG.out, HV.out]; simp [h3, h7])
        clear h3 h6 h7
        go_wp2
        go_ret
        exact ⟨by rw [HR.out] <;> rfl, HB.out⟩
    · have d6 : (v == 6) = false := beq_eq_false_iff_ne.2 h6
      have HR := Lib.hid (show fitS v ty ha pu salt s = false by rw [HG.out, HV.out]; simp [h3, h6])
      clear h3 h6
      go_wp2
      go_ret
      exact ⟨by rw [HR.out] <;> rfl, HB.out⟩
end Go.Proofs.Ytegbncngencfnaa
