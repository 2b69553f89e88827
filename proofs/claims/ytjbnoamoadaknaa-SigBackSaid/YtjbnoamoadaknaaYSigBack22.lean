import Derived.Test.YtjbnoamoadaknaaYSigBack21
import Derived.Lib.SlBytesConst
import Derived.Test.YtjbnoamoadaknaaYSigBack15
/- Layer 22's statements: what is alive. -/
section
namespace Go.Proofs.Ytjbnoamoadaknaa
open Go.RowKit

def oneS : SigV := ⟨4, 0, 1, 8, [], [], 0, 0, [], [5]⟩
theorem semit_one : emitG oneS = ([4, 0, 1, 8, 0, 0, 0, 0, 0, 0, 0, 3, 5], 0) := by decide
theorem sparse_one : walkS [3] = (noSig, 3) := by rfl
theorem str_sig : strOf [4, 0, 1, 8, 0, 0, 0, 0, 0, 0, 0, 3, 5] = ⟨#[4, 0, 1, 8, 0, 0, 0, 0, 0, 0, 0, 3, 5]⟩ := rfl
def oneA (b : Nat) : SigA := ⟨none, 0, 0, none, 0, 0, none, 0, 0, some ⟨b, 0, none⟩, 1, 1⟩
theorem oneL : SigL oneS := ⟨by decide, by decide, by decide, by decide, by decide, by decide⟩

set_option maxRecDepth 100000 in
set_option maxHeartbeats 1600000 in
theorem alive22_calls (w : World) :
    Calls Try.prog 7 #[] w fun e w' => e = .returned (.bool true) ∧ Below w.heap.size w w' := by
  have hlit := own_lit w #[.int .u8 3] [3] rfl 1 rfl (by omega)
  have hB0 := (Below.refl w.heap.size w).alloc (Nat.le_refl _) (.cells #[.int .u8 3] 5)
  have HSz := Lib.hid (fun W => SaltSize_calls 10 W)
  rw [show saltS 10 = 32 by decide] at HSz
  go_enter Try.func7, Try.ntmps7
  go_wp2_with fail
  generalize hw0 : w.alloc (.cells #[.int .u8 3] 5) = w0 at hlit hB0 ⊢
  clear hw0
  have hP := SParse_calls hlit.bs (by omega)
  rw [sparse_one] at hP
  refine hP.mono ?_
  rintro e w3 ⟨a3, r3, rfl, _, hr3, hb3⟩
  obtain rfl : r3 = 3 := hr3
  have hB3 := below_then hB0 hB0.size hb3
  clear hlit hb3 hP hB0
  have hba := (Below.refl w3.heap.size w3).alloc (Nat.le_refl _) (.cells #[.int .i64 0, .int .i64 0, .int .i64 0, .int .i64 0, .slice none 0 0, .slice none 0 0, .int .u8 0, .int .u8 0, .slice none 0 0, .slice none 0 0] 27)
  have hnw := heap_alloc_new w3 (.cells #[.int .i64 0, .int .i64 0, .int .i64 0, .int .i64 0, .slice none 0 0, .slice none 0 0, .int .u8 0, .int .u8 0, .slice none 0 0, .slice none 0 0] 27)
  generalize hv : w3.alloc (.cells #[.int .i64 0, .int .i64 0, .int .i64 0, .int .i64 0, .slice none 0 0, .slice none 0 0, .int .u8 0, .int .u8 0, .slice none 0 0, .slice none 0 0] 27) = v4 at hba hnw
  have f0 := blk_frozen hnw 0
  have r0 : v4.cell? ⟨w3.heap.size, 0, none⟩ = some (.int .i64 0) := blk_cell hnw 0
  have f1 := blk_frozen hnw 1
  have r1 : v4.cell? ⟨w3.heap.size, 1, none⟩ = some (.int .i64 0) := blk_cell hnw 1
  have f2 := blk_frozen hnw 2
  have r2 : v4.cell? ⟨w3.heap.size, 2, none⟩ = some (.int .i64 0) := blk_cell hnw 2
  have f3 := blk_frozen hnw 3
  have r3 : v4.cell? ⟨w3.heap.size, 3, none⟩ = some (.int .i64 0) := blk_cell hnw 3
  have f4 := blk_frozen hnw 4
  have r4 : v4.cell? ⟨w3.heap.size, 4, none⟩ = some (.slice none 0 0) := blk_cell hnw 4
  have f5 := blk_frozen hnw 5
  have r5 : v4.cell? ⟨w3.heap.size, 5, none⟩ = some (.slice none 0 0) := blk_cell hnw 5
  have f6 := blk_frozen hnw 6
  have r6 : v4.cell? ⟨w3.heap.size, 6, none⟩ = some (.int .u8 0) := blk_cell hnw 6
  have f7 := blk_frozen hnw 7
  have r7 : v4.cell? ⟨w3.heap.size, 7, none⟩ = some (.int .u8 0) := blk_cell hnw 7
  have f8 := blk_frozen hnw 8
  have r8 : v4.cell? ⟨w3.heap.size, 8, none⟩ = some (.slice none 0 0) := blk_cell hnw 8
  have f9 := blk_frozen hnw 9
  have r9 : v4.cell? ⟨w3.heap.size, 9, none⟩ = some (.slice none 0 0) := blk_cell hnw 9
  have hS0 := setRow_block (k := w3.heap.size) [.int .i64 noSig.ve, .int .i64 noSig.ty, .int .i64 noSig.pu, .int .i64 noSig.ha, .slice a3.A4 a3.n4 a3.c4, .slice a3.A5 a3.n5 a3.c5, .int .u8 (noSig.l0.toNat : Int), .int .u8 (noSig.l1.toNat : Int), .slice a3.A8 a3.n8 a3.c8, .slice a3.A9 a3.n9 a3.c9] 0 hnw
  have hG0 := hba.grown (setRow_grown (k := w3.heap.size) [.int .i64 noSig.ve, .int .i64 noSig.ty, .int .i64 noSig.pu, .int .i64 noSig.ha, .slice a3.A4 a3.n4 a3.c4, .slice a3.A5 a3.n5 a3.c5, .int .u8 (noSig.l0.toNat : Int), .int .u8 (noSig.l1.toNat : Int), .slice a3.A8 a3.n8 a3.c8, .slice a3.A9 a3.n9 a3.c9] v4 0) hba.size (fun k e => by cases e; exact Nat.le_refl _)
  generalize hx : setRow w3.heap.size v4 0 [.int .i64 noSig.ve, .int .i64 noSig.ty, .int .i64 noSig.pu, .int .i64 noSig.ha, .slice a3.A4 a3.n4 a3.c4, .slice a3.A5 a3.n5 a3.c5, .int .u8 (noSig.l0.toNat : Int), .int .u8 (noSig.l1.toNat : Int), .slice a3.A8 a3.n8 a3.c8, .slice a3.A9 a3.n9 a3.c9] = w4 at hS0 hG0
  simp only [setRow, Nat.reduceAdd, Nat.zero_add] at hx
  have hw4 : w4.heap[w3.heap.size]? = some (.cells #[.int .i64 noSig.ve, .int .i64 noSig.ty, .int .i64 noSig.pu, .int .i64 noSig.ha, .slice a3.A4 a3.n4 a3.c4, .slice a3.A5 a3.n5 a3.c5, .int .u8 (noSig.l0.toNat : Int), .int .u8 (noSig.l1.toNat : Int), .slice a3.A8 a3.n8 a3.c8, .slice a3.A9 a3.n9 a3.c9] 27 (0, 0)) := hS0
  have HX := Lib.hid hx
  clear hS0 hx hba hnw
  have hB4 := below_then hB3 hB3.size hG0
  clear hB3 hG0
  have hlit4 := own_lit w4 #[.int .u8 5] [5] rfl 1 rfl (by omega)
  have hb5 := (Below.refl w4.heap.size w4).alloc (Nat.le_refl _) (.cells #[.int .u8 5] 5)
  go_wp2_with fail
  have hsz : w4.heap.size = v4.heap.size := by rw [← HX.out]; simp
  rw [HX.out, ← hsz]
  clear hsz
  clear HX hv f0 r0 f1 r1 f2 r2 f3 r3 f4 r4 f5 r5 f6 r6 f7 r7 f8 r8 f9 r9
  generalize hw5 : w4.alloc (.cells #[.int .u8 5] 5) = w5 at hlit4 hb5 ⊢
  clear hw5
  have hB5 := below_then hB4 hB4.size hb5
  clear hB4 hb5
  have hE := EmitG_calls (s := oneS) (a := oneA w4.heap.size) (w := w5) ⟨Ss.nil_ w5 _, Ss.nil_ w5 _, Bs.nil_ w5, hlit4.bs⟩ oneL
  rw [semit_one] at hE
  refine hE.mono ?_
  rintro e w6 ⟨A6, m6, c6, r6, rfl, ho6, hr6, hb6⟩
  obtain rfl : r6 = 0 := hr6
  have hB6 := below_then hB5 hB5.size hb6
  have s6 := ho6.bs.str
  rw [str_sig] at s6
  have HB := Lib.hid hB6
  clear hB5 hb6 hE hB6 ho6 hlit4
  go_wp2_with (go_at_call 15; refine (HSz.out _).mono ?_; rintro e w7 ⟨rfl, rfl⟩)
  go_ret
  exact ⟨rfl, HB.out⟩
end Go.Proofs.Ytjbnoamoadaknaa
end

/- Signatures: whether one may be, as the document has it. -/
section
namespace Go.Proofs.Ytjbnoamoadaknaa
open Go.RowKit

def okA (s : SigV) : Bool := verS s.ve && decide (0 ≤ s.ty) && decide (s.ty ≤ 255) && pubS s.pu && mayS s.ha s.ve
theorem mayG_eq (s : SigV) : mayG s = (okA s && saltOk s.ve s.ha s.salt.length && valOk s.pu s.value) := rfl
theorem okA_eq (s : SigV) : okA s = (verS s.ve && decide (0 ≤ s.ty) && decide (s.ty ≤ 255) && pubS s.pu && (decide (0 < hashS s.ha) && !(decide (s.ve = 6) && weakS s.ha))) := rfl

set_option maxRecDepth 100000 in
set_option maxHeartbeats 3200000 in
theorem rmay_calls {s : SigV} {a : SigA} {w : World} (h : SigR w s a) (hn : a.n9 ≤ 90000) :
    Calls Try.prog 43 #[.agg (sigC s a)] w fun e w' => e = .returned (.bool (mayG s)) ∧ Below w.heap.size w w' := by
  go_enter Try.func43, Try.ntmps43
  go_upto_region 1 with fail
  go_name_world w1 hw1
  have H1 : Box w w1 27 (sigC s a) := Box.mk_ hw1
  clear hw1
  have k0 : w1.cell? ⟨w.heap.size, 0, none⟩ = some (.int .i64 s.ve) := H1.cell 0
  have k1 : w1.cell? ⟨w.heap.size, 1, none⟩ = some (.int .i64 s.ty) := H1.cell 1
  have k2 : w1.cell? ⟨w.heap.size, 2, none⟩ = some (.int .i64 s.pu) := H1.cell 2
  have k3 : w1.cell? ⟨w.heap.size, 3, none⟩ = some (.int .i64 s.ha) := H1.cell 3
  have k4 : w1.cell? ⟨w.heap.size, 4, none⟩ = some (.slice a.A4 a.n4 a.c4) := H1.cell 4
  have k5 : w1.cell? ⟨w.heap.size, 5, none⟩ = some (.slice a.A5 a.n5 a.c5) := H1.cell 5
  have k6 : w1.cell? ⟨w.heap.size, 6, none⟩ = some (.int .u8 (s.l0.toNat : Int)) := H1.cell 6
  have k7 : w1.cell? ⟨w.heap.size, 7, none⟩ = some (.int .u8 (s.l1.toNat : Int)) := H1.cell 7
  have k8 : w1.cell? ⟨w.heap.size, 8, none⟩ = some (.slice a.A8 a.n8 a.c8) := H1.cell 8
  have k9 : w1.cell? ⟨w.heap.size, 9, none⟩ = some (.slice a.A9 a.n9 a.c9) := H1.cell 9
  have HZ := Lib.hid (fun W => rhashSize_calls s.ha W)
  have HW := Lib.hid (fun W => rWeak_calls s.ha W)
  have hok := okA_eq s
  have hz0 := (hashS_range s.ha).1
  have HK := Lib.hid (fun W => show Calls Try.prog 16 #[.int .i64 s.ha] W fun e w' => e = .returned (.int .i64 (saltS s.ha)) ∧ w' = W from (rSaltSize_calls s.ha W).mono fun _ _ h => ⟨h.1, h.2.symm⟩)
  generalize hashS s.ha = sz at HZ hok hz0
  generalize weakS s.ha = wk at HW hok
  have HOK := Lib.hid hok
  have HZ0 := Lib.hid hz0
  clear hok hz0
  have HB := Lib.hid H1.B
  have HH1 := Lib.hid H1
  have HS := Lib.hid h
  clear h H1
  go_cut [46] from 3 (fun x wx => x = .bool (!okA s) ∧ wx = w1)
  case first =>
    by_cases hv : s.ve = 4
    · have v4 : (s.ve != 4) = false := by rw [bne_eq_false_iff_eq]; exact hv
      have v6 : (s.ve == 6) = false := beq_eq_false_iff_ne.2 (by omega)
      by_cases ht0 : s.ty < 0
      · have e1 : decide (s.ty < 0) = true := decide_eq_true ht0
        have HR := Lib.hid (show okA s = false by rw [HOK.out]; simp [show ¬ 0 ≤ s.ty by omega])
        clear hv ht0
        go_wp2_with (first
          | (go_at_call 72; refine (HZ.out _).mono ?_; rintro e wq ⟨rfl, rfl⟩)
          | (go_at_call 73; refine (HW.out _).mono ?_; rintro e wq ⟨rfl, rfl⟩))
        go_meet
        exact ⟨by rw [HR.out] <;> rfl, rfl⟩
      have e1 : decide (s.ty < 0) = false := decide_eq_false ht0
      by_cases ht1 : 255 < s.ty
      · have e2 : decide (255 < s.ty) = true := decide_eq_true ht1
        have HR := Lib.hid (show okA s = false by rw [HOK.out]; simp [show ¬ s.ty ≤ 255 by omega])
        clear hv ht0 ht1
        go_wp2_with (first
          | (go_at_call 72; refine (HZ.out _).mono ?_; rintro e wq ⟨rfl, rfl⟩)
          | (go_at_call 73; refine (HW.out _).mono ?_; rintro e wq ⟨rfl, rfl⟩))
        go_meet
        exact ⟨by rw [HR.out] <;> rfl, rfl⟩
      have e2 : decide (255 < s.ty) = false := decide_eq_false ht1
      have f1 : 0 ≤ s.ty := by omega
      have f2 : s.ty ≤ 255 := by omega
      clear ht0 ht1
      by_cases hp1 : s.pu = 1
      · have p1 : (s.pu != 1) = false := by rw [bne_eq_false_iff_eq]; exact hp1
        by_cases hz : sz = 0
        · have dz : (sz == 0) = true := beq_iff_eq.2 hz
          have HR := Lib.hid (show okA s = false by rw [HOK.out]; simp [hz])
          clear hv f1 f2 hp1 hz
          go_wp2_with (first
            | (go_at_call 72; refine (HZ.out _).mono ?_; rintro e wq ⟨rfl, rfl⟩)
            | (go_at_call 73; refine (HW.out _).mono ?_; rintro e wq ⟨rfl, rfl⟩))
          go_meet
          exact ⟨by rw [HR.out] <;> rfl, rfl⟩
        have dz : (sz == 0) = false := beq_eq_false_iff_ne.2 hz
        have hz1 : 0 < sz := by have := HZ0.out; omega
        have HR := Lib.hid (show okA s = true by rw [HOK.out]; simp [hv, f1, f2, hp1, verS, pubS, hz1])
        clear hv f1 f2 hp1 hz hz1
        go_wp2_with (first
          | (go_at_call 72; refine (HZ.out _).mono ?_; rintro e wq ⟨rfl, rfl⟩)
          | (go_at_call 73; refine (HW.out _).mono ?_; rintro e wq ⟨rfl, rfl⟩))
        go_meet
        exact ⟨by rw [HR.out] <;> rfl, rfl⟩
      have p1 : (s.pu != 1) = true := by rw [bne_iff_ne]; exact hp1
      by_cases hp2 : s.pu = 27
      · have p2 : (s.pu != 27) = false := by rw [bne_eq_false_iff_eq]; exact hp2
        by_cases hz : sz = 0
        · have dz : (sz == 0) = true := beq_iff_eq.2 hz
          have HR := Lib.hid (show okA s = false by rw [HOK.out]; simp [hz])
          clear hv f1 f2 hp1 hp2 hz
          go_wp2_with (first
            | (go_at_call 72; refine (HZ.out _).mono ?_; rintro e wq ⟨rfl, rfl⟩)
            | (go_at_call 73; refine (HW.out _).mono ?_; rintro e wq ⟨rfl, rfl⟩))
          go_meet
          exact ⟨by rw [HR.out] <;> rfl, rfl⟩
        have dz : (sz == 0) = false := beq_eq_false_iff_ne.2 hz
        have hz1 : 0 < sz := by have := HZ0.out; omega
        have HR := Lib.hid (show okA s = true by rw [HOK.out]; simp [hv, f1, f2, hp2, verS, pubS, hz1])
        clear hv f1 f2 hp1 hp2 hz hz1
        go_wp2_with (first
          | (go_at_call 72; refine (HZ.out _).mono ?_; rintro e wq ⟨rfl, rfl⟩)
          | (go_at_call 73; refine (HW.out _).mono ?_; rintro e wq ⟨rfl, rfl⟩))
        go_meet
        exact ⟨by rw [HR.out] <;> rfl, rfl⟩
      have p2 : (s.pu != 27) = true := by rw [bne_iff_ne]; exact hp2
      have HR := Lib.hid (show okA s = false by rw [HOK.out]; simp [pubS, hp1, hp2])
      clear hv f1 f2 hp1 hp2
      go_wp2_with (first
        | (go_at_call 72; refine (HZ.out _).mono ?_; rintro e wq ⟨rfl, rfl⟩)
        | (go_at_call 73; refine (HW.out _).mono ?_; rintro e wq ⟨rfl, rfl⟩))
      go_meet
      exact ⟨by rw [HR.out] <;> rfl, rfl⟩
    have v4 : (s.ve != 4) = true := by rw [bne_iff_ne]; exact hv
    have hvn := Lib.hid hv
    clear hv
    by_cases hv : s.ve = 6
    · have v6 : (s.ve != 6) = false := by rw [bne_eq_false_iff_eq]; exact hv
      have v6' : (s.ve == 6) = true := beq_iff_eq.2 hv
      by_cases ht0 : s.ty < 0
      · have e1 : decide (s.ty < 0) = true := decide_eq_true ht0
        have HR := Lib.hid (show okA s = false by rw [HOK.out]; simp [show ¬ 0 ≤ s.ty by omega])
        clear hv ht0
        go_wp2_with (first
          | (go_at_call 72; refine (HZ.out _).mono ?_; rintro e wq ⟨rfl, rfl⟩)
          | (go_at_call 73; refine (HW.out _).mono ?_; rintro e wq ⟨rfl, rfl⟩))
        go_meet
        exact ⟨by rw [HR.out] <;> rfl, rfl⟩
      have e1 : decide (s.ty < 0) = false := decide_eq_false ht0
      by_cases ht1 : 255 < s.ty
      · have e2 : decide (255 < s.ty) = true := decide_eq_true ht1
        have HR := Lib.hid (show okA s = false by rw [HOK.out]; simp [show ¬ s.ty ≤ 255 by omega])
        clear hv ht0 ht1
        go_wp2_with (first
          | (go_at_call 72; refine (HZ.out _).mono ?_; rintro e wq ⟨rfl, rfl⟩)
          | (go_at_call 73; refine (HW.out _).mono ?_; rintro e wq ⟨rfl, rfl⟩))
        go_meet
        exact ⟨by rw [HR.out] <;> rfl, rfl⟩
      have e2 : decide (255 < s.ty) = false := decide_eq_false ht1
      have f1 : 0 ≤ s.ty := by omega
      have f2 : s.ty ≤ 255 := by omega
      clear ht0 ht1
      by_cases hp1 : s.pu = 1
      · have p1 : (s.pu != 1) = false := by rw [bne_eq_false_iff_eq]; exact hp1
        by_cases hz : sz = 0
        · have dz : (sz == 0) = true := beq_iff_eq.2 hz
          have HR := Lib.hid (show okA s = false by rw [HOK.out]; simp [hz])
          clear hv f1 f2 hp1 hz
          go_wp2_with (first
            | (go_at_call 72; refine (HZ.out _).mono ?_; rintro e wq ⟨rfl, rfl⟩)
            | (go_at_call 73; refine (HW.out _).mono ?_; rintro e wq ⟨rfl, rfl⟩))
          go_meet
          exact ⟨by rw [HR.out] <;> rfl, rfl⟩
        have dz : (sz == 0) = false := beq_eq_false_iff_ne.2 hz
        have hz1 : 0 < sz := by have := HZ0.out; omega
        by_cases hw : wk = true
        · rw [hw] at HW
          have HR := Lib.hid (show okA s = false by rw [HOK.out]; simp [hv, f1, f2, hp1, verS, pubS, hw])
          clear hv f1 f2 hp1 hz hz1 hw
          go_wp2_with (first
            | (go_at_call 72; refine (HZ.out _).mono ?_; rintro e wq ⟨rfl, rfl⟩)
            | (go_at_call 73; refine (HW.out _).mono ?_; rintro e wq ⟨rfl, rfl⟩))
          go_meet
          exact ⟨by rw [HR.out] <;> rfl, rfl⟩
        have hw2 : wk = false := by simpa using hw
        rw [hw2] at HW
        have HR := Lib.hid (show okA s = true by rw [HOK.out]; simp [hv, f1, f2, hp1, verS, pubS, hz1, hw2])
        clear hv f1 f2 hp1 hz hz1 hw hw2
        go_wp2_with (first
          | (go_at_call 72; refine (HZ.out _).mono ?_; rintro e wq ⟨rfl, rfl⟩)
          | (go_at_call 73; refine (HW.out _).mono ?_; rintro e wq ⟨rfl, rfl⟩))
        go_meet
        exact ⟨by rw [HR.out] <;> rfl, rfl⟩
      have p1 : (s.pu != 1) = true := by rw [bne_iff_ne]; exact hp1
      by_cases hp2 : s.pu = 27
      · have p2 : (s.pu != 27) = false := by rw [bne_eq_false_iff_eq]; exact hp2
        by_cases hz : sz = 0
        · have dz : (sz == 0) = true := beq_iff_eq.2 hz
          have HR := Lib.hid (show okA s = false by rw [HOK.out]; simp [hz])
          clear hv f1 f2 hp1 hp2 hz
          go_wp2_with (first
            | (go_at_call 72; refine (HZ.out _).mono ?_; rintro e wq ⟨rfl, rfl⟩)
            | (go_at_call 73; refine (HW.out _).mono ?_; rintro e wq ⟨rfl, rfl⟩))
          go_meet
          exact ⟨by rw [HR.out] <;> rfl, rfl⟩
        have dz : (sz == 0) = false := beq_eq_false_iff_ne.2 hz
        have hz1 : 0 < sz := by have := HZ0.out; omega
        by_cases hw : wk = true
        · rw [hw] at HW
          have HR := Lib.hid (show okA s = false by rw [HOK.out]; simp [hv, f1, f2, hp2, verS, pubS, hw])
          clear hv f1 f2 hp1 hp2 hz hz1 hw
          go_wp2_with (first
            | (go_at_call 72; refine (HZ.out _).mono ?_; rintro e wq ⟨rfl, rfl⟩)
            | (go_at_call 73; refine (HW.out _).mono ?_; rintro e wq ⟨rfl, rfl⟩))
          go_meet
          exact ⟨by rw [HR.out] <;> rfl, rfl⟩
        have hw2 : wk = false := by simpa using hw
        rw [hw2] at HW
        have HR := Lib.hid (show okA s = true by rw [HOK.out]; simp [hv, f1, f2, hp2, verS, pubS, hz1, hw2])
        clear hv f1 f2 hp1 hp2 hz hz1 hw hw2
        go_wp2_with (first
          | (go_at_call 72; refine (HZ.out _).mono ?_; rintro e wq ⟨rfl, rfl⟩)
          | (go_at_call 73; refine (HW.out _).mono ?_; rintro e wq ⟨rfl, rfl⟩))
        go_meet
        exact ⟨by rw [HR.out] <;> rfl, rfl⟩
      have p2 : (s.pu != 27) = true := by rw [bne_iff_ne]; exact hp2
      have HR := Lib.hid (show okA s = false by rw [HOK.out]; simp [pubS, hp1, hp2])
      clear hv f1 f2 hp1 hp2
      go_wp2_with (first
        | (go_at_call 72; refine (HZ.out _).mono ?_; rintro e wq ⟨rfl, rfl⟩)
        | (go_at_call 73; refine (HW.out _).mono ?_; rintro e wq ⟨rfl, rfl⟩))
      go_meet
      exact ⟨by rw [HR.out] <;> rfl, rfl⟩
    have v6 : (s.ve != 6) = true := by rw [bne_iff_ne]; exact hv
    have HR := Lib.hid (show okA s = false by rw [HOK.out]; simp [verS, hv, hvn.out])
    clear hv
    go_wp2_with (first
      | (go_at_call 72; refine (HZ.out _).mono ?_; rintro e wq ⟨rfl, rfl⟩)
      | (go_at_call 73; refine (HW.out _).mono ?_; rintro e wq ⟨rfl, rfl⟩))
    go_meet
    exact ⟨by rw [HR.out] <;> rfl, rfl⟩
  obtain ⟨rfl, rfl⟩ := hcut
  clear HZ HW HOK HZ0
  by_cases ho : okA s = true
  rotate_left
  · have ho' : okA s = false := by simpa using ho
    have HR := Lib.hid (show mayG s = false by rw [mayG_eq, ho']; rfl)
    rw [ho']
    clear ho ho'
    go_wp2
    go_ret
    exact ⟨by rw [HR.out] <;> rfl, HB.out⟩
  have HG := Lib.hid (show mayG s = (saltOk s.ve s.ha s.salt.length && valOk s.pu s.value) by rw [mayG_eq, ho]; simp)
  have HV := Lib.hid (show s.ve = 4 ∨ s.ve = 6 from ver_nat (by
    cases hx : verS s.ve with
    | true => rfl
    | false => rw [okA, hx] at ho; simp at ho))
  rw [show (!okA s) = false by rw [ho]; rfl]
  clear ho
  go_upto_region 3 with fail
  have HL8 := Lib.hid HS.out.h8.2
  go_cut [69] from 47 (fun x wx => x = .bool (!saltOk s.ve s.ha s.salt.length) ∧ ∃ n, wx = wc.drewN n)
  case first =>
    by_cases hv : s.ve = 4
    · have v4 : (s.ve == 4) = true := beq_iff_eq.2 hv
      have v6 : (s.ve == 6) = false := beq_eq_false_iff_ne.2 (by omega)
      by_cases h0 : a.n8 = 0
      · have d1 : decide ((0 : Int) < (a.n8 : Int)) = false := decide_eq_false (by omega)
        have d2 : decide (0 < a.n8) = false := decide_eq_false (by omega)
        have HR := Lib.hid (show saltOk s.ve s.ha s.salt.length = true by rw [saltOk, if_pos hv, HL8.out, decide_eq_true h0])
        clear hv h0
        go_quiet ((go_at_call 16; exact Calls.quiet_of_same (HK.out _)))
        go_wp2_with fail
        go_meet
        exact ⟨by rw [HR.out] <;> rfl, _, rfl⟩
      have d1 : decide ((0 : Int) < (a.n8 : Int)) = true := decide_eq_true (by omega)
      have d2 : decide (0 < a.n8) = true := decide_eq_true (by omega)
      have HR := Lib.hid (show saltOk s.ve s.ha s.salt.length = false by rw [saltOk, if_pos hv, HL8.out, decide_eq_false h0])
      clear hv h0
      go_quiet ((go_at_call 16; exact Calls.quiet_of_same (HK.out _)))
      go_wp2_with fail
      go_meet
      exact ⟨by rw [HR.out] <;> rfl, _, rfl⟩
    have v4 : (s.ve == 4) = false := beq_eq_false_iff_ne.2 hv
    have v6 : (s.ve == 6) = true := beq_iff_eq.2 (by have := HV.out; omega)
    by_cases h0 : (a.n8 : Int) = saltS s.ha
    · have d1 : ((a.n8 : Int) != saltS s.ha) = false := by rw [bne_eq_false_iff_eq]; exact h0
      have HR := Lib.hid (show saltOk s.ve s.ha s.salt.length = true by rw [saltOk, if_neg hv, HL8.out, decide_eq_true h0])
      clear hv h0
      generalize saltS s.ha = sz at HK d1
      go_quiet ((go_at_call 16; exact Calls.quiet_of_same (HK.out _)))
      go_wp2_with fail
      go_meet
      exact ⟨by rw [HR.out] <;> rfl, _, rfl⟩
    have d1 : ((a.n8 : Int) != saltS s.ha) = true := by rw [bne_iff_ne]; exact h0
    have HR := Lib.hid (show saltOk s.ve s.ha s.salt.length = false by rw [saltOk, if_neg hv, HL8.out, decide_eq_false h0])
    clear hv h0
    generalize saltS s.ha = sz at HK d1
    go_quiet ((go_at_call 16; exact Calls.quiet_of_same (HK.out _)))
    go_wp2_with fail
    go_meet
    exact ⟨by rw [HR.out] <;> rfl, _, rfl⟩
  obtain ⟨rfl, nq, rfl⟩ := hcut
  have H4 := HH1.out.drewN nq
  generalize wc.drewN nq = w4 at H4 ⊢
  clear k0 k1 k2 k3 k4 k5 k6 k7 k8 k9 HK
  by_cases hs : saltOk s.ve s.ha s.salt.length = true
  rotate_left
  · have hs' : saltOk s.ve s.ha s.salt.length = false := by simpa using hs
    have HR := Lib.hid (show mayG s = false by rw [HG.out, hs']; rfl)
    rw [hs']
    clear hs hs'
    have HB4 := Lib.hid H4.B
    go_wp2
    go_ret
    exact ⟨by rw [HR.out] <;> rfl, HB4.out⟩
  have HG2 := Lib.hid (show mayG s = valOk s.pu s.value by rw [HG.out, hs]; rfl)
  rw [show (!saltOk s.ve s.ha s.salt.length) = false by rw [hs]; rfl]
  clear hs
  have k2 : w4.cell? ⟨w.heap.size, 2, none⟩ = some (.int .i64 s.pu) := H4.cell 2
  have k9 : w4.cell? ⟨w.heap.size, 9, none⟩ = some (.slice a.A9 a.n9 a.c9) := H4.cell 9
  by_cases h4 : s.pu = 27
  · have d4 : (s.pu == 27) = true := beq_iff_eq.2 h4
    have HR := Lib.hid (show mayG s = ((a.n9 : Int) == 64) by
      rw [HG2.out, valOk, if_pos h4, HS.out.h9.2]
      by_cases h0 : a.n9 = 64
      · rw [h0]; rfl
      · rw [decide_eq_false h0, beq_eq_false_iff_ne.2 (by omega)])
    clear h4
    have HB4 := Lib.hid H4.B
    go_wp2
    go_ret
    exact ⟨by rw [HR.out] <;> first | rfl | simp, HB4.out⟩
  have d4 : (s.pu == 27) = false := beq_eq_false_iff_ne.2 h4
  have HVo := Lib.hid (show mayG s = (decide (bytesN (nb s.value) = s.value) && decide (nbits (nb s.value) ≤ 16384)) by rw [HG2.out, valOk, if_neg h4])
  clear h4
  have H9 := H4.bs HS.out.h9
  have HRd := Lib.hid (rRead_calls H9 (Nat.le_trans hn (by omega)))
  have HL9 := Lib.hid H9.2
  go_upto_region 7 with fail
  by_cases hz : a.n9 = 0
  · have e0 : ((a.n9 : Int) == 0) = true := beq_iff_eq.2 (by omega)
    have hv0 : s.value = [] := List.eq_nil_of_length_eq_zero (by have := HL9.out; omega)
    have HR := Lib.hid (show mayG s = decide (nbits (nb s.value) ≤ 16384) by rw [HVo.out, decide_eq_true (bytes_nb.2 (.inl hv0))]; rfl)
    clear hz hv0
    have HH4 := Lib.hid H4
    have HH9 := Lib.hid H9
    clear H4 H9
    go_wp2_with fail
    refine HRd.out.mono ?_
    rintro e w5 ⟨A5, m5, c5, xs, rfl, hr5, hlo, htr, hnum, hA5, hm5, hb5⟩
    have H5 := Lib.hid (HH4.out.below hb5)
    have HBt := Lib.hid (rBits_calls hr5 hlo (by omega))
    rw [hnum] at HBt
    generalize nbits (nb s.value) = z at HBt HR
    clear hr5 hlo htr hnum hA5 hm5 hb5
    go_wp2_with fail
    refine HBt.out.mono ?_
    rintro e w6 ⟨rfl, hb6⟩
    have H6 := Lib.hid (H5.out.below hb6)
    clear hb6
    go_wp2
    go_ret
    exact ⟨by rw [HR.out]; simp; omega, H6.out.B⟩
  have e0 : ((a.n9 : Int) == 0) = false := beq_eq_false_iff_ne.2 (by omega)
  obtain ⟨x, r, hxr⟩ : ∃ x r, s.value = x :: r := by
    cases hv : s.value with
    | nil => have := HL9.out; rw [hv] at this; simp at this; omega
    | cons x r => exact ⟨x, r, rfl⟩
  obtain ⟨b, off, hA, hbl, hc0⟩ := H9.byte (k := 0) (by rw [hxr]; simp)
  have q0 : w4.cell? ⟨b, off, none⟩ = some (.int .u8 (x.toNat : Int)) := by simpa [hxr] using hc0
  have hi0 : (0 : Int) < (a.n9 : Int) := by omega
  have HX := Lib.hid hxr
  rw [hA] at HRd
  clear hc0 hxr hz
  by_cases hx : x = 0
  · have d6 : ((x.toNat : Int) != 0) = false := by rw [hx]; rfl
    have HR := Lib.hid (show mayG s = false by
      rw [HVo.out, decide_eq_false (fun h => by
        rcases bytes_nb.1 h with h | ⟨y, t, h, hy⟩
        · rw [HX.out] at h; cases h
        · rw [HX.out] at h; injection h with h1 h2; exact hy (h1 ▸ hx))]
      rfl)
    clear hx
    have HB4 := Lib.hid H4.B
    go_wp2
    go_ret
    exact ⟨by rw [HR.out] <;> first | rfl | simp, HB4.out⟩
  have d6 : ((x.toNat : Int) != 0) = true := by rw [bne_iff_ne]; intro h; exact hx (UInt8.toNat_inj.1 (by simpa using h))
  have HR := Lib.hid (show mayG s = decide (nbits (nb s.value) ≤ 16384) by rw [HVo.out, decide_eq_true (bytes_nb.2 (.inr ⟨x, r, HX.out, hx⟩))]; rfl)
  clear hx
  have HH4 := Lib.hid H4
  have HH9 := Lib.hid H9
  clear H4 H9
  go_wp2_with fail
  refine HRd.out.mono ?_
  rintro e w5 ⟨A5, m5, c5, xs, rfl, hr5, hlo, htr, hnum, hA5, hm5, hb5⟩
  have H5 := Lib.hid (HH4.out.below hb5)
  have HBt := Lib.hid (rBits_calls hr5 hlo (by omega))
  rw [hnum] at HBt
  generalize nbits (nb s.value) = z at HBt HR
  clear hr5 hlo htr hnum hA5 hm5 hb5
  go_wp2_with fail
  refine HBt.out.mono ?_
  rintro e w6 ⟨rfl, hb6⟩
  have H6 := Lib.hid (H5.out.below hb6)
  clear hb6
  go_wp2
  go_ret
  exact ⟨by rw [HR.out]; simp; omega, H6.out.B⟩
end Go.Proofs.Ytjbnoamoadaknaa
end
