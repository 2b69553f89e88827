/- The statements of layer 3: what the calls do. -/
import Derived.Test.YthopnficbgkebaaCrd
namespace Go.Proofs.Ythopnficbgkebaa
open Go.RowKit

set_option maxHeartbeats 400000 in
theorem alive3_calls (w : World) : Calls Try.prog 15 #[] w fun e w' => e = .returned (.bool true) ∧ Below w.heap.size w w' := by
  have hs := Sum_calls (Bs.nil_ w)
  rw [← moreS_zero, show ((11994318 % 16777216 : Nat) : Int) = 11994318 from rfl] at hs
  have hc := Bytes_calls 66051 w
  rw [show arr3 (by1 66051) (by2 66051) (by3 66051) = .agg #[.int .u8 1, .int .u8 2, .int .u8 3] by rfl] at hc
  have hr := fun w => Read_calls 1 2 3 w
  rw [show ((rd3 1 2 3 : Nat) : Int) = 66051 from rfl] at hr
  have hq := eql3
  have Hs := Lib.hid hs
  have Hc := Lib.hid hc
  have Hr := Lib.hid hr
  clear hs hc hr
  go_enter Try.func15, Try.ntmps15
  go_wp2_with fail
  refine Hs.out.mono ?_
  rintro e w' ⟨rfl, rfl⟩
  go_wp2_with fail
  refine Hc.out.mono ?_
  rintro e w1 ⟨rfl, hb1⟩
  go_wp2_with fail
  refine (Hr.out _).mono ?_
  rintro e w2 ⟨rfl, hb2⟩
  go_wp2
  go_ret
  exact ⟨rfl, below_then hb1 hb1.size hb2⟩

set_option maxHeartbeats 800000 in
theorem CrcSum_walk (x : Nat) (hx : x < 4294967296) {A : Option Addr} {n c : Nat} {l : List UInt8} {w : World} (h : Bs w A n c l) :
    Calls Try.prog 4 #[.int .u32 (x : Int), .slice A n c] w fun e w' => e = .returned (.bool true) ∧ Below w.heap.size w w' := by
  by_cases hn : 300 < n
  · go_enter Try.func4, Try.ntmps4
    go_wp2_with (go_at_call 15; refine (alive3_calls _).mono ?_; rintro e w1 ⟨rfl, hb1⟩)
    go_ret
    exact ⟨rfl, hb1⟩
  · go_enter Try.func4, Try.ntmps4
    go_wp2_with (at_builtin; refine app8 (.tmp 10) (.tmp 11) rfl rfl rfl (empty8 w) rfl (h.alloc _) (by omega) (by simp) ?_; intro A1 c1 w1 hown1 hg1 hat1)
    have hb1 := below_empty hg1
    simp only [Nat.zero_add, List.nil_append] at hown1
    clear hg1 hat1
    refine (alive3_calls _).mono ?_
    rintro e w2 ⟨rfl, hb2⟩
    have hB := below_then hb1 hb1.size hb2
    have h2 := h.below hB
    have ho2 := (hown1.below hb2).bs
    clear h hown1
    go_wp2_with (first
      | (go_at_call 16; refine (Sum_calls ho2).mono ?_; rintro e w' ⟨rfl, rfl⟩)
      | (go_at_call 17; refine (rSum_calls h2).mono ?_; rintro e w' ⟨rfl, rfl⟩)
      | (go_at_call 18; refine (More_calls x hx ho2).mono ?_; rintro e w' ⟨rfl, rfl⟩; have s1 := ho2.str; have s2 := h2.str)
      | (go_at_call 19; refine (rMore_calls x hx h2).mono ?_; rintro e w' ⟨rfl, rfl⟩))
    go_ret
    exact ⟨rfl, hB⟩

set_option maxHeartbeats 800000 in
theorem CrcPieces_walk {A D : Option Addr} {n m c d : Nat} {l k : List UInt8} {w : World} (h : Bs w A n c l) (h' : Bs w D m d k) :
    Calls Try.prog 6 #[.slice A n c, .slice D m d] w fun e w' => e = .returned (.bool true) ∧ Below w.heap.size w w' := by
  by_cases hn : 300 < n
  · go_enter Try.func6, Try.ntmps6
    go_wp2_with (go_at_call 15; refine (alive3_calls _).mono ?_; rintro e w1 ⟨rfl, hb1⟩)
    go_ret
    exact ⟨rfl, hb1⟩
  · by_cases hm : 300 < m
    · go_enter Try.func6, Try.ntmps6
      go_wp2_with (go_at_call 15; refine (alive3_calls _).mono ?_; rintro e w1 ⟨rfl, hb1⟩)
      go_ret
      exact ⟨rfl, hb1⟩
    · go_enter Try.func6, Try.ntmps6
      go_wp2_with (first
        | (at_builtin; refine app8 (.tmp 15) (.tmp 16) rfl rfl rfl (empty8 w) rfl (h.alloc _) (by omega) (by simp) ?_; intro A1 c1 w1 hown1 hg1 hat1; have hb1 := below_empty hg1; simp only [Nat.zero_add, List.nil_append] at hown1; clear hg1 hat1; have h1 := h'.below hb1)
        | (at_builtin; refine app8 (.tmp 18) (.tmp 19) rfl rfl rfl hown1 rfl h1 (by omega) hb1.size ?_; intro A2 c2 w2 hown2 hg2 hat2))
      have hb2 : Below w.heap.size w w2 := hb1.grown hg2 hb1.size (fun k hk => by
        cases A1 with
        | none => cases hk
        | some ad => cases hk; exact (hown1.blk _ rfl).1)
      clear hg2 hat2 h1 hown1 hb1
      refine (alive3_calls _).mono ?_
      rintro e w3 ⟨rfl, hb3⟩
      have hB := below_then hb2 hb2.size hb3
      have g1 := h.below hB
      have g2 := h'.below hB
      have g3 := (hown2.below hb3).bs
      have m1 := moreS_lt 11994318 l
      have S1 := Sum_calls g1
      have S3 := Sum_calls g3
      have M1 := More_calls (moreS 11994318 l) (by omega) g2
      have M2 := More_calls (moreS 11994318 l) (by omega) (Bs.nil_ w3)
      rw [moreS_append] at M1
      rw [moreS_nil] at M2
      have HS1 := Lib.hid S1
      have HS3 := Lib.hid S3
      have HM1 := Lib.hid M1
      have HM2 := Lib.hid M2
      clear S1 S3 M1 M2 g1 g2 g3 hown2 m1
      go_wp2_with fail
      refine HS1.out.mono ?_
      rintro e w' ⟨rfl, rfl⟩
      go_wp2_with fail
      refine HM1.out.mono ?_
      rintro e w' ⟨rfl, rfl⟩
      go_wp2_with fail
      refine HS3.out.mono ?_
      rintro e w' ⟨rfl, rfl⟩
      go_wp2_with fail
      refine HS1.out.mono ?_
      rintro e w' ⟨rfl, rfl⟩
      go_wp2_with fail
      refine HM2.out.mono ?_
      rintro e w' ⟨rfl, rfl⟩
      go_wp2_with fail
      refine HS1.out.mono ?_
      rintro e w' ⟨rfl, rfl⟩
      go_wp2
      go_ret
      exact ⟨rfl, hB⟩

theorem xor_u8 (a b : UInt8) : bits BinOp.xor IntKind.u8 (a.toNat : Int) (b.toNat : Int) = (((a ^^^ b).toNat : Nat) : Int) := by
  rw [u8_xor_nat _ _ a.toNat_lt b.toNat_lt, UInt8.toNat_xor]
theorem xor_ne (a b : UInt8) (h : b ≠ 0) : a ^^^ b ≠ a := by
  intro e
  have := congrArg (· ^^^ a) e
  simp only [UInt8.xor_comm a b, UInt8.xor_assoc, UInt8.xor_self, UInt8.xor_zero] at this
  exact h this

set_option maxHeartbeats 800000 in
theorem CrcOne_walk {A : Option Addr} {n c : Nat} {l : List UInt8} {w : World} (h : Bs w A n c l) (at_ : Int) (by_ : UInt8) :
    Calls Try.prog 7 #[.slice A n c, .int .i64 at_, .int .u8 (by_.toNat : Int)] w fun e w' => e = .returned (.bool true) ∧ Below w.heap.size w w' := by
  by_cases hn : 300 < n
  · go_enter Try.func7, Try.ntmps7
    go_wp2_with (go_at_call 15; refine (alive3_calls _).mono ?_; rintro e w1 ⟨rfl, hb1⟩)
    go_ret
    exact ⟨rfl, hb1⟩
  · by_cases h0 : at_ < 0
    · go_enter Try.func7, Try.ntmps7
      go_wp2_with (go_at_call 15; refine (alive3_calls _).mono ?_; rintro e w1 ⟨rfl, hb1⟩)
      go_ret
      exact ⟨rfl, hb1⟩
    · by_cases h1 : (n : Int) ≤ at_
      · go_enter Try.func7, Try.ntmps7
        go_wp2_with (go_at_call 15; refine (alive3_calls _).mono ?_; rintro e w1 ⟨rfl, hb1⟩)
        go_ret
        exact ⟨rfl, hb1⟩
      · by_cases hz : by_ = 0
        · have hz2 : ((by_.toNat : Int) == 0) = true := by subst hz; rfl
          clear hz
          go_enter Try.func7, Try.ntmps7
          go_wp2_with (go_at_call 15; refine (alive3_calls _).mono ?_; rintro e w1 ⟨rfl, hb1⟩)
          go_ret
          exact ⟨rfl, hb1⟩
        · have hz2 : ((by_.toNat : Int) == 0) = false := by
            rw [beq_eq_false_iff_ne]
            intro e
            exact hz (UInt8.toNat_inj.1 (by simpa using e))
          have Hz := Lib.hid hz
          clear hz
          obtain ⟨k, rfl⟩ := Int.eq_ofNat_of_zero_le (by omega : 0 ≤ at_)
          have hkn : k < n := by omega
          have hkl : k < l.length := by rw [h.len]; exact hkn
          go_enter Try.func7, Try.ntmps7
          go_wp2_with (at_builtin; refine app8 (.tmp 26) (.tmp 27) rfl rfl rfl (empty8 w) rfl (h.alloc _) (by omega) (by simp) ?_; intro A1 c1 w1 hown1 hg1 hat1; have hb1 := below_empty hg1; simp only [Nat.zero_add, List.nil_append] at hown1; clear hg1 hat1; obtain ⟨g, rfl, hgB, hgl, hcell, hfr, hset⟩ := hown1.at_ hkl; )
          have hown2 := hset (l[k] ^^^ by_)
          rw [← xor_u8] at hown2
          have hb2 : Below w.heap.size w (w1.setCell ⟨g, k, none⟩ (Value.int IntKind.u8 (bits BinOp.xor IntKind.u8 (l[k].toNat : Int) (by_.toNat : Int)))) := hb1.setCell hgB _
          clear hset hcell hfr hown1 hb1 hgl
          generalize w1.setCell ⟨g, k, none⟩ (Value.int IntKind.u8 (bits BinOp.xor IntKind.u8 (l[k].toNat : Int) (by_.toNat : Int))) = w2 at hown2 hb2 ⊢
          refine (alive3_calls _).mono ?_
          rintro e w3 ⟨rfl, hb3⟩
          have hB := below_then hb2 hb2.size hb3
          have HS1 := Lib.hid (Sum_calls (h.below hB))
          have HS2 := Lib.hid (Sum_calls (hown2.below hb3).bs)
          have hne : (((moreS 11994318 (l.set k (l[k] ^^^ by_)) : Nat) : Int) != ((moreS 11994318 l : Nat) : Int)) = true := by
            rw [bne_iff_ne]
            intro e
            exact moreS_one 11994318 l k hkl _ (xor_ne _ _ Hz.out) (by omega)
          clear hown2 Hz
          go_wp2_with fail
          refine HS2.out.mono ?_
          rintro e w' ⟨rfl, rfl⟩
          go_wp2_with fail
          refine HS1.out.mono ?_
          rintro e w' ⟨rfl, rfl⟩
          go_wp2
          go_ret
          exact ⟨rfl, hB⟩
end Go.Proofs.Ythopnficbgkebaa
