/- The cursor's functions, further. -/
import Derived.Test.YtegbncngencfnaaCur
import Derived.Laws.BitsAllLaws
namespace Go.Proofs.Ytegbncngencfnaa
open Go.RowKit

set_option maxHeartbeats 400000 in
theorem Rest_calls {w : World} {g at_ : Nat} {l : List UInt8} (h : Cur w g at_ l) :
    Calls Try.prog 60 #[.pointer (some ⟨g, 0, none⟩)] w fun e w' => ∃ A' m c', e = .returned (.slice A' m c') ∧ Own w' w.heap.size A' m c' (l.drop at_) ∧ Cur w' g l.length l ∧ w.grownBy w' (some g) := by
  have hl := h.len
  have ht := Lib.hid (show takeS l at_ ((l.length : Int) - at_) = (l.drop at_, 0, l.length) by
    rw [takeS, if_neg (by omega), if_neg (by omega)]
    have e : ((l.length : Int) - at_).toNat = l.length - at_ := by omega
    rw [e, List.take_of_length_le (by simp)]
    congr 2; omega)
  go_enter Try.func60, Try.ntmps60
  go_wp2_with (first
    | (go_at_call 52; refine (Left_calls h).mono ?_; rintro e w1 ⟨rfl, nq, rfl⟩)
    | (go_at_call 80; refine (Take_any (h.drewN nq) _).mono ?_; rintro e w1 ⟨A1, m, c1, r, rfl, h2, h3, h4, h5⟩; rw [ht.out] at h2 h4; clear h3))
  go_ret
  exact ⟨_, _, _, rfl, h2, h4, grown_trans (grown_of_below (below_drewN (Below.refl _ _) nq) _) h5⟩

/-- What a number of width wd at place at_ of l comes to: the number, the error, the place. -/
def numS (l : List UInt8) (at_ : Nat) (wd : Int) : Int × Int × Nat :=
  if wd < 1 ∨ 8 < wd then (0, 1, at_) else (val (takeS l at_ wd).1, (takeS l at_ wd).2.1, (takeS l at_ wd).2.2)

theorem or_step (n : Int) (b : UInt8) : bits BinOp.or IntKind.u64 (IntKind.u64.wrap (n * 256)) (IntKind.u64.wrap (b.toNat : Int)) = valStep n b := by
  have hb := b.toNat_lt
  rw [IntKind.wrap_u64, IntKind.wrap_u64, u64_or _ _ (by omega) (by omega) (by omega) (by omega), nat_join 8 _ _ (by omega) (by omega)]
  unfold valStep
  omega

set_option maxHeartbeats 800000 in
theorem Number_any {w : World} {g at_ : Nat} {l : List UInt8} (h : Cur w g at_ l) (n : Int) :
    Calls Try.prog 73 #[.pointer (some ⟨g, 0, none⟩), .int .i64 n] w fun e w' => e = .returned (.tuple #[.int .u64 (numS l at_ n).1, .int .i64 (numS l at_ n).2.1]) ∧ Cur w' g (numS l at_ n).2.2 l ∧ w.grownBy w' (some g) := by
  have hl := h.len
  by_cases h0 : n < 1
  · have ht := Lib.hid (show numS l at_ n = (0, 1, at_) by simp [numS, h0])
    go_enter Try.func73, Try.ntmps73
    go_wp2
    go_ret2
    rw [ht.out]
    exact ⟨rfl, h, World.grownBy.refl _ _⟩
  · by_cases h1 : 8 < n
    · have ht := Lib.hid (show numS l at_ n = (0, 1, at_) by simp [numS, h1])
      go_enter Try.func73, Try.ntmps73
      go_wp2
      go_ret2
      rw [ht.out]
      exact ⟨rfl, h, World.grownBy.refl _ _⟩
    · have ht := Lib.hid (show numS l at_ n = (val (takeS l at_ n).1, (takeS l at_ n).2.1, (takeS l at_ n).2.2) by simp [numS]; omega)
      have hle : (takeS l at_ n).1.length ≤ 8 := by
        unfold takeS
        split
        · simp
        · split
          · simp
          · simp; omega
      go_enter Try.func73, Try.ntmps73
      go_wp2_with (go_at_call 80; refine (Take_any h _).mono ?_; rintro e w1 ⟨A1, m, c1, r, rfl, h2, h3, h4, h5⟩; have hr := Lib.hid h3; clear h3)
      have hbs := h2.bs
      generalize hx : (takeS l at_ n).1 = xs at hbs hle
      have Hx := Lib.hid hx
      clear hx
      have hxl := hbs.len
      obtain rfl := hxl
      go_loop [8, 25] (fun v i => ∃ k : Nat, k ≤ xs.length ∧ i = .int .i64 k ∧ v = .int .u64 (val (xs.take k))) (fun _ i => xs.length - (intOf i).toNat)
      case atStart => exact ⟨0, Nat.zero_le _, rfl, rfl⟩
      case round =>
        obtain ⟨k, hk, rfl, rfl⟩ := hrel
        by_cases hlt : k < xs.length
        · obtain ⟨b, off, rfl, hb, hc⟩ := hbs.byte hlt
          have HS := Lib.hid (val_snoc (xs.take k) xs[k])
          have HT := Lib.hid (take_snoc xs k hlt)
          go_wp2
          go_round
          case rel => exact ⟨k + 1, by omega, by go_num, by rw [HT.out, HS.out, or_step]⟩
          case measure => simp [intOf]; omega
        · go_wp2
          go_ret2
          rw [ht.out, Hx.out, hr.out, List.take_of_length_le (by omega)]
          exact ⟨rfl, h4, h5⟩
end Go.Proofs.Ytegbncngencfnaa
