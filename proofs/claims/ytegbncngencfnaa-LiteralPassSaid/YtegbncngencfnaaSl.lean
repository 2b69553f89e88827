/- A subpacket's length, and taking a subpacket. -/
import Derived.Test.YtegbncngencfnaaSk
import Derived.Test.YtegbncngencfnaaNu
import Derived.StillTailTactics
import Derived.IntWalk
namespace Go.Proofs.Ytegbncngencfnaa
open Go.RowKit

/-- The length at the beginning of b, what stands behind it, and why there is none. -/
def twoR (v : Nat) : List UInt8 → Nat × List UInt8 × Int
  | [] => (0, [], 2)
  | c :: r => ((v - 192) * 256 + c.toNat + 192, r, 0)
def slenR : List UInt8 → Nat × List UInt8 × Int
  | [] => (0, [], 2)
  | a :: b => if a.toNat < 192 then (a.toNat, b, 0) else if a.toNat < 255 then twoR a.toNat b else if b.length < 4 then (0, [], 2) else ((val (b.take 4)).toNat, b.drop 4, 0)

theorem drop_cons {l b : List UInt8} {a : Nat} {x : UInt8} (h : l.drop a = x :: b) : a < l.length ∧ l.drop (a + 1) = b ∧ a + 1 + b.length = l.length := by
  have h1 := congrArg List.length h
  simp only [List.length_drop, List.length_cons] at h1
  have h2 : l.drop (a + 1) = b := by rw [← List.drop_drop, h]; rfl
  exact ⟨by omega, h2, by omega⟩
theorem numS_one {l b : List UInt8} {a : Nat} {x : UInt8} (h : l.drop a = x :: b) : numS l a 1 = ((x.toNat : Int), 0, a + 1) := by
  obtain ⟨h1, h2, h3⟩ := drop_cons h
  unfold numS takeS
  rw [if_neg (by omega), if_neg (by omega), if_neg (by omega), h]
  have hx := x.toNat_lt
  simp [val, valStep]
  omega
theorem numS_one_none {l : List UInt8} {a : Nat} (h : l.drop a = []) (_ha : a ≤ l.length) : numS l a 1 = (0, 2, a) := by
  have h1 := congrArg List.length h
  simp only [List.length_drop, List.length_nil] at h1
  unfold numS takeS
  rw [if_neg (by omega), if_neg (by omega), if_pos (by omega)]
  rfl
theorem numS_four {l : List UInt8} {a : Nat} (h : 4 ≤ l.length - a) : numS l a 4 = (val ((l.drop a).take 4), 0, a + 4) := by
  unfold numS takeS
  rw [if_neg (by omega), if_neg (by omega), if_neg (by omega)]
  rfl
theorem numS_four_none {l : List UInt8} {a : Nat} (h : l.length - a < 4) (_ha : a ≤ l.length) : numS l a 4 = (0, 2, a) := by
  unfold numS takeS
  rw [if_neg (by omega), if_neg (by omega), if_pos (by omega)]
  rfl
theorem val_nb8 {l : List UInt8} (h : l.length ≤ 8) : val l = (nb l : Int) := by
  have := val_be h (nb_lt l)
  rwa [be_nb] at this
theorem val4_lt (l : List UInt8) (h : l.length ≤ 4) : 0 ≤ val l ∧ val l < 4294967296 := by
  rw [val_nb8 (by omega)]
  have h2 := nb_lt l
  have h3 : 256 ^ l.length ≤ 256 ^ 4 := Nat.pow_le_pow_right (by decide) h
  omega

/-- 'length' has answered. -/
def LenSaid (g : Nat) (l : List UInt8) (L : Nat × List UInt8 × Int) (e : Ending) (w' : World) : Prop :=
  ∃ (n r : Int) (a2 : Nat), e = .returned (.tuple #[.int .i64 n, .int .i64 r]) ∧ r = L.2.2 ∧ (r = 0 → n = (L.1 : Int) ∧ l.drop a2 = L.2.1) ∧ a2 ≤ l.length ∧ Cur w' g a2 l
set_option maxRecDepth 100000 in
set_option maxHeartbeats 3200000 in
theorem slength_calls {w : World} {g a : Nat} {l : List UInt8} (h : Cur w g a l) :
    Calls Try.prog 79 #[.pointer (some ⟨g, 0, none⟩)] w fun e w' => LenSaid g l (slenR (l.drop a)) e w' ∧ w.grownBy w' (some g) := by
  have hln := h.len
  have hn1 := Number_any h 1
  cases hd : l.drop a with
  | nil =>
    rw [numS_one_none hd hln.1] at hn1
    have HN := Lib.hid hn1
    clear hn1
    go_enter Try.func79, Try.ntmps79
    go_wp2_with (go_at_call 73; refine HN.out.mono ?_; rintro e w1 ⟨rfl, hc1, hg1⟩)
    go_ret2
    exact ⟨⟨_, _, a, rfl, rfl, (fun e => by cases e), hln.1, hc1⟩, hg1⟩
  | cons x b =>
    obtain ⟨ha1, hdb, hlb⟩ := drop_cons hd
    rw [numS_one hd] at hn1
    have hx := x.toNat_lt
    have hL : slenR (x :: b) = (if x.toNat < 192 then (x.toNat, b, 0) else if x.toNat < 255 then twoR x.toNat b else if b.length < 4 then (0, [], 2) else ((val (b.take 4)).toNat, b.drop 4, 0) : Nat × List UInt8 × Int) := rfl
    generalize x.toNat = v at hx hn1 hL
    have HN := Lib.hid hn1
    clear hn1
    by_cases h1 : v < 192
    · rw [if_pos h1] at hL
      have HL := Lib.hid hL
      clear hL
      go_enter Try.func79, Try.ntmps79
      go_wp2_with (go_at_call 73; refine HN.out.mono ?_; rintro e w1 ⟨rfl, hc1, hg1⟩)
      go_ret2
      rw [HL.out]
      exact ⟨⟨_, _, a + 1, rfl, rfl, (fun _ => ⟨rfl, hdb⟩), by omega, hc1⟩, hg1⟩
    · rw [if_neg h1] at hL
      by_cases h2 : v < 255
      · rw [if_pos h2] at hL
        have hn2 := fun (W : World) (hc : Cur W g (a + 1) l) => Number_any hc 1
        cases b with
        | nil =>
          rw [twoR] at hL
          rw [numS_one_none hdb (by omega)] at hn2
          have HN2 := Lib.hid hn2
          have HL := Lib.hid hL
          clear hL hn2
          go_enter Try.func79, Try.ntmps79
          go_wp2_with (first
            | (go_at_call 73; with_reducible refine HN.out.mono ?_; rintro e w1 ⟨rfl, hc1, hg1⟩)
            | (go_at_call 73; refine (HN2.out _ hc1).mono ?_; rintro e w2 ⟨rfl, hc2, hg2⟩))
          go_ret2
          rw [HL.out]
          exact ⟨⟨_, _, a + 1, rfl, rfl, (fun e => by cases e), by omega, hc2⟩, grown_trans hg1 hg2⟩
        | cons y r =>
          obtain ⟨hb1, hdr, hlr⟩ := drop_cons hdb
          rw [numS_one hdb] at hn2
          have hy := y.toNat_lt
          rw [twoR] at hL
          generalize y.toNat = u at hy hn2 hL
          have HN2 := Lib.hid hn2
          have HL := Lib.hid hL
          have h192 : 192 ≤ v := by omega
          clear hL hn2
          go_enter Try.func79, Try.ntmps79
          go_wp2_with (first
            | (go_at_call 73; with_reducible refine HN.out.mono ?_; rintro e w1 ⟨rfl, hc1, hg1⟩)
            | (go_at_call 73; refine (HN2.out _ hc1).mono ?_; rintro e w2 ⟨rfl, hc2, hg2⟩))
          go_ret2
          rw [HL.out]
          exact ⟨⟨_, _, a + 1 + 1, rfl, rfl, (fun _ => ⟨by simp only; omega, hdr⟩), by omega, hc2⟩, grown_trans hg1 hg2⟩
      · rw [if_neg h2] at hL
        have hn2 := fun (W : World) (hc : Cur W g (a + 1) l) => Number_any hc 4
        by_cases h4 : b.length < 4
        · rw [if_pos h4] at hL
          rw [numS_four_none (by omega) (by omega)] at hn2
          have HN2 := Lib.hid hn2
          have HL := Lib.hid hL
          clear hL hn2
          go_enter Try.func79, Try.ntmps79
          go_wp2_with (first
            | (go_at_call 73; with_reducible refine HN.out.mono ?_; rintro e w1 ⟨rfl, hc1, hg1⟩)
            | (go_at_call 73; refine (HN2.out _ hc1).mono ?_; rintro e w2 ⟨rfl, hc2, hg2⟩))
          go_ret2
          rw [HL.out]
          exact ⟨⟨_, _, a + 1, rfl, rfl, (fun e => by cases e), by omega, hc2⟩, grown_trans hg1 hg2⟩
        · rw [if_neg h4] at hL
          rw [numS_four (by omega), hdb] at hn2
          obtain ⟨v0, v1⟩ := val4_lt (b.take 4) (by rw [List.length_take]; omega)
          generalize val (b.take 4) = u at hn2 hL v0 v1
          have HN2 := Lib.hid hn2
          have HL := Lib.hid hL
          clear hL hn2
          go_enter Try.func79, Try.ntmps79
          go_wp2_with (first
            | (go_at_call 73; with_reducible refine HN.out.mono ?_; rintro e w1 ⟨rfl, hc1, hg1⟩)
            | (go_at_call 73; refine (HN2.out _ hc1).mono ?_; rintro e w2 ⟨rfl, hc2, hg2⟩))
          go_ret2
          rw [HL.out]
          exact ⟨⟨_, _, a + 1 + 4, rfl, rfl, (fun _ => ⟨by simp only; omega, by rw [← hdb, List.drop_drop]⟩), by omega, hc2⟩, grown_trans hg1 hg2⟩
end Go.Proofs.Ytegbncngencfnaa
