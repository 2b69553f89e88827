import Derived.Test.YtjbnoamoadaknaaYSigBack10
import Derived.Test.YtjbnoamoadaknaaYSigBack4
import Derived.Test.YtjbnoamoadaknaaYSigBack6
import Derived.StillTailTactics
import Derived.IntWalk
/- mpi: so many numbers. -/
section
namespace Go.Proofs.Ytjbnoamoadaknaa
open Go.RowKit

def mallT (l : List UInt8) : Nat → Nat → List Nat → List Nat × Int
  | 0, a, acc => if a < l.length then ([], 3) else (acc, 0)
  | k + 1, a, acc => if (mtakeS l a).2.1 ≠ 0 then ([], (mtakeS l a).2.1) else mallT l k (mtakeS l a).2.2 (acc ++ [(mtakeS l a).1])
def mallF (l : List UInt8) (n : Int) : List Nat × Int := if n < 0 ∨ 10 < n then ([], 1) else mallT l n.toNat 0 []

set_option maxRecDepth 100000 in
set_option maxHeartbeats 3200000 in
theorem mAll_calls {A : Option Addr} {n c : Nat} {l : List UInt8} (k : Int) {w : World} (h : Bs w A n c l) (hn : n ≤ 1000000) :
    Calls Try.prog 61 #[.slice A n c, .int .i64 k] w fun e w' => ∃ A' m' c' r, e = .returned (.tuple #[.slice A' m' c', .int .i64 r]) ∧ OwnNs w' w.heap.size none A' m' c' (mallF l k).1 ∧ r = (mallF l k).2 ∧ Below w.heap.size w w' := by
  by_cases h0 : k < 0
  · have ht := Lib.hid (show mallF l k = ([], 1) by rw [mallF, if_pos (.inl h0)])
    go_enter Try.func61, Try.ntmps61
    go_wp2
    go_ret2
    rw [ht.out]
    exact ⟨_, _, _, _, rfl, OwnNs.nil_ _ _ _, rfl, Below.refl _ _⟩
  · by_cases h10 : 10 < k
    · have ht := Lib.hid (show mallF l k = ([], 1) by rw [mallF, if_pos (.inr h10)])
      go_enter Try.func61, Try.ntmps61
      go_wp2
      go_ret2
      rw [ht.out]
      exact ⟨_, _, _, _, rfl, OwnNs.nil_ _ _ _, rfl, Below.refl _ _⟩
    · have ht := show mallF l k = mallT l k.toNat 0 [] by rw [mallF, if_neg (by omega)]
      obtain ⟨q, rfl⟩ := Int.eq_ofNat_of_zero_le (by omega : 0 ≤ k)
      rw [Int.toNat_natCast] at ht
      have HT := Lib.hid ht
      have hq : q ≤ 10 := by omega
      clear ht
      go_enter Try.func61, Try.ntmps61
      go_wp2_with (go_at_call 23; refine (Over_calls h (by omega)).mono ?_; rintro e w1 ⟨g, rfl, hg, hc, hb1⟩)
      have hgl := hc.lt
      go_loopw [7, 19] (fun o v wr => ∃ (i : Nat) (Ao : Option Addr) (mo co : Nat) (acc : List Nat) (a : Nat), i ≤ q ∧ v = .int .i64 i ∧ o = .slice Ao mo co ∧ mo ≤ i ∧ OwnNs wr (g + 1) (some g) Ao mo co acc ∧ Cur wr g a l ∧ Below w.heap.size w wr ∧ g < wr.heap.size ∧ Hid (mallT l (q - i) a acc = mallT l q 0 [])) (fun _ v _ => q - (intOf v).toNat)
      case atStart => exact ⟨0, none, 0, 0, [], 0, Nat.zero_le _, rfl, rfl, Nat.le_refl _, OwnNs.nil_ _ _ _, hc, hb1, hgl, Lib.hid rfl⟩
      case round =>
        obtain ⟨i, Ao, mo, co, acc, a, hi, rfl, rfl, hmo, hown, hcur, hbr, hgr, hfi⟩ := hrel
        clear hc hb1 hgl
        by_cases hlt : i < q
        · have hf := hfi.out
          rw [show q - i = (q - (i + 1)) + 1 by omega, mallT] at hf
          have htk := mtake_calls hcur
          generalize mtakeS l a = M at hf htk
          obtain ⟨N, r, a2⟩ := M
          simp only at hf htk
          have HK := Lib.hid htk
          clear htk
          by_cases hr0 : r = 0
          · rw [if_neg (by simp [hr0])] at hf
            have HF := Lib.hid hf
            subst hr0
            clear hf
            go_wp2_with (first
              | (go_at_call 82; refine HK.out.mono ?_; rintro e w2 ⟨A2, m2, c2, r2, rfl, hN2, hbk2, hr2, hc2, hg2⟩; obtain rfl : r2 = 0 := hr2; go_must (have hown2 := hown.other hg2; have hsz2 := hg2.size; have hB2 : Below w.heap.size w w2 := hbr.grown hg2 hbr.size (fun k e => by cases e; exact hg)))
              | (at_builtin; refine appNt (.tmp 29) (.tmp 31) rfl rfl rfl hown2 rfl hN2 (fun _ ad e e2 => ?_) (fun g2 e => ?_) (by omega) (by omega) ?_))
            focus
              have h1 := hbk2 ad e
              cases Ao with
              | none => cases e2
              | some a0 =>
                have e' : ad.block = a0.block := by injection e2
                have := (hown.blk a0 rfl).2
                omega
            focus
              injection e with e
              subst e
              exact ⟨by omega, fun ad e => by have h1 := hbk2 ad e; omega⟩
            intro A3 c3 w3 hown3 hg3
            have hc3 := hc2.grown hg3 (fun k e => by
              cases Ao with
              | none => cases e
              | some a0 => cases e; exact (hown2.blk _ rfl).1)
            have hB3 : Below w.heap.size w w3 := hB2.grown hg3 hB2.size (fun k e => by
              cases Ao with
              | none => cases e
              | some a0 => cases e; exact Nat.le_trans (show w.heap.size ≤ g + 1 by omega) (hown2.blk _ rfl).1)
            have hsz3 := hg3.size
            go_wp2
            go_roundw
            case rel => exact ⟨i + 1, A3, _, c3, _, a2, by omega, by go_num, rfl, by omega, hown3, hc3, hB3, by omega, HF⟩
            case measure => simp [intOf]; omega
          · rw [if_pos hr0] at hf
            have HF := Lib.hid hf
            have hne : (r != 0) = true := by rw [bne_iff_ne]; exact hr0
            clear hf
            go_wp2_with (go_at_call 82; refine HK.out.mono ?_; rintro e w2 ⟨A2, m2, c2, r2, rfl, hN2, hbk2, hr2, hc2, hg2⟩; obtain rfl : r2 = r := hr2; go_must (have hB2 : Below w.heap.size w w2 := hbr.grown hg2 hbr.size (fun k e => by cases e; exact hg)))
            go_ret2
            rw [HT.out, ← HF.out]
            exact ⟨_, _, _, _, rfl, OwnNs.nil_ _ _ _, rfl, hB2⟩
        · have hie : i = q := by omega
          have hf := hfi.out
          rw [hie, Nat.sub_self, mallT] at hf
          have hcl := hcur.len
          by_cases ha : a < l.length
          · rw [if_pos ha] at hf
            have HF := Lib.hid hf
            have hd : (0 : Int) < (l.length : Int) - (a : Int) := by omega
            clear hf
            go_wp2_with (go_at_call 79; refine (Left_calls hcur).mono ?_; rintro e w2 ⟨rfl, nq, rfl⟩)
            go_ret2
            rw [HT.out, ← HF.out]
            exact ⟨_, _, _, _, rfl, OwnNs.nil_ _ _ _, rfl, below_drewN hbr _⟩
          · rw [if_neg ha] at hf
            have HF := Lib.hid hf
            have hd : ¬ (0 : Int) < (l.length : Int) - (a : Int) := by omega
            clear hf
            go_wp2_with (go_at_call 79; refine (Left_calls hcur).mono ?_; rintro e w2 ⟨rfl, nq, rfl⟩)
            go_ret2
            rw [HT.out, ← HF.out]
            exact ⟨_, _, _, _, rfl, (hown.below (below_drewN (Below.refl _ _) nq)).free.lower (by omega), rfl, below_drewN hbr _⟩
end Go.Proofs.Ytjbnoamoadaknaa
end

/- mpi: there and back: plain laws. -/
section
namespace Go.Proofs.Ytjbnoamoadaknaa

theorem nlen_lt (N : Nat) : N < 256 ^ nlen N := by
  have h := nbits_lt N
  rw [pow256]
  refine Nat.lt_of_lt_of_le h (Nat.pow_le_pow_right (by decide) ?_)
  unfold nlen
  omega
theorem nb_bytesN (N : Nat) : nb (bytesN N) = N := by
  rw [bytesN, nb_be, Nat.mod_eq_of_lt (nlen_lt N)]
theorem nb_be2 {n : Nat} (h : n < 65536) : nb (be 2 n) = n := by
  rw [nb_be, Nat.mod_eq_of_lt (by omega)]
/-- A number is taken as it was put, with all that stands behind it. -/
theorem take_put {N : Nat} (h : nbits N ≤ 16384) (behind : List UInt8) : rTakeF (be 2 (nbits N) ++ bytesN N ++ behind) = (N, behind, 0) := by
  have hl2 : (be 2 (nbits N)).length = 2 := be_length _ _
  have hlb := bytesN_length N
  have e1 : (be 2 (nbits N) ++ bytesN N ++ behind).take 2 = be 2 (nbits N) := by
    rw [List.append_assoc, List.take_append_of_le_length (by omega), List.take_of_length_le (by omega)]
  have e2 : (be 2 (nbits N) ++ bytesN N ++ behind).drop 2 = bytesN N ++ behind := by
    rw [List.append_assoc, List.drop_append_of_le_length (by omega), List.drop_of_length_le (by omega), List.nil_append]
  have e3 : (bytesN N ++ behind).take (nlen N) = bytesN N := by
    rw [List.take_append_of_le_length (by omega), List.take_of_length_le (by omega)]
  have e4 : (be 2 (nbits N) ++ bytesN N ++ behind).drop (2 + nlen N) = behind := by
    rw [List.drop_append_of_le_length (by rw [List.length_append]; omega), List.drop_of_length_le (by rw [List.length_append]; omega), List.nil_append]
  have hlen : (be 2 (nbits N) ++ bytesN N ++ behind).length = 2 + nlen N + behind.length := by rw [List.length_append, List.length_append]; omega
  unfold rTakeF
  rw [e1, nb_be2 (by omega), e2, hlen, if_neg (by omega), if_neg (by omega)]
  have hk : (nbits N + 7) / 8 = nlen N := rfl
  rw [hk, if_neg (by omega), e3, nb_bytesN, if_neg (fun e => e rfl), e4]
/-- Without its last byte it is too short. -/
theorem take_put_short {N : Nat} (h : nbits N ≤ 16384) : (rTakeF ((be 2 (nbits N) ++ bytesN N).take (2 + nlen N - 1))).2.2 = 2 := by
  have hl2 : (be 2 (nbits N)).length = 2 := be_length _ _
  have hlb := bytesN_length N
  have hlen : ((be 2 (nbits N) ++ bytesN N).take (2 + nlen N - 1)).length = 2 + nlen N - 1 := by rw [List.length_take, List.length_append]; omega
  unfold rTakeF
  rw [hlen]
  rcases Nat.eq_zero_or_pos (nlen N) with h0 | hp
  · rw [if_pos (by omega)]
  · have e1 : ((be 2 (nbits N) ++ bytesN N).take (2 + nlen N - 1)).take 2 = be 2 (nbits N) := by
      rw [List.take_take, Nat.min_eq_left (by omega), List.take_append_of_le_length (by omega), List.take_of_length_le (by omega)]
    rw [if_neg (by omega), e1, nb_be2 (by omega), if_neg (by omega)]
    have hk : (nbits N + 7) / 8 = nlen N := rfl
    rw [hk, if_pos (by omega)]
/-- What is taken is put as it was. -/
theorem put_take {l : List UInt8} (h : (rTakeF l).2.2 = 0) : nbits (rTakeF l).1 ≤ 16384 ∧ be 2 (nbits (rTakeF l).1) ++ bytesN (rTakeF l).1 ++ (rTakeF l).2.1 = l := by
  unfold rTakeF at h ⊢
  split at h
  · cases h
  · rename_i h2
    rw [if_neg h2]
    split at h
    · cases h
    · rename_i hb
      rw [if_neg hb]
      split at h
      · cases h
      · rename_i hs
        rw [if_neg hs]
        split at h
        · cases h
        · rename_i hq
          rw [if_neg hq]
          have hq' : nbits (nb ((l.drop 2).take ((nb (l.take 2) + 7) / 8))) = nb (l.take 2) := Decidable.of_not_not hq
          simp only
          have hl : ((l.drop 2).take ((nb (l.take 2) + 7) / 8)).length = (nb (l.take 2) + 7) / 8 := by rw [List.length_take, List.length_drop]; omega
          have e1 : bytesN (nb ((l.drop 2).take ((nb (l.take 2) + 7) / 8))) = (l.drop 2).take ((nb (l.take 2) + 7) / 8) := by
            have hk : nlen (nb ((l.drop 2).take ((nb (l.take 2) + 7) / 8))) = ((l.drop 2).take ((nb (l.take 2) + 7) / 8)).length := by rw [hl]; unfold nlen; rw [hq']
            rw [bytesN, hk, be_nb]
          have e2 : be 2 (nb (l.take 2)) = l.take 2 := by
            have := be_nb (l.take 2)
            rwa [show (l.take 2).length = 2 by rw [List.length_take]; omega] at this
          refine ⟨by omega, ?_⟩
          rw [e1, hq', e2, ← List.drop_drop, List.append_assoc, List.take_append_drop, List.take_append_drop]
theorem rTakeF_err {l : List UInt8} (h : (rTakeF l).2.2 ≠ 0) : (rTakeF l).1 = 0 ∧ (rTakeF l).2.1 = [] := by
  unfold rTakeF at h ⊢
  split
  · exact ⟨rfl, rfl⟩
  · split
    · exact ⟨rfl, rfl⟩
    · split
      · exact ⟨rfl, rfl⟩
      · split
        · exact ⟨rfl, rfl⟩
        · rename_i h1 h2 h3 h4
          rw [if_neg h1, if_neg h2, if_neg h3, if_neg h4] at h
          exact absurd rfl h
end Go.Proofs.Ytjbnoamoadaknaa
end

/- A subpacket's length, and taking a subpacket. -/
section
namespace Go.Proofs.Ytjbnoamoadaknaa
open Go.RowKit

/-- The length at the beginning of b, what stands behind it, and why there is none. -/
def twoR (v : Nat) : List UInt8 → Nat × List UInt8 × Int
  | [] => (0, [], 2)
  | c :: r => ((v - 192) * 256 + c.toNat + 192, r, 0)
def slenR : List UInt8 → Nat × List UInt8 × Int
  | [] => (0, [], 2)
  | a :: b => if a.toNat < 192 then (a.toNat, b, 0) else if a.toNat < 255 then twoR a.toNat b else if b.length < 4 then (0, [], 2) else ((val (b.take 4)).toNat, b.drop 4, 0)

theorem drop_cons {l b : List UInt8} {a : Nat} {x : UInt8} (h : l.drop a = x :: b) : a < l.length ∧ l.drop (a + 1) = b ∧ a + 1 + b.length = l.length := by
  have h1 := congrArg List.length h
  simp only [List.length_drop, List.length_cons] at h1
  have h2 : l.drop (a + 1) = b := by rw [← List.drop_drop, h]; rfl
  exact ⟨by omega, h2, by omega⟩
theorem numS_one {l b : List UInt8} {a : Nat} {x : UInt8} (h : l.drop a = x :: b) : numS l a 1 = ((x.toNat : Int), 0, a + 1) := by
  obtain ⟨h1, h2, h3⟩ := drop_cons h
  unfold numS takeS
  rw [if_neg (by omega), if_neg (by omega), if_neg (by omega), h]
  have hx := x.toNat_lt
  simp [val, valStep]
  omega
theorem numS_one_none {l : List UInt8} {a : Nat} (h : l.drop a = []) (_ha : a ≤ l.length) : numS l a 1 = (0, 2, a) := by
  have h1 := congrArg List.length h
  simp only [List.length_drop, List.length_nil] at h1
  unfold numS takeS
  rw [if_neg (by omega), if_neg (by omega), if_pos (by omega)]
  rfl
theorem numS_four {l : List UInt8} {a : Nat} (h : 4 ≤ l.length - a) : numS l a 4 = (val ((l.drop a).take 4), 0, a + 4) := by
  unfold numS takeS
  rw [if_neg (by omega), if_neg (by omega), if_neg (by omega)]
  rfl
theorem numS_four_none {l : List UInt8} {a : Nat} (h : l.length - a < 4) (_ha : a ≤ l.length) : numS l a 4 = (0, 2, a) := by
  unfold numS takeS
  rw [if_neg (by omega), if_neg (by omega), if_pos (by omega)]
  rfl
theorem val_nb8 {l : List UInt8} (h : l.length ≤ 8) : val l = (nb l : Int) := by
  have := val_be h (nb_lt l)
  rwa [be_nb] at this
theorem val4_lt (l : List UInt8) (h : l.length ≤ 4) : 0 ≤ val l ∧ val l < 4294967296 := by
  rw [val_nb8 (by omega)]
  have h2 := nb_lt l
  have h3 : 256 ^ l.length ≤ 256 ^ 4 := Nat.pow_le_pow_right (by decide) h
  omega

/-- 'length' has answered. -/
def LenSaid (g : Nat) (l : List UInt8) (L : Nat × List UInt8 × Int) (e : Ending) (w' : World) : Prop :=
  ∃ (n r : Int) (a2 : Nat), e = .returned (.tuple #[.int .i64 n, .int .i64 r]) ∧ r = L.2.2 ∧ (r = 0 → n = (L.1 : Int) ∧ l.drop a2 = L.2.1) ∧ a2 ≤ l.length ∧ Cur w' g a2 l
set_option maxRecDepth 100000 in
set_option maxHeartbeats 3200000 in
theorem slength_calls {w : World} {g a : Nat} {l : List UInt8} (h : Cur w g a l) :
    Calls Try.prog 93 #[.pointer (some ⟨g, 0, none⟩)] w fun e w' => LenSaid g l (slenR (l.drop a)) e w' ∧ w.grownBy w' (some g) := by
  have hln := h.len
  have hn1 := Number_any h 1
  cases hd : l.drop a with
  | nil =>
    rw [numS_one_none hd hln.1] at hn1
    have HN := Lib.hid hn1
    clear hn1
    go_enter Try.func93, Try.ntmps93
    go_wp2_with (go_at_call 52; refine HN.out.mono ?_; rintro e w1 ⟨rfl, hc1, hg1⟩)
    go_ret2
    exact ⟨⟨_, _, a, rfl, rfl, (fun e => by cases e), hln.1, hc1⟩, hg1⟩
  | cons x b =>
    obtain ⟨ha1, hdb, hlb⟩ := drop_cons hd
    rw [numS_one hd] at hn1
    have hx := x.toNat_lt
    have hL : slenR (x :: b) = (if x.toNat < 192 then (x.toNat, b, 0) else if x.toNat < 255 then twoR x.toNat b else if b.length < 4 then (0, [], 2) else ((val (b.take 4)).toNat, b.drop 4, 0) : Nat × List UInt8 × Int) := rfl
    generalize x.toNat = v at hx hn1 hL
    have HN := Lib.hid hn1
    clear hn1
    by_cases h1 : v < 192
    · rw [if_pos h1] at hL
      have HL := Lib.hid hL
      clear hL
      go_enter Try.func93, Try.ntmps93
      go_wp2_with (go_at_call 52; refine HN.out.mono ?_; rintro e w1 ⟨rfl, hc1, hg1⟩)
      go_ret2
      rw [HL.out]
      exact ⟨⟨_, _, a + 1, rfl, rfl, (fun _ => ⟨rfl, hdb⟩), by omega, hc1⟩, hg1⟩
    · rw [if_neg h1] at hL
      by_cases h2 : v < 255
      · rw [if_pos h2] at hL
        have hn2 := fun (W : World) (hc : Cur W g (a + 1) l) => Number_any hc 1
        cases b with
        | nil =>
          rw [twoR] at hL
          rw [numS_one_none hdb (by omega)] at hn2
          have HN2 := Lib.hid hn2
          have HL := Lib.hid hL
          clear hL hn2
          go_enter Try.func93, Try.ntmps93
          go_wp2_with (first
            | (go_at_call 52; with_reducible refine HN.out.mono ?_; rintro e w1 ⟨rfl, hc1, hg1⟩)
            | (go_at_call 52; refine (HN2.out _ hc1).mono ?_; rintro e w2 ⟨rfl, hc2, hg2⟩))
          go_ret2
          rw [HL.out]
          exact ⟨⟨_, _, a + 1, rfl, rfl, (fun e => by cases e), by omega, hc2⟩, grown_trans hg1 hg2⟩
        | cons y r =>
          obtain ⟨hb1, hdr, hlr⟩ := drop_cons hdb
          rw [numS_one hdb] at hn2
          have hy := y.toNat_lt
          rw [twoR] at hL
          generalize y.toNat = u at hy hn2 hL
          have HN2 := Lib.hid hn2
          have HL := Lib.hid hL
          have h192 : 192 ≤ v := by omega
          clear hL hn2
          go_enter Try.func93, Try.ntmps93
          go_wp2_with (first
            | (go_at_call 52; with_reducible refine HN.out.mono ?_; rintro e w1 ⟨rfl, hc1, hg1⟩)
            | (go_at_call 52; refine (HN2.out _ hc1).mono ?_; rintro e w2 ⟨rfl, hc2, hg2⟩))
          go_ret2
          rw [HL.out]
          exact ⟨⟨_, _, a + 1 + 1, rfl, rfl, (fun _ => ⟨by simp only; omega, hdr⟩), by omega, hc2⟩, grown_trans hg1 hg2⟩
      · rw [if_neg h2] at hL
        have hn2 := fun (W : World) (hc : Cur W g (a + 1) l) => Number_any hc 4
        by_cases h4 : b.length < 4
        · rw [if_pos h4] at hL
          rw [numS_four_none (by omega) (by omega)] at hn2
          have HN2 := Lib.hid hn2
          have HL := Lib.hid hL
          clear hL hn2
          go_enter Try.func93, Try.ntmps93
          go_wp2_with (first
            | (go_at_call 52; with_reducible refine HN.out.mono ?_; rintro e w1 ⟨rfl, hc1, hg1⟩)
            | (go_at_call 52; refine (HN2.out _ hc1).mono ?_; rintro e w2 ⟨rfl, hc2, hg2⟩))
          go_ret2
          rw [HL.out]
          exact ⟨⟨_, _, a + 1, rfl, rfl, (fun e => by cases e), by omega, hc2⟩, grown_trans hg1 hg2⟩
        · rw [if_neg h4] at hL
          rw [numS_four (by omega), hdb] at hn2
          obtain ⟨v0, v1⟩ := val4_lt (b.take 4) (by rw [List.length_take]; omega)
          generalize val (b.take 4) = u at hn2 hL v0 v1
          have HN2 := Lib.hid hn2
          have HL := Lib.hid hL
          clear hL hn2
          go_enter Try.func93, Try.ntmps93
          go_wp2_with (first
            | (go_at_call 52; with_reducible refine HN.out.mono ?_; rintro e w1 ⟨rfl, hc1, hg1⟩)
            | (go_at_call 52; refine (HN2.out _ hc1).mono ?_; rintro e w2 ⟨rfl, hc2, hg2⟩))
          go_ret2
          rw [HL.out]
          exact ⟨⟨_, _, a + 1 + 4, rfl, rfl, (fun _ => ⟨by simp only; omega, by rw [← hdb, List.drop_drop]⟩), by omega, hc2⟩, grown_trans hg1 hg2⟩
end Go.Proofs.Ytjbnoamoadaknaa
end
