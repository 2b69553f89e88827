/- mpi: putting a number. -/
import Derived.Test.YtcakdlfhmdkocaaNk
import Derived.Test.YtcakdlfhmdkocaaPut
namespace Go.Proofs.Ytcakdlfhmdkocaa
open Go.RowKit

theorem val_nb {l : List UInt8} (h : l.length ≤ 8) : val l = (nb l : Int) := by
  have := val_be h (nb_lt l)
  rwa [be_nb] at this
/-- A number behind bytes, with how many bits it has. -/
def mputS (l : List UInt8) (N : Nat) : List UInt8 × Int := if 16384 < nbits N then ([], 4) else (l ++ be 2 (nbits N) ++ bytesN N, 0)
theorem bytesN_length (N : Nat) : (bytesN N).length = nlen N := be_length _ _
theorem putS2 (l : List UInt8) {n : Nat} (h : n ≤ 16384) : putS l n 2 = (l ++ be 2 n, 0) := by
  rw [putS, if_pos ⟨by omega, by omega, by
    have : (2 : Int).toNat = 2 := rfl
    rw [this]; omega⟩]
  rfl
theorem nbits_words {xs : List Nat} {m : Nat} (hlo : Lo 4294967296 xs) (hm : xs.length = m) : nbits (num 4294967296 xs) ≤ 32 * m :=
  nbits_le_of (by have := num_lt (by decide : 0 < 4294967296) hlo; rw [hm, pow32] at this; exact this)

set_option maxRecDepth 100000 in
set_option maxHeartbeats 1600000 in
theorem mPut_calls {A D : Option Addr} {n c m d : Nat} {l : List UInt8} {xs : List Nat} {w : World} (h : Bs w A n c l) (hn : n ≤ 1000000) (h2 : Nr w .u32 D m d xs) (hlo : Lo 4294967296 xs) (hm : m ≤ 100000) :
    Calls Try.prog 15 #[.slice A n c, .slice D m d] w fun e w' => ∃ A' n' c' r, e = .returned (.tuple #[.slice A' n' c', .int .i64 r]) ∧ Own w' w.heap.size A' n' c' (mputS l (num 4294967296 xs)).1 ∧ r = (mputS l (num 4294967296 xs)).2 ∧ Below w.heap.size w w' := by
  have hB := nbits_words hlo h2.2
  have hbc := Bits_calls h2 hlo (by omega)
  have hyc := fun W (hW : Below w.heap.size w W) => Bytes_calls (h2.below hW) hlo (by omega)
  have hbl := bytesN_length (num 4294967296 xs)
  have hnl := nlen_le hlo h2.2
  have hP : nbits (num 4294967296 xs) ≤ 16384 → mputS l (num 4294967296 xs) = (l ++ be 2 (nbits (num 4294967296 xs)) ++ bytesN (num 4294967296 xs), 0) := fun e => by rw [mputS, if_neg (by omega)]
  have hQ : 16384 < nbits (num 4294967296 xs) → mputS l (num 4294967296 xs) = ([], 4) := fun e => by rw [mputS, if_pos e]
  rw [hbl.symm] at hnl
  generalize nlen (num 4294967296 xs) = k at hbl
  generalize bytesN (num 4294967296 xs) = by_ at hyc hbl hP hnl
  generalize mputS l (num 4294967296 xs) = R at hP hQ ⊢
  generalize nbits (num 4294967296 xs) = q at hB hbc hP hQ
  have HB := Lib.hid hbc
  have HY := Lib.hid hyc
  have hq16 := putS2 l (n := q)
  have HS := Lib.hid hq16
  clear hbc hyc hbl hq16
  by_cases hbig : 16384 < q
  · have HR := Lib.hid (hQ hbig)
    clear hP hQ
    go_enter Try.func15, Try.ntmps15
    go_wp2_with (go_at_call 30; refine HB.out.mono ?_; rintro e w1 ⟨rfl, hb1⟩)
    go_ret2
    rw [HR.out]
    exact ⟨_, _, _, _, rfl, Own.nil_ _ _, rfl, hb1⟩
  · have HR := Lib.hid (hP (by omega))
    clear hP hQ
    go_enter Try.func15, Try.ntmps15
    go_wp2_with (first
      | (go_at_call 30; refine HB.out.mono ?_; rintro e w1 ⟨rfl, hb1⟩; go_must (have h1 := h.below hb1))
      | (go_at_call 44; refine (Put_any h1 (by omega) q (by omega) 2).mono ?_; rw [HS.out (by omega)]; rintro e w2 ⟨A2, n2, c2, r2, rfl, ho2, hr2, hb2⟩; obtain rfl : r2 = 0 := hr2; go_must (have hB2 := below_then hb1 hb1.size hb2; have hn2 := ho2.2; have ho2 := ho2.lower (B' := w.heap.size) hb1.size))
      | (go_at_call 45; refine (HY.out _ hB2).mono ?_; rintro e w3 ⟨A3, n3, c3, rfl, ho3, hb3⟩; go_must (have hB3 := below_then hB2 hB2.size hb3; have ho2b := ho2.below hb3; have hn3 := ho3.2; have hll := h.2; rw [List.length_append, be_length] at hn2))
      | (at_builtin; refine app8 (.tmp 20) (.tmp 22) rfl rfl rfl ho2b rfl ho3.bs (by omega) hB3.size ?_; intro A4 c4 w4 hown4 hg4 hat4))
    go_ret2
    rw [HR.out]
    exact ⟨_, _, _, _, rfl, hown4, rfl, ho2b.grew hB3 hB3.size hg4⟩

set_option maxRecDepth 100000 in
set_option maxHeartbeats 1600000 in
theorem rmPut_calls {A D : Option Addr} {n c m d : Nat} {l : List UInt8} {xs : List Nat} {w : World} (h : Bs w A n c l) (hn : n ≤ 1000000) (h2 : Nr w .u32 D m d xs) (hlo : Lo 4294967296 xs) (hm : m ≤ 100000) :
    Calls Try.prog 16 #[.slice A n c, .slice D m d] w fun e w' => ∃ A' n' c' r, e = .returned (.tuple #[.slice A' n' c', .int .i64 r]) ∧ Own w' w.heap.size A' n' c' (mputS l (num 4294967296 xs)).1 ∧ r = (mputS l (num 4294967296 xs)).2 ∧ Below w.heap.size w w' := by
  have hB := nbits_words hlo h2.2
  have hbc := rBits_calls h2 hlo hm
  have hyc := fun W (hW : Below w.heap.size w W) => rBytes_calls (h2.below hW) hlo hm
  have hbl := bytesN_length (num 4294967296 xs)
  have hnl := nlen_le hlo h2.2
  have hP : nbits (num 4294967296 xs) ≤ 16384 → mputS l (num 4294967296 xs) = (l ++ be 2 (nbits (num 4294967296 xs)) ++ bytesN (num 4294967296 xs), 0) := fun e => by rw [mputS, if_neg (by omega)]
  have hQ : 16384 < nbits (num 4294967296 xs) → mputS l (num 4294967296 xs) = ([], 4) := fun e => by rw [mputS, if_pos e]
  rw [hbl.symm] at hnl
  generalize nlen (num 4294967296 xs) = k at hbl
  generalize bytesN (num 4294967296 xs) = by_ at hyc hbl hP hnl
  generalize mputS l (num 4294967296 xs) = R at hP hQ ⊢
  generalize nbits (num 4294967296 xs) = q at hB hbc hP hQ
  have HB := Lib.hid hbc
  have HY := Lib.hid hyc
  have hq16 := putS2 l (n := q)
  have HS := Lib.hid hq16
  clear hbc hyc hbl hq16
  by_cases hbig : 16384 < q
  · have HR := Lib.hid (hQ hbig)
    clear hP hQ
    go_enter Try.func16, Try.ntmps16
    go_wp2_with (go_at_call 46; refine HB.out.mono ?_; rintro e w1 ⟨rfl, hb1⟩)
    go_ret2
    rw [HR.out]
    exact ⟨_, _, _, _, rfl, Own.nil_ _ _, rfl, hb1⟩
  · have HR := Lib.hid (hP (by omega))
    clear hP hQ
    go_enter Try.func16, Try.ntmps16
    go_wp2_with (first
      | (go_at_call 46; refine HB.out.mono ?_; rintro e w1 ⟨rfl, hb1⟩; go_must (have h1 := h.below hb1))
      | (go_at_call 47; refine (rPut_any h1 (by omega) q (by omega) 2).mono ?_; rw [HS.out (by omega)]; rintro e w2 ⟨A2, n2, c2, r2, rfl, ho2, hr2, hb2⟩; obtain rfl : r2 = 0 := hr2; go_must (have hB2 := below_then hb1 hb1.size hb2; have hn2 := ho2.2; have ho2 := ho2.lower (B' := w.heap.size) hb1.size))
      | (go_at_call 48; refine (HY.out _ hB2).mono ?_; rintro e w3 ⟨A3, n3, c3, rfl, ho3, hb3⟩; go_must (have hB3 := below_then hB2 hB2.size hb3; have ho2b := ho2.below hb3; have hn3 := ho3.2; have hll := h.2; rw [List.length_append, be_length] at hn2))
      | (at_builtin; refine app8 (.tmp 20) (.tmp 22) rfl rfl rfl ho2b rfl ho3.bs (by omega) hB3.size ?_; intro A4 c4 w4 hown4 hg4 hat4))
    go_ret2
    rw [HR.out]
    exact ⟨_, _, _, _, rfl, hown4, rfl, ho2b.grew hB3 hB3.size hg4⟩
end Go.Proofs.Ytcakdlfhmdkocaa
