/- The check sum's functions, further. -/
import Derived.Test.YthopnficbgkebaaCrc
import Derived.ChangeKeysEq
namespace Go.Proofs.Ythopnficbgkebaa
open Go.RowKit

theorem ge_yes {q : Nat} (hq : q < 16777216) (h : 16777216 ≤ 2 * q) : decide ((16777216 : Int) ≤ (q : Int) * 2 % 4294967296) = true := by
  rw [decide_eq_true_iff]; omega
theorem ge_no {q : Nat} (hq : q < 16777216) (h : ¬ 16777216 ≤ 2 * q) : decide ((16777216 : Int) ≤ (q : Int) * 2 % 4294967296) = false := by
  rw [decide_eq_false_iff_not]; omega
theorem tmod_low (x : Nat) : Int.tmod (x : Int) 16777216 = ((x % 16777216 : Nat) : Int) := by
  rw [Int.tmod_eq_emod_of_nonneg (by omega)]; omega

set_option maxHeartbeats 800000 in
theorem rMore_calls (x : Nat) (hx : x < 4294967296) {A : Option Addr} {n c : Nat} {l : List UInt8} {w : World} (h : Bs w A n c l) :
    Calls Try.prog 19 #[.int .u32 (x : Int), .slice A n c] w fun e w' => e = .returned (.int .u32 (moreS x l : Nat)) ∧ w = w' := by
  have h1 := h.cap
  unfold maxLen at h1
  obtain rfl := h.len
  have hand := Lib.hid (tmod_low x)
  have h0 := Lib.hid (moreS_zero x)
  go_enter Try.func19, Try.ntmps19
  go_wp2
  go_loop [0, 5] (fun v i => ∃ k : Nat, k ≤ l.length ∧ i = .int .i64 k ∧ v = .int .u32 ((moreS x (l.take k) : Nat) : Int)) (fun _ i => l.length - (intOf i).toNat)
  case atStart => exact ⟨0, Nat.zero_le _, rfl, by rw [List.take_zero, ← h0.out]; exact int_u32 (by omega)⟩
  case round =>
    obtain ⟨j, hj, rfl, rfl⟩ := hrel
    by_cases hlt : j < l.length
    · obtain ⟨b, off, rfl, hb, hc⟩ := h.byte hlt
      have HS := Lib.hid (moreS_snoc (c := x) hlt)
      have hq := moreS_lt x (l.take j)
      have hbl := (l[j]).toNat_lt
      generalize hlj : l[j] = bj at HS hc hbl
      clear hlj
      generalize moreS x (l.take j) = q at HS hq ⊢
      have hs : q ^^^ (bj.toNat * 65536) < 16777216 := xor_lt24 hq (by omega)
      have hxs := Lib.hid (xor_start hq bj)
      have hst := stepS_def q bj
      generalize q ^^^ (bj.toNat * 65536) = s at hs hxs hst
      have Hst := Lib.hid hst
      have Hq := Lib.hid hq
      clear hst hq
      go_wp2_with fail
      go_loop [0, 6] (fun v i => ∃ k : Nat, k ≤ 8 ∧ i = .int .i64 k ∧ v = .int .u32 ((turnK k s : Nat) : Int)) (fun _ i => 8 - (intOf i).toNat)
      case atStart => exact ⟨0, by omega, rfl, by rw [turnK_zero]; exact int_u32 hxs.out⟩
      case round =>
        obtain ⟨k, hk, rfl, rfl⟩ := hrel
        by_cases hk8 : k < 8
        · have hp := turnK_lt hs k
          have Ht := Lib.hid (turnK_succ k s)
          generalize turnK k s = p at hp Ht
          by_cases hbig : 16777216 ≤ 2 * p
          · have ha := ge_yes hp hbig
            have Hb := Lib.hid hbig
            have Hp := Lib.hid hp
            clear hbig hp
            go_wp2
            go_round
            case rel => exact ⟨k + 1, by omega, by go_num, by rw [Ht.out, turn1_yes Hb.out]; exact int_u32 (xor_turn Hp.out)⟩
            case measure => simp [intOf]; omega
          · have ha := ge_no hp hbig
            have Hb := Lib.hid hbig
            have Hp := Lib.hid hp
            clear hbig hp
            go_wp2
            go_round
            case rel => exact ⟨k + 1, by omega, by go_num, by rw [Ht.out, turn1_no Hb.out]; exact int_u32 (by have := Hp.out; omega)⟩
            case measure => simp [intOf]; omega
        · obtain rfl : k = 8 := by omega
          go_wp2
          go_round
          case rel => exact ⟨j + 1, by omega, by go_num, by rw [HS.out, Hst.out]⟩
          case measure => simp [intOf]; omega
    · go_wp2
      go_ret
      exact ⟨ret_int (by rw [List.take_of_length_le (by omega)]), rfl⟩

set_option maxHeartbeats 400000 in
theorem rSum_calls {A : Option Addr} {n c : Nat} {l : List UInt8} {w : World} (h : Bs w A n c l) :
    Calls Try.prog 17 #[.slice A n c] w fun e w' => e = .returned (.int .u32 (moreS 11994318 l : Nat)) ∧ w = w' := by
  go_enter Try.func17, Try.ntmps17
  go_wp2_with (go_at_call 19; refine (rMore_calls 11994318 (by omega) h).mono ?_; rintro e w' ⟨rfl, rfl⟩)
  go_ret
  exact ⟨rfl, rfl⟩

/-- Three bytes as a value. -/
def arr3 (a b c : UInt8) : Value := .agg #[.int .u8 (a.toNat : Int), .int .u8 (b.toNat : Int), .int .u8 (c.toNat : Int)]
def by1 (c : Nat) : UInt8 := UInt8.ofNat (c / 65536)
def by2 (c : Nat) : UInt8 := UInt8.ofNat (c / 256)
def by3 (c : Nat) : UInt8 := UInt8.ofNat c

theorem arr3_of (c : Nat) : Value.agg #[Value.int IntKind.u8 ((c : Int) / 65536 % 256), Value.int IntKind.u8 ((c : Int) / 256 % 256), Value.int IntKind.u8 ((c : Int) % 256)] = arr3 (by1 c) (by2 c) (by3 c) := by
  have e1 : (((by1 c).toNat : Nat) : Int) = (c : Int) / 65536 % 256 := by simp [by1]
  have e2 : (((by2 c).toNat : Nat) : Int) = (c : Int) / 256 % 256 := by simp [by2]
  have e3 : (((by3 c).toNat : Nat) : Int) = (c : Int) % 256 := by simp [by3]
  unfold arr3
  rw [e1, e2, e3]
theorem or_read (a b c : UInt8) : bits BinOp.or IntKind.u32 (bits BinOp.or IntKind.u32 ((a.toNat : Int) % 4294967296 * 65536 % 4294967296) ((b.toNat : Int) % 4294967296 * 256 % 4294967296)) ((c.toNat : Int) % 4294967296) = ((a.toNat * 65536 + b.toNat * 256 + c.toNat : Nat) : Int) := by
  have ha := a.toNat_lt
  have hb := b.toNat_lt
  have hc := c.toNat_lt
  have e1 : (a.toNat : Int) % 4294967296 * 65536 % 4294967296 = ((a.toNat * 65536 : Nat) : Int) := by omega
  have e2 : (b.toNat : Int) % 4294967296 * 256 % 4294967296 = ((b.toNat * 256 : Nat) : Int) := by omega
  have e3 : (c.toNat : Int) % 4294967296 = ((c.toNat : Nat) : Int) := by omega
  rw [e1, e2, e3, u32_or_nat _ _ (by omega) (by omega)]
  have h1 := nat_join 16 (a.toNat * 65536) (b.toNat * 256) (by omega) (by omega)
  rw [h1, u32_or_nat _ _ (by omega) (by omega)]
  have h2 := nat_join 8 (a.toNat * 65536 + b.toNat * 256) c.toNat (by omega) (by omega)
  rw [h2]
/-- The number of three bytes. -/
def rd3 (a b c : UInt8) : Nat := a.toNat * 65536 + b.toNat * 256 + c.toNat
theorem rd3_lt (a b c : UInt8) : rd3 a b c < 16777216 := by
  have ha := a.toNat_lt
  have hb := b.toNat_lt
  have hc := c.toNat_lt
  unfold rd3
  omega
theorem by_rd3 (a b c : UInt8) : by1 (rd3 a b c) = a ∧ by2 (rd3 a b c) = b ∧ by3 (rd3 a b c) = c := by
  have ha := a.toNat_lt
  have hb := b.toNat_lt
  have hc := c.toNat_lt
  refine ⟨?_, ?_, ?_⟩ <;> (apply UInt8.toNat_inj.1; simp only [by1, by2, by3, rd3, UInt8.toNat_ofNat']; omega)
theorem rd3_by (c : Nat) : rd3 (by1 c) (by2 c) (by3 c) = c % 16777216 := by
  simp [by1, by2, by3, rd3]
  omega

set_option maxHeartbeats 400000 in
theorem Bytes_calls (c : Nat) (w : World) :
    Calls Try.prog 20 #[.int .u32 (c : Int)] w fun e w' => e = .returned (arr3 (by1 c) (by2 c) (by3 c)) ∧ Below w.heap.size w w' := by
  rw [← arr3_of]
  go_enter Try.func20, Try.ntmps20
  go_wp2
  exact bodyPost_ret (v := .agg #[Value.int IntKind.u8 ((c : Int) / 65536 % 256), Value.int IntKind.u8 ((c : Int) / 256 % 256), Value.int IntKind.u8 ((c : Int) % 256)]) (by simp [results, Try.results20, go_sem]) rfl ⟨rfl, (Below.refl _ _).alloc (Nat.le_refl _) _⟩

set_option maxHeartbeats 400000 in
theorem rBytes_calls (c : Nat) (w : World) :
    Calls Try.prog 21 #[.int .u32 (c : Int)] w fun e w' => e = .returned (arr3 (by1 c) (by2 c) (by3 c)) ∧ Below w.heap.size w w' := by
  rw [← arr3_of]
  go_enter Try.func21, Try.ntmps21
  go_wp2
  exact bodyPost_ret (v := .agg #[Value.int IntKind.u8 ((c : Int) / 65536 % 256), Value.int IntKind.u8 ((c : Int) / 256 % 256), Value.int IntKind.u8 ((c : Int) % 256)]) (by simp [results, Try.results21, go_sem]) rfl ⟨rfl, (Below.refl _ _).alloc (Nat.le_refl _) _⟩

set_option maxHeartbeats 400000 in
theorem Read_calls (a b c : UInt8) (w : World) :
    Calls Try.prog 22 #[arr3 a b c] w fun e w' => e = .returned (.int .u32 (rd3 a b c : Nat)) ∧ Below w.heap.size w w' := by
  unfold arr3 rd3
  rw [← or_read]
  go_enter Try.func22, Try.ntmps22
  go_wp2
  go_ret
  exact ⟨rfl, (Below.refl _ _).alloc (Nat.le_refl _) _⟩

set_option maxHeartbeats 400000 in
theorem rRead_calls (a b c : UInt8) (w : World) :
    Calls Try.prog 23 #[arr3 a b c] w fun e w' => e = .returned (.int .u32 (rd3 a b c : Nat)) ∧ Below w.heap.size w w' := by
  have ha := a.toNat_lt
  have hb := b.toNat_lt
  have hc := c.toNat_lt
  unfold arr3 rd3
  go_enter Try.func23, Try.ntmps23
  go_wp2
  go_ret
  exact ⟨ret_int (by omega), (Below.refl _ _).alloc (Nat.le_refl _) _⟩

theorem eql3 (x y z : Int) (W : World) : (binOp .eql 33 (.agg #[.int .u8 x, .int .u8 y, .int .u8 z]) (.agg #[.int .u8 x, .int .u8 y, .int .u8 z])).run Try.prog W = .ok (.bool true) W := by
  obtain ⟨i, hi, _, hsize, _⟩ := info_parts (P := Try.prog) (e := 5) (z := .int .u8 0) (size := 1) (bytes := 1) (by kernel_rfl)
  have h := run_equalIn_array (P := Try.prog) W 9999 #[.int .u8 x, .int .u8 y, .int .u8 z] #[.int .u8 x, .int .u8 y, .int .u8 z] Try.underlying33 hi
  have hc : Try.prog.cellsOf 5 = 1 := by kernel_rfl
  have h2 : (Op.eqItems 9999 5 (Try.prog.cellsOf 5) #[Value.int .u8 x, Value.int .u8 y, Value.int .u8 z] #[Value.int .u8 x, Value.int .u8 y, Value.int .u8 z] (List.range 3)).run Try.prog W = .ok true W := by
    rw [hc]
    simp [List.range, List.range.loop, Op.eqItems, go_sem]
  rw [h2] at h
  simp only [binOp, Op.equal, Op.maxDepth, Sem.run_bind]
  rw [h]
  simp
end Go.Proofs.Ythopnficbgkebaa
