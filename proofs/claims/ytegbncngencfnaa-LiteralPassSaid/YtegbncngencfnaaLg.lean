/- A one-pass packet's body: literal.EmitPass. -/
import Derived.Test.YtegbncngencfnaaLa
import Derived.Test.YtegbncngencfnaaSp
import Derived.Test.YtegbncngencfnaaSt
namespace Go.Proofs.Ytegbncngencfnaa
open Go.RowKit

/-- Whether a one-pass packet may be. -/
def okP (v ty ha pu : Int) (salt iss : List UInt8) : Prop :=
  (sizeS v ha).2.2 = true ∧ 0 ≤ ty ∧ ty ≤ 255 ∧ mayS ha v = true ∧ pubS pu = true ∧ (salt.length : Int) = (sizeS v ha).1 ∧ (iss.length : Int) = (sizeS v ha).2.1
instance (v ty ha pu : Int) (salt iss : List UInt8) : Decidable (okP v ty ha pu salt iss) := by unfold okP; infer_instance
def saltB (v : Int) (salt : List UInt8) : List UInt8 := if v = 6 then UInt8.ofNat salt.length :: salt else []
/-- A one-pass packet's body, or why it may not be. -/
def emitP (v ty ha pu : Int) (salt iss : List UInt8) (la : Bool) : List UInt8 × Int :=
  if okP v ty ha pu salt iss then ([UInt8.ofNat v.toNat, UInt8.ofNat ty.toNat, UInt8.ofNat ha.toNat, UInt8.ofNat pu.toNat] ++ saltB v salt ++ iss ++ [if la then 1 else 0], 0) else ([], 1)
theorem may_nat {a v : Int} (h : mayS a v = true) : 0 ≤ a ∧ a ≤ 255 := by
  have h1 : 0 < hashS a := by simp [mayS] at h; exact h.1
  unfold hashS at h1
  repeat' split at h1
  all_goals omega
theorem pub_nat {a : Int} (h : pubS a = true) : 0 ≤ a ∧ a ≤ 255 := by
  simp [pubS] at h
  omega
theorem bvs4 (k a b c : Nat) (hk : k ≤ 255) (ha : a ≤ 255) (hb : b ≤ 255) (hc : c ≤ 255) : (#[Value.int .u8 (k : Int), .int .u8 (a : Int), .int .u8 (b : Int), .int .u8 (c : Int)] : Array Value).toList = bvs [UInt8.ofNat k, UInt8.ofNat a, UInt8.ofNat b, UInt8.ofNat c] := by
  have h1 : k % 256 = k := by omega
  have h2 : a % 256 = a := by omega
  have h3 : b % 256 = b := by omega
  have h4 : c % 256 = c := by omega
  simp [bv, h1, h2, h3, h4]
theorem bvs1a (k : Nat) (hk : k ≤ 255) : (#[Value.int .u8 (k : Int)] : Array Value).toList = bvs [UInt8.ofNat k] := by
  have h1 : k % 256 = k := by omega
  simp [bv, h1]

set_option maxRecDepth 100000 in
set_option maxHeartbeats 3200000 in
theorem EmitPass_calls (v ty ha pu : Int) {As Ai : Option Addr} {ns cs ni ci : Nat} {salt iss : List UInt8} (la : Bool) {w : World} (hs : Bs w As ns cs salt) (hi : Bs w Ai ni ci iss) :
    Calls Try.prog 41 #[.agg #[.int .i64 v, .int .i64 ty, .int .i64 ha, .int .i64 pu, .slice As ns cs, .slice Ai ni ci, .bool la]] w fun e w' => ∃ A' m' c' r, e = .returned (.tuple #[.slice A' m' c', .int .i64 r]) ∧ Own w' w.heap.size A' m' c' (emitP v ty ha pu salt iss la).1 ∧ r = (emitP v ty ha pu salt iss la).2 ∧ Below w.heap.size w w' := by
  obtain rfl := hs.2
  obtain rfl := hi.2
  have HE := Lib.hid (show emitP v ty ha pu salt iss la = if okP v ty ha pu salt iss then ([UInt8.ofNat v.toNat, UInt8.ofNat ty.toNat, UInt8.ofNat ha.toNat, UInt8.ofNat pu.toNat] ++ saltB v salt ++ iss ++ [if la then 1 else 0], 0) else ([], 1) from rfl)
  have HO := Lib.hid (show okP v ty ha pu salt iss ↔ (sizeS v ha).2.2 = true ∧ 0 ≤ ty ∧ ty ≤ 255 ∧ mayS ha v = true ∧ pubS pu = true ∧ (salt.length : Int) = (sizeS v ha).1 ∧ (iss.length : Int) = (sizeS v ha).2.1 from Iff.rfl)
  have HMN := Lib.hid (fun h => may_nat (a := ha) (v := v) h)
  have HPN := Lib.hid (fun h => pub_nat (a := pu) h)
  have HSV := Lib.hid (show sizeS v ha = if v = 3 then (0, 8, true) else if v = 6 then (saltS ha, 32, true) else (0, 0, false) from rfl)
  have HZ := Lib.hid (fun W => sizes_calls v ha W)
  have HM := Lib.hid (fun W => isHash_calls ha v W)
  have HP := Lib.hid (fun W => isPub_calls pu W)
  have HSR := Lib.hid (saltS_range ha)
  generalize sizeS v ha = z at HO HZ HSV
  generalize mayS ha v = mb at HO HM HMN
  generalize pubS pu = pb at HO HP HPN
  obtain ⟨z1, z2, z3⟩ := z
  have hnew := heap_alloc_new w (.cells #[.int .i64 v, .int .i64 ty, .int .i64 ha, .int .i64 pu, .slice As salt.length cs, .slice Ai iss.length ci, .bool la] 42)
  have hba := (Below.refl w.heap.size w).alloc (Nat.le_refl _) (.cells #[.int .i64 v, .int .i64 ty, .int .i64 ha, .int .i64 pu, .slice As salt.length cs, .slice Ai iss.length ci, .bool la] 42)
  go_enter Try.func41, Try.ntmps41
  go_wp2_with fail
  generalize hw1 : w.alloc (.cells #[.int .i64 v, .int .i64 ty, .int .i64 ha, .int .i64 pu, .slice As salt.length cs, .slice Ai iss.length ci, .bool la] 42) = w1 at hnew hba ⊢
  clear hw1
  have k0 : w1.cell? ⟨w.heap.size, 0, none⟩ = some (.int .i64 v) := blk_cell hnew 0
  have k1 : w1.cell? ⟨w.heap.size, 1, none⟩ = some (.int .i64 ty) := blk_cell hnew 1
  have k2 : w1.cell? ⟨w.heap.size, 2, none⟩ = some (.int .i64 ha) := blk_cell hnew 2
  have k3 : w1.cell? ⟨w.heap.size, 3, none⟩ = some (.int .i64 pu) := blk_cell hnew 3
  have k4 : w1.cell? ⟨w.heap.size, 4, none⟩ = some (.slice As salt.length cs) := blk_cell hnew 4
  have k5 : w1.cell? ⟨w.heap.size, 5, none⟩ = some (.slice Ai iss.length ci) := blk_cell hnew 5
  have k6 : w1.cell? ⟨w.heap.size, 6, none⟩ = some (.bool la) := blk_cell hnew 6
  refine (HZ.out _).mono ?_
  rintro e wq ⟨rfl, rfl⟩
  cases z3 with
  | false =>
    have HE1 := Lib.hid (show emitP v ty ha pu salt iss la = ([], 1) by rw [HE.out, if_neg (fun hk => by have hk := HO.out.1 hk; exact absurd hk.1 (by simp))])
    go_wp2_with (first | (go_at_call 64; refine (HM.out _).mono ?_; rintro e wq ⟨rfl, rfl⟩) | (go_at_call 65; refine (HP.out _).mono ?_; rintro e wq ⟨rfl, rfl⟩))
    go_ret2
    rw [HE1.out]
    exact ⟨_, _, _, _, rfl, Own.nil_ _ _, rfl, hba⟩
  | true =>
    by_cases h1 : ty < 0
    · have d1 : decide (ty < 0) = true := decide_eq_true h1
      have HE1 := Lib.hid (show emitP v ty ha pu salt iss la = ([], 1) by rw [HE.out, if_neg (fun hk => by have hk := HO.out.1 hk; omega)])
      go_wp2_with (first | (go_at_call 64; refine (HM.out _).mono ?_; rintro e wq ⟨rfl, rfl⟩) | (go_at_call 65; refine (HP.out _).mono ?_; rintro e wq ⟨rfl, rfl⟩))
      go_ret2
      rw [HE1.out]
      exact ⟨_, _, _, _, rfl, Own.nil_ _ _, rfl, hba⟩
    have d1 : decide (ty < 0) = false := decide_eq_false h1
    by_cases h2 : 255 < ty
    · have d2 : decide (255 < ty) = true := decide_eq_true h2
      have HE1 := Lib.hid (show emitP v ty ha pu salt iss la = ([], 1) by rw [HE.out, if_neg (fun hk => by have hk := HO.out.1 hk; omega)])
      go_wp2_with (first | (go_at_call 64; refine (HM.out _).mono ?_; rintro e wq ⟨rfl, rfl⟩) | (go_at_call 65; refine (HP.out _).mono ?_; rintro e wq ⟨rfl, rfl⟩))
      go_ret2
      rw [HE1.out]
      exact ⟨_, _, _, _, rfl, Own.nil_ _ _, rfl, hba⟩
    have d2 : decide (255 < ty) = false := decide_eq_false h2
    cases mb with
    | false =>
      have HE1 := Lib.hid (show emitP v ty ha pu salt iss la = ([], 1) by rw [HE.out, if_neg (fun hk => by have hk := HO.out.1 hk; exact absurd hk.2.2.2.1 (by simp))])
      go_wp2_with (first | (go_at_call 64; refine (HM.out _).mono ?_; rintro e wq ⟨rfl, rfl⟩) | (go_at_call 65; refine (HP.out _).mono ?_; rintro e wq ⟨rfl, rfl⟩))
      go_ret2
      rw [HE1.out]
      exact ⟨_, _, _, _, rfl, Own.nil_ _ _, rfl, hba⟩
    | true =>
      cases pb with
      | false =>
        have HE1 := Lib.hid (show emitP v ty ha pu salt iss la = ([], 1) by rw [HE.out, if_neg (fun hk => by have hk := HO.out.1 hk; exact absurd hk.2.2.2.2.1 (by simp))])
        go_wp2_with (first | (go_at_call 64; refine (HM.out _).mono ?_; rintro e wq ⟨rfl, rfl⟩) | (go_at_call 65; refine (HP.out _).mono ?_; rintro e wq ⟨rfl, rfl⟩))
        go_ret2
        rw [HE1.out]
        exact ⟨_, _, _, _, rfl, Own.nil_ _ _, rfl, hba⟩
      | true =>
        by_cases h3 : (salt.length : Int) = z1
        rotate_left
        · have d3 : ((salt.length : Int) != z1) = true := by rw [bne_iff_ne]; exact h3
          have HE1 := Lib.hid (show emitP v ty ha pu salt iss la = ([], 1) by rw [HE.out, if_neg (fun hk => by have hk := HO.out.1 hk; exact h3 hk.2.2.2.2.2.1)])
          go_wp2_with (first | (go_at_call 64; refine (HM.out _).mono ?_; rintro e wq ⟨rfl, rfl⟩) | (go_at_call 65; refine (HP.out _).mono ?_; rintro e wq ⟨rfl, rfl⟩))
          go_ret2
          rw [HE1.out]
          exact ⟨_, _, _, _, rfl, Own.nil_ _ _, rfl, hba⟩
        subst h3
        by_cases h4 : (iss.length : Int) = z2
        rotate_left
        · have d4 : ((iss.length : Int) != z2) = true := by rw [bne_iff_ne]; exact h4
          have HE1 := Lib.hid (show emitP v ty ha pu salt iss la = ([], 1) by rw [HE.out, if_neg (fun hk => by have hk := HO.out.1 hk; exact h4 hk.2.2.2.2.2.2)])
          go_wp2_with (first | (go_at_call 64; refine (HM.out _).mono ?_; rintro e wq ⟨rfl, rfl⟩) | (go_at_call 65; refine (HP.out _).mono ?_; rintro e wq ⟨rfl, rfl⟩))
          go_ret2
          rw [HE1.out]
          exact ⟨_, _, _, _, rfl, Own.nil_ _ _, rfl, hba⟩
        subst h4
        have HE1 := Lib.hid (show emitP v ty ha pu salt iss la = ([UInt8.ofNat v.toNat, UInt8.ofNat ty.toNat, UInt8.ofNat ha.toNat, UInt8.ofNat pu.toNat] ++ saltB v salt ++ iss ++ [if la then 1 else 0], 0) by rw [HE.out, if_pos (HO.out.2 ⟨rfl, by omega, by omega, rfl, rfl, rfl, rfl⟩)])
        obtain ⟨hh0, hh1⟩ := HMN.out rfl
        obtain ⟨hp0, hp1⟩ := HPN.out rfl
        obtain ⟨t, rfl⟩ := Int.eq_ofNat_of_zero_le (show 0 ≤ ty by omega)
        obtain ⟨hn, rfl⟩ := Int.eq_ofNat_of_zero_le hh0
        obtain ⟨pn, rfl⟩ := Int.eq_ofNat_of_zero_le hp0
        have m1 : (t : Int) % 256 = (t : Int) := by omega
        have m2 : (hn : Int) % 256 = (hn : Int) := by omega
        have m3 : (pn : Int) % 256 = (pn : Int) := by omega
        have b1 : t ≤ 255 := by omega
        have b2 : hn ≤ 255 := by omega
        have b3 : pn ≤ 255 := by omega
        have hv : v = 3 ∨ v = 6 := by
          have := HSV.out
          by_cases e3 : v = 3
          · exact .inl e3
          · by_cases e6 : v = 6
            · exact .inr e6
            · rw [if_neg e3, if_neg e6] at this; simp at this
        have hsl : salt.length ≤ 32 ∧ iss.length ≤ 32 := by
          have h1 := HSV.out
          have h2 := HSR.out
          rcases hv with rfl | rfl
          · rw [if_pos rfl] at h1; injection h1 with e1 e2; injection e2 with e2 _; omega
          · rw [if_neg (by omega), if_pos rfl] at h1; injection h1 with e1 e2; injection e2 with e2 _; omega
        have HSL := Lib.hid hsl
        clear hsl h1 h2 hh0 hh1 hp0 hp1
        rcases hv with rfl | rfl
        · have hlit : Own (w1.alloc (.cells #[.int .u8 3, .int .u8 (t : Int), .int .u8 (hn : Int), .int .u8 (pn : Int)] 5)) w1.heap.size (some ⟨w1.heap.size, 0, none⟩) 4 4 [UInt8.ofNat 3, UInt8.ofNat t, UInt8.ofNat hn, UInt8.ofNat pn] := own_lit w1 _ _ (bvs4 3 t hn pn (by omega) b1 b2 b3) 4 rfl (by omega)
          have hbl := (Below.refl w1.heap.size w1).alloc (Nat.le_refl _) (.cells #[.int .u8 3, .int .u8 (t : Int), .int .u8 (hn : Int), .int .u8 (pn : Int)] 5)
          have hn2 := (hbl.block w.heap.size (blk_lt hnew)).trans hnew
          have hB2 := below_then hba hba.size hbl
          have hs2 := (hs.below hba).below hbl
          have hi2 := (hi.below hba).below hbl
          have hwl := blk_lt hnew
          generalize hw2 : w1.alloc (.cells #[.int .u8 3, .int .u8 (t : Int), .int .u8 (hn : Int), .int .u8 (pn : Int)] 5) = w2 at hlit hbl hn2 hB2 hs2 hi2
          have j4 : w2.cell? ⟨w.heap.size, 0, none⟩ = some (.int .i64 3) := blk_cell hn2 0
          have j5 : w2.cell? ⟨w.heap.size, 5, none⟩ = some (.slice Ai iss.length ci) := blk_cell hn2 5
          have j6 : w2.cell? ⟨w.heap.size, 6, none⟩ = some (.bool la) := blk_cell hn2 6
          have hsl := HSL.out
          have HSB := Lib.hid (show saltB 3 salt = [] by rw [saltB, if_neg (by omega)])
          cases la with
          | false =>
            go_wp2_with (first | (go_at_call 64; refine (HM.out _).mono ?_; rintro e wq ⟨rfl, rfl⟩) | (go_at_call 65; refine (HP.out _).mono ?_; rintro e wq ⟨rfl, rfl⟩) | (at_builtin; refine app8 (.tmp 84) (.tmp 86) rfl rfl rfl hlit rfl hi2 (by omega) hbl.size ?_; intro A3 c3 w3 ho3 hg3 hat3; have hB3 := hB2.grown hg3 hB2.size (fun k e => by cases e; exact hba.size)) | (at_builtin; refine app8_one (.tmp 87) (.tmp 89) rfl rfl rfl ho3 [0] _ rfl 1 rfl rfl (by omega) (Nat.le_trans hbl.size hg3.size) ?_; intro A4 c4 w4 ho4 hg4 hat4))
            go_ret2
            rw [HE1.out, HSB.out]
            exact ⟨_, _, _, _, rfl, by simpa using ho4.lower hba.size, rfl, hB3.grown hg4 hB3.size (fun k e => by
              cases A3 with
              | none => cases e
              | some ad => cases e; have h1 := (ho3.blk _ rfl).1; have h2 := hba.size; show w.heap.size ≤ ad.block; omega)⟩
          | true =>
            go_wp2_with (first | (go_at_call 64; refine (HM.out _).mono ?_; rintro e wq ⟨rfl, rfl⟩) | (go_at_call 65; refine (HP.out _).mono ?_; rintro e wq ⟨rfl, rfl⟩) | (at_builtin; refine app8 (.tmp 84) (.tmp 86) rfl rfl rfl hlit rfl hi2 (by omega) hbl.size ?_; intro A3 c3 w3 ho3 hg3 hat3; have hB3 := hB2.grown hg3 hB2.size (fun k e => by cases e; exact hba.size)) | (at_builtin; refine app8_one (.tmp 87) (.tmp 89) rfl rfl rfl ho3 [1] _ rfl 1 rfl rfl (by omega) (Nat.le_trans hbl.size hg3.size) ?_; intro A4 c4 w4 ho4 hg4 hat4))
            go_ret2
            rw [HE1.out, HSB.out]
            exact ⟨_, _, _, _, rfl, by simpa using ho4.lower hba.size, rfl, hB3.grown hg4 hB3.size (fun k e => by
              cases A3 with
              | none => cases e
              | some ad => cases e; have h1 := (ho3.blk _ rfl).1; have h2 := hba.size; show w.heap.size ≤ ad.block; omega)⟩
        · have hlit : Own (w1.alloc (.cells #[.int .u8 6, .int .u8 (t : Int), .int .u8 (hn : Int), .int .u8 (pn : Int)] 5)) w1.heap.size (some ⟨w1.heap.size, 0, none⟩) 4 4 [UInt8.ofNat 6, UInt8.ofNat t, UInt8.ofNat hn, UInt8.ofNat pn] := own_lit w1 _ _ (bvs4 6 t hn pn (by omega) b1 b2 b3) 4 rfl (by omega)
          have hbl := (Below.refl w1.heap.size w1).alloc (Nat.le_refl _) (.cells #[.int .u8 6, .int .u8 (t : Int), .int .u8 (hn : Int), .int .u8 (pn : Int)] 5)
          have hn2 := (hbl.block w.heap.size (blk_lt hnew)).trans hnew
          have hB2 := below_then hba hba.size hbl
          have hs2 := (hs.below hba).below hbl
          have hi2 := (hi.below hba).below hbl
          have hwl := blk_lt hnew
          generalize hw2 : w1.alloc (.cells #[.int .u8 6, .int .u8 (t : Int), .int .u8 (hn : Int), .int .u8 (pn : Int)] 5) = w2 at hlit hbl hn2 hB2 hs2 hi2
          have j0 : w2.cell? ⟨w.heap.size, 0, none⟩ = some (.int .i64 6) := blk_cell hn2 0
          have j5 : w2.cell? ⟨w.heap.size, 5, none⟩ = some (.slice Ai iss.length ci) := blk_cell hn2 5
          have j6 : w2.cell? ⟨w.heap.size, 6, none⟩ = some (.bool la) := blk_cell hn2 6
          have hsl := HSL.out
          have HSB := Lib.hid (show saltB 6 salt = UInt8.ofNat salt.length :: salt by rw [saltB, if_pos rfl])
          have m4 : (salt.length : Int) % 256 = (salt.length : Int) := by omega
          have m5 : IntKind.u8.wrap (salt.length : Int) = (salt.length : Int) := by rw [IntKind.wrap_u8']; exact m4
          have hbx := (Below.refl w2.heap.size w2).alloc (Nat.le_refl _) (.cells #[.int .u8 (salt.length : Int)] 5)
          have hbD : Below w.heap.size w (w2.alloc (.cells #[.int .u8 (salt.length : Int)] 5)).drew := (below_then hB2 hB2.size hbx).drew
          have hownD : Own (w2.alloc (.cells #[.int .u8 (salt.length : Int)] 5)).drew w1.heap.size (some ⟨w1.heap.size, 0, none⟩) 4 4 _ := Own.alloc_ (w := w2) hlit _
          have hlit2 : Own (w2.alloc (.cells #[.int .u8 (salt.length : Int)] 5)).drew w2.heap.size (some ⟨w2.heap.size, 0, none⟩) 1 1 [UInt8.ofNat salt.length] := own_lit w2 _ _ (bvs1a salt.length (by omega)) 1 rfl (by omega)
          have hnD : (w2.alloc (.cells #[.int .u8 (salt.length : Int)] 5)).drew.heap[w.heap.size]? = _ := (hbx.block w.heap.size (blk_lt hn2)).trans hn2
          have k0d : w2.drew.cell? ⟨w.heap.size, 4, none⟩ = some (.slice As salt.length cs) := blk_cell (w := w2) hn2 4
          have k1d : (w2.alloc (.cells #[.int .u8 (salt.length : Int)] 5)).drew.cell? ⟨w.heap.size, 4, none⟩ = some (.slice As salt.length cs) := blk_cell hnD 4
          have hsD : Bs (w2.alloc (.cells #[.int .u8 (salt.length : Int)] 5)).drew As salt.length cs salt := (hs2.below hbx).drew
          have hw2s := hB2.size
          have hsz : w1.heap.size ≤ (w2.alloc (.cells #[.int .u8 (salt.length : Int)] 5)).drew.heap.size := Nat.le_trans hbl.size hbx.size
          have hsz2 : w.heap.size < w1.heap.size := hwl
          have HND := Lib.hid hnD
          have hrow7 : ∀ i, Option.map (fun x : Addr => x.block) (some (⟨w1.heap.size, 0, none⟩ : Addr)) = some i → w.heap.size ≤ i := fun i e => by cases e; exact Nat.le_of_lt hsz2
          have hne7 : some w.heap.size ≠ Option.map (fun x : Addr => x.block) (some (⟨w1.heap.size, 0, none⟩ : Addr)) := fun e => by
            have e2 : w.heap.size = w1.heap.size := Option.some.inj e
            omega
          clear hnD m4
          go_wp2_with (first | (go_at_call 64; refine (HM.out _).mono ?_; rintro e wq ⟨rfl, rfl⟩) | (go_at_call 65; refine (HP.out _).mono ?_; rintro e wq ⟨rfl, rfl⟩))
          go_region_held_law (fun w' => w'.cell? ⟨w.heap.size, 4, none⟩ = some (.slice As salt.length cs)) (first | exact k0d | exact k1d | exact K3.out | exact K4.out) ((first
            | (refine step_app8 (.tmp 74) (.tmp 77) (by rfl) (by rfl) (by rfl) hownD (by rfl) hlit2.bs (by omega) hsz ?_; intro A3 c3 w3 hown3 hg3 hat3; have hb3 : Below w.heap.size w w3 := hbD.grown hg3 hbD.size hrow7; have HN3 := Lib.hid ((hg3.block w.heap.size (blk_lt HND.out) hne7).trans HND.out); have K3 := Lib.hid (show w3.cell? ⟨w.heap.size, 4, none⟩ = some (.slice As salt.length cs) from blk_cell HN3.out 4); have hs3 := hs.below hb3; have hq3 := Nat.le_trans hsz hg3.size)
            | (refine step_app8 (.tmp 78) (.tmp 80) (by rfl) (by rfl) (by rfl) hown3 (by rfl) hs3 (by omega) hq3 ?_; intro A4 c4 w4 hown4 hg4 hat4; have hb4 : Below w.heap.size w w4 := hb3.grown hg4 hb3.size (fun i e => by
                cases A3 with
                | none => cases e
                | some ad => cases e; have h1 := (hown3.blk _ rfl).1; show w.heap.size ≤ ad.block; omega); have HN4 := Lib.hid ((hg4.block w.heap.size (blk_lt HN3.out) (fun e => by
                cases A3 with
                | none => cases e
                | some ad => injection e with e; have h1 := (hown3.blk _ rfl).1; have h2 : ad.block = w.heap.size := e.symm; omega)).trans HN3.out); have K4 := Lib.hid (show w4.cell? ⟨w.heap.size, 4, none⟩ = some (.slice As salt.length cs) from blk_cell HN4.out 4); have j7 : w4.cell? ⟨w.heap.size, 5, none⟩ = some (.slice Ai iss.length ci) := blk_cell HN4.out 5; have j8 : w4.cell? ⟨w.heap.size, 6, none⟩ = some (.bool la) := blk_cell HN4.out 6; have hi4 := hi.below hb4; have hq4 := Nat.le_trans hq3 hg4.size)))
          have hB5f : ∀ i, Option.map (fun x : Addr => x.block) A4 = some i → w.heap.size ≤ i := fun i e => by
            cases A4 with
            | none => cases e
            | some ad => cases e; have h1 := (hown4.blk _ rfl).1; show w.heap.size ≤ ad.block; omega
          cases la with
          | false =>
            go_wp2_with (first | (at_builtin; refine app8 (.tmp 84) (.tmp 86) rfl rfl rfl hown4 rfl hi4 (by omega) hq4 ?_; intro A5 c5 w5 ho5 hg5 hat5; have hB5 := hb4.grown hg5 hb4.size hB5f) | (at_builtin; refine app8_one (.tmp 87) (.tmp 89) rfl rfl rfl ho5 [0] _ rfl 1 rfl rfl (by omega) (Nat.le_trans hq4 hg5.size) ?_; intro A6 c6 w6 ho6 hg6 hat6))
            go_ret2
            rw [HE1.out, HSB.out]
            exact ⟨_, _, _, _, rfl, by simpa using ho6.lower hba.size, rfl, hB5.grown hg6 hB5.size (fun k e => by
              cases A5 with
              | none => cases e
              | some ad => cases e; have h1 := (ho5.blk _ rfl).1; show w.heap.size ≤ ad.block; omega)⟩
          | true =>
            go_wp2_with (first | (at_builtin; refine app8 (.tmp 84) (.tmp 86) rfl rfl rfl hown4 rfl hi4 (by omega) hq4 ?_; intro A5 c5 w5 ho5 hg5 hat5; have hB5 := hb4.grown hg5 hb4.size hB5f) | (at_builtin; refine app8_one (.tmp 87) (.tmp 89) rfl rfl rfl ho5 [1] _ rfl 1 rfl rfl (by omega) (Nat.le_trans hq4 hg5.size) ?_; intro A6 c6 w6 ho6 hg6 hat6))
            go_ret2
            rw [HE1.out, HSB.out]
            exact ⟨_, _, _, _, rfl, by simpa using ho6.lower hba.size, rfl, hB5.grown hg6 hB5.size (fun k e => by
              cases A5 with
              | none => cases e
              | some ad => cases e; have h1 := (ho5.blk _ rfl).1; show w.heap.size ≤ ad.block; omega)⟩
end Go.Proofs.Ytegbncngencfnaa
