import Derived.Test.YtjbnoamoadaknaaYSigBack5
import Derived.Test.YtjbnoamoadaknaaYSigBack11
import Derived.Test.YtjbnoamoadaknaaYSigBack14
import Derived.Test.YtjbnoamoadaknaaYSigBack12
/- Signatures: what may be, in plain words; the small functions of sig. -/
section
namespace Go.Proofs.Ytjbnoamoadaknaa
open Go.RowKit

def verS (v : Int) : Bool := decide (v = 4) || decide (v = 6)
/-- Whether a salt of n bytes may be. -/
def saltOk (ve ha : Int) (n : Nat) : Bool := if ve = 4 then decide (n = 0) else decide ((n : Int) = saltS ha)
/-- Whether a value may be. -/
def valOk (pu : Int) (v : List UInt8) : Bool := if pu = 27 then decide (v.length = 64) else decide (bytesN (nb v) = v) && decide (nbits (nb v) ≤ 16384)
/-- Whether a signature may be, but for its areas. -/
def mayG (s : SigV) : Bool := verS s.ve && decide (0 ≤ s.ty) && decide (s.ty ≤ 255) && pubS s.pu && mayS s.ha s.ve && saltOk s.ve s.ha s.salt.length && valOk s.pu s.value
def widS (v : Int) : Nat := if v = 6 then 4 else 2
/-- An area, behind its size. -/
def areaB (v : Int) (x : List UInt8) : List UInt8 := be (widS v) x.length ++ x
def headB (s : SigV) : List UInt8 := [UInt8.ofNat s.ve.toNat, UInt8.ofNat s.ty.toNat, UInt8.ofNat s.pu.toNat, UInt8.ofNat s.ha.toNat]
/-- Both areas, or why there are none. -/
def areasG (s : SigV) : List UInt8 × List UInt8 × Int :=
  if mayG s = false ∨ (emitF s.hs).2 = 1 ∨ (emitF s.us).2 = 1 then ([], [], 1) else if (emitF s.hs).2 ≠ 0 ∨ (emitF s.us).2 ≠ 0 then ([], [], 4) else ((emitF s.hs).1, (emitF s.us).1, 0)
/-- The bytes that are hashed. -/
def hashedG (s : SigV) : List UInt8 × Int := if (areasG s).2.2 ≠ 0 then ([], (areasG s).2.2) else (headB s ++ areaB s.ve (areasG s).1, 0)
def saltG (s : SigV) : List UInt8 := if s.ve = 6 then UInt8.ofNat s.salt.length :: s.salt else []
def valG (s : SigV) : List UInt8 := if s.pu = 27 then s.value else be 2 (nbits (nb s.value)) ++ bytesN (nb s.value)
/-- A signature's bytes. -/
def emitG (s : SigV) : List UInt8 × Int := if (areasG s).2.2 ≠ 0 then ([], (areasG s).2.2) else (headB s ++ areaB s.ve (areasG s).1 ++ areaB s.ve (areasG s).2.1 ++ [s.l0, s.l1] ++ saltG s ++ valG s, 0)

theorem ver_nat {v : Int} (h : verS v = true) : v = 4 ∨ v = 6 := by simpa [verS] using h
theorem may_nat {a v : Int} (h : mayS a v = true) : 0 ≤ a ∧ a ≤ 255 := by
  have h1 : 0 < hashS a := by simp [mayS] at h; exact h.1
  unfold hashS at h1
  repeat' split at h1
  all_goals omega
theorem pub_nat {a : Int} (h : pubS a = true) : 0 ≤ a ∧ a ≤ 255 := by
  simp [pubS] at h
  omega
theorem emitF_len (ss : List SubV) : (emitF ss).1.length ≤ 4000 := by
  unfold emitF endE
  cases emitT ss [] with
  | none => simp
  | some o =>
    simp only
    by_cases h : 40 < ss.length ∨ 4000 < o.length
    · rw [if_pos h]; simp
    · rw [if_neg h]; simp only; omega
theorem emitF_err (ss : List SubV) : (emitF ss).2 = 0 ∨ (emitF ss).2 = 1 ∨ (emitF ss).2 = 4 := by
  unfold emitF endE
  cases emitT ss [] with
  | none => simp
  | some o =>
    simp only
    split <;> simp
/-- A value is the bytes of its number just where it has no zero ahead. -/
theorem bytes_nb {v : List UInt8} : bytesN (nb v) = v ↔ (v = [] ∨ ∃ x r, v = x :: r ∧ x ≠ 0) := by
  constructor
  · intro h
    cases v with
    | nil => exact .inl rfl
    | cons x r =>
      refine .inr ⟨x, r, rfl, fun h0 => ?_⟩
      subst h0
      have h1 : nb ((0 : UInt8) :: r) = nb r := by rw [nb_cons]; simp
      rw [h1] at h
      have h2 := congrArg List.length h
      rw [bytesN_length, List.length_cons] at h2
      have h3 := nb_lt r
      have h4 : nbits (nb r) ≤ 8 * r.length := nbits_le_of (by rw [Nat.pow_mul]; exact h3)
      unfold nlen at h2
      omega
  · rintro (rfl | ⟨x, r, rfl, hx⟩)
    · rfl
    · have hx0 : x.toNat ≠ 0 := fun h => hx (UInt8.toNat_inj.1 (by simpa using h))
      have h3 := nb_lt r
      have h5 := nb_lt (x :: r)
      have h4 : nbits (nb (x :: r)) ≤ 8 * (r.length + 1) := nbits_le_of (by rw [Nat.pow_mul]; exact h5)
      have h6 : 256 ^ r.length ≤ nb (x :: r) := by
        rw [nb_cons]
        have : 1 * 256 ^ r.length ≤ x.toNat * 256 ^ r.length := Nat.mul_le_mul_right _ (by omega)
        omega
      have h7 : 8 * r.length + 1 ≤ nbits (nb (x :: r)) := by
        have hn := nbits_lt (nb (x :: r))
        have h8 : 2 ^ (8 * r.length) < 2 ^ nbits (nb (x :: r)) := by
          rw [Nat.pow_mul]
          exact Nat.lt_of_le_of_lt h6 hn
        have := (Nat.pow_lt_pow_iff_right (by omega : 1 < 2)).1 h8
        omega
      have hl : nlen (nb (x :: r)) = (x :: r).length := by
        unfold nlen
        simp only [List.length_cons]
        omega
      rw [bytesN, hl, be_nb]

theorem isVersion_calls (a : Int) (w : World) : Calls Try.prog 26 #[.int .i64 a] w fun e w' => e = .returned (.bool (verS a)) ∧ w = w' := by
  go_enter Try.func26, Try.ntmps26
  by_cases h1 : a = 4
  · subst h1; go_wp2; go_ret; exact ⟨rfl, rfl⟩
  by_cases h2 : a = 6
  · subst h2; go_wp2; go_ret; exact ⟨rfl, rfl⟩
  · have HW := Lib.hid (show verS a = false by rw [verS]; simp [h1, h2])
    go_wp2; go_ret; exact ⟨by rw [HW.out] <;> first | rfl | simp [h1, h2], rfl⟩
theorem isPub_calls (a : Int) (w : World) : Calls Try.prog 27 #[.int .i64 a] w fun e w' => e = .returned (.bool (pubS a)) ∧ w = w' := by
  go_enter Try.func27, Try.ntmps27
  by_cases h1 : a = 1
  · subst h1; go_wp2; go_ret; exact ⟨rfl, rfl⟩
  by_cases h2 : a = 27
  · subst h2; go_wp2; go_ret; exact ⟨rfl, rfl⟩
  · have HW := Lib.hid (show pubS a = false by rw [pubS]; simp [h1, h2])
    go_wp2; go_ret; exact ⟨by rw [HW.out] <;> first | rfl | simp [h1, h2], rfl⟩
theorem isHash_calls (a v : Int) (w : World) : Calls Try.prog 28 #[.int .i64 a, .int .i64 v] w fun e w' => e = .returned (.bool (mayS a v)) ∧ w = w' := by
  have HC := Lib.hid (hashSize_calls a w)
  have HK := Lib.hid (Weak_calls a w)
  have HW := Lib.hid (show mayS a v = (decide (0 < hashS a) && !(decide (v = 6) && weakS a)) from rfl)
  generalize hashS a = s at HC HW
  generalize weakS a = k at HK HW
  go_enter Try.func28, Try.ntmps28
  by_cases h2 : 0 < s
  · by_cases h1 : v = 6
    · subst h1
      go_wp2_with (first | (go_at_call 53; refine HC.out.mono ?_; rintro e w1 ⟨rfl, rfl⟩) | (go_at_call 54; refine HK.out.mono ?_; rintro e w1 ⟨rfl, rfl⟩)); go_ret; exact ⟨by rw [HW.out]; simp [h2], rfl⟩
    · go_wp2_with (first | (go_at_call 53; refine HC.out.mono ?_; rintro e w1 ⟨rfl, rfl⟩) | (go_at_call 54; refine HK.out.mono ?_; rintro e w1 ⟨rfl, rfl⟩)); go_ret; exact ⟨by rw [HW.out]; simp [h2, h1], rfl⟩
  · have HF := Lib.hid (show mayS a v = false by rw [HW.out, decide_eq_false h2]; rfl)
    go_wp2_with (first | (go_at_call 53; refine HC.out.mono ?_; rintro e w1 ⟨rfl, rfl⟩) | (go_at_call 54; refine HK.out.mono ?_; rintro e w1 ⟨rfl, rfl⟩)); go_ret; exact ⟨by rw [HF.out] <;> rfl, rfl⟩
theorem width_calls (a : Int) (w : World) : Calls Try.prog 55 #[.int .i64 a] w fun e w' => e = .returned (.int .i64 (widS a : Nat)) ∧ w = w' := by
  go_enter Try.func55, Try.ntmps55
  by_cases h2 : a = 6
  · subst h2; go_wp2; go_ret; exact ⟨rfl, rfl⟩
  · have HW := Lib.hid (show widS a = 2 by rw [widS, if_neg h2])
    go_wp2; go_ret; exact ⟨by rw [HW.out] <;> rfl, rfl⟩
theorem rwidth_calls (a : Int) (w : World) : Calls Try.prog 68 #[.int .i64 a] w fun e w' => e = .returned (.int .i64 (widS a : Nat)) ∧ w = w' := by
  go_enter Try.func68, Try.ntmps68
  by_cases h2 : a = 6
  · subst h2; go_wp2; go_ret; exact ⟨rfl, rfl⟩
  · have HW := Lib.hid (show widS a = 2 by rw [widS, if_neg h2])
    go_wp2; go_ret; exact ⟨by rw [HW.out] <;> rfl, rfl⟩
end Go.Proofs.Ytjbnoamoadaknaa
end

/- Rows of subpackets whose bodies lie in new blocks; subpkt.Parse. -/
section
namespace Go.Proofs.Ytjbnoamoadaknaa
open Go.RowKit

/-- The cells of subpackets whose bodies read, and lie in no block R, nor G. -/
def SqCells (w : World) (D : Nat) (R G : Option Nat) : List SubV → List Value → Prop
  | [], cs => cs = []
  | s :: ss, cs => ∃ Ak nk ck rest, cs = .int .i64 s.1 :: .bool s.2.1 :: .slice Ak nk ck :: rest ∧ Bs w Ak nk ck s.2.2 ∧ (s.2.2 ≠ [] → ∀ ad, Ak = some ad → some ad.block ≠ R ∧ some ad.block ≠ G ∧ D ≤ ad.block) ∧ SqCells w D R G ss rest
theorem SqCells.grown {w w' : World} {D : Nat} {R R' G : Option Nat} (hg : w.grownBy w' R) (hR : R' = R ∨ R' = some w.heap.size) : ∀ {ss : List SubV} {cs : List Value}, SqCells w D R G ss cs → SqCells w' D R' G ss cs
  | [], _, h => h
  | _ :: _, _, ⟨Ak, nk, ck, rest, e, hb, hn, ht⟩ => ⟨Ak, nk, ck, rest, e, hb.grown8 hg (fun hl ad ha => (hn hl ad ha).1), fun hl ad ha => ⟨by
      rcases hR with rfl | rfl
      · exact (hn hl ad ha).1
      · have := hb.lt8 hl ad ha
        intro e2
        injection e2 with e2
        omega, (hn hl ad ha).2⟩, ht.grown hg hR⟩
/-- What a write to the block G leaves. -/
theorem SqCells.other {w w' : World} {D : Nat} {R G : Option Nat} (hg : w.grownBy w' G) : ∀ {ss : List SubV} {cs : List Value}, SqCells w D R G ss cs → SqCells w' D R G ss cs
  | [], _, h => h
  | _ :: _, _, ⟨Ak, nk, ck, rest, e, hb, hn, ht⟩ => ⟨Ak, nk, ck, rest, e, hb.grown8 hg (fun hl ad ha => (hn hl ad ha).2.1), hn, ht.other hg⟩
theorem SqCells.below {w w' : World} {D : Nat} {R G : Option Nat} (hb : Below w.heap.size w w') : ∀ {ss : List SubV} {cs : List Value}, SqCells w D R G ss cs → SqCells w' D R G ss cs
  | [], _, h => h
  | _ :: _, _, ⟨Ak, nk, ck, rest, e, h, hn, ht⟩ => ⟨Ak, nk, ck, rest, e, h.below hb, hn, ht.below hb⟩
theorem SqCells.free {w : World} {D : Nat} {R G : Option Nat} : ∀ {ss : List SubV} {cs : List Value}, SqCells w D R G ss cs → SqCells w D R none ss cs
  | [], _, h => h
  | _ :: _, _, ⟨Ak, nk, ck, rest, e, h, hn, ht⟩ => ⟨Ak, nk, ck, rest, e, h, fun hl ad ha => ⟨(hn hl ad ha).1, (fun e2 => by cases e2), (hn hl ad ha).2.2⟩, ht.free⟩
theorem SqCells.snoc {w : World} {D : Nat} {R G : Option Nat} {s : SubV} {Ak : Option Addr} {nk ck : Nat} (hb : Bs w Ak nk ck s.2.2) (hn : s.2.2 ≠ [] → ∀ ad, Ak = some ad → some ad.block ≠ R ∧ some ad.block ≠ G ∧ D ≤ ad.block) :
    ∀ {ss : List SubV} {cs : List Value}, SqCells w D R G ss cs → SqCells w D R G (ss ++ [s]) (cs ++ [.int .i64 s.1, .bool s.2.1, .slice Ak nk ck])
  | [], cs, h => by
    have h' : cs = [] := h
    subst h'
    exact ⟨Ak, nk, ck, [], rfl, hb, hn, rfl⟩
  | p :: ps, cs, ⟨A1, n1, c1, rest, e, h, hn1, ht⟩ => by
    subst e
    exact ⟨A1, n1, c1, _, rfl, h, hn1, ht.snoc hb hn⟩
theorem SqCells.len {w : World} {D : Nat} {R G : Option Nat} : ∀ {ss : List SubV} {cs : List Value}, SqCells w D R G ss cs → cs.length = ss.length * 3
  | [], cs, h => by
    have h' : cs = [] := h
    subst h'; rfl
  | p :: ps, cs, ⟨A1, n1, c1, rest, e, h, hn1, ht⟩ => by
    subst e
    have := ht.len
    simp only [List.length_cons] at this ⊢
    omega
theorem SqCells.at_ {w : World} {D : Nat} {R G : Option Nat} : ∀ {ss : List SubV} {cs : List Value}, SqCells w D R G ss cs → ∀ k (hk : k < ss.length), ∃ Ak nk ck, cs[k * 3]? = some (.int .i64 (ss[k]).1) ∧ cs[k * 3 + 1]? = some (.bool (ss[k]).2.1) ∧ cs[k * 3 + 2]? = some (.slice Ak nk ck) ∧ Bs w Ak nk ck (ss[k]).2.2
  | p :: ps, cs, ⟨A1, n1, c1, rest, e, h, hn1, ht⟩, 0, _ => by
    subst e
    exact ⟨A1, n1, c1, rfl, rfl, rfl, h⟩
  | p :: ps, cs, ⟨A1, n1, c1, rest, e, h, hn1, ht⟩, k + 1, hk => by
    subst e
    obtain ⟨Ak, nk, ck, e0, e1, e2, e3⟩ := ht.at_ k (by simpa using hk)
    refine ⟨Ak, nk, ck, ?_, ?_, ?_, ?_⟩
    · rw [show (k + 1) * 3 = k * 3 + 3 by omega]; simpa using e0
    · rw [show (k + 1) * 3 + 1 = k * 3 + 1 + 3 by omega]; simpa using e1
    · rw [show (k + 1) * 3 + 2 = k * 3 + 2 + 3 by omega]; simpa using e2
    · simpa using e3

/-- The slice (A, n, c) is the call's own row (in a block from B on) of the subpackets ss; no body lies in block G, nor the row. -/
def OwnSq (w : World) (D B : Nat) (G : Option Nat) (A : Option Addr) (n c : Nat) (ss : List SubV) : Prop :=
  ∃ cs, OwnR w B 70 3 A c n cs ∧ SqCells w D (A.map (·.block)) G ss cs ∧ ss.length = n ∧ ∀ g, G = some g → A.map (·.block) ≠ some g
theorem OwnSq.nil_ (w : World) (D B : Nat) (G : Option Nat) : OwnSq w D B G none 0 0 [] := ⟨[], World.ownsRow_nil _ _ _ _, rfl, rfl, fun g _ => by simp⟩
theorem OwnSq.len {w : World} {D B n c : Nat} {G : Option Nat} {A : Option Addr} {ss : List SubV} (h : OwnSq w D B G A n c ss) : ss.length = n := by
  obtain ⟨_, _, _, h, _⟩ := h
  exact h
theorem OwnSq.blk {w : World} {D B n c : Nat} {G : Option Nat} {A : Option Addr} {ss : List SubV} (h : OwnSq w D B G A n c ss) : ∀ ad, A = some ad → B ≤ ad.block ∧ ad.block < w.heap.size := by
  obtain ⟨cs, h1, _⟩ := h
  exact h1.blk
theorem OwnSq.below {w w' : World} {D B n c : Nat} {G : Option Nat} {A : Option Addr} {ss : List SubV} (h : OwnSq w D B G A n c ss) (hb : Below w.heap.size w w') : OwnSq w' D B G A n c ss := by
  obtain ⟨cs, h1, h2, h3, h4⟩ := h
  exact ⟨cs, h1.below hb, h2.below hb, h3, h4⟩
theorem OwnSq.other {w w' : World} {D B n c g : Nat} {A : Option Addr} {ss : List SubV} (h : OwnSq w D B (some g) A n c ss) (hg : w.grownBy w' (some g)) : OwnSq w' D B (some g) A n c ss := by
  obtain ⟨cs, h1, h2, h3, h4⟩ := h
  refine ⟨cs, h1.grown hg (fun ad e e2 => h4 g rfl ?_), h2.other hg, h3, h4⟩
  rw [e]
  exact e2
theorem OwnSq.free {w : World} {D B n c : Nat} {G : Option Nat} {A : Option Addr} {ss : List SubV} (h : OwnSq w D B G A n c ss) : OwnSq w D B none A n c ss := by
  obtain ⟨cs, h1, h2, h3, _⟩ := h
  exact ⟨cs, h1, h2.free, h3, fun g e => by cases e⟩
theorem OwnSq.lower {w : World} {D B B' n c : Nat} {G : Option Nat} {A : Option Addr} {ss : List SubV} (h : OwnSq w D B G A n c ss) (hB : B' ≤ B) : OwnSq w D B' G A n c ss := by
  obtain ⟨cs, h1, h2⟩ := h
  exact ⟨cs, h1.lower hB, h2⟩
theorem OwnSq.ss {w : World} {D B n c : Nat} {G : Option Nat} {A : Option Addr} {ss : List SubV} (h : OwnSq w D B G A n c ss) : Ss w A n ss := by
  obtain ⟨cs, h1, h2, h3, _⟩ := h
  refine ⟨h3, fun k hk => ?_⟩
  obtain ⟨Ak, nk, ck, e0, e1, e2, e3⟩ := h2.at_ k hk
  have hl := h2.len
  rcases h1.2 with ⟨_, h0⟩ | ⟨g, cap, cur, hv, hbg, hh, hnc, hcm, hcs, htake⟩
  · rw [h0] at h3; omega
  · injection hv with hA hn' hc'
    subst hA
    have hcell : ∀ j, j < n * 3 → w.cell? ⟨g, 0 + j, none⟩ = cs[j]? := fun j hj => by
      rw [Nat.zero_add, cell_of_row w g j cur _ _ hh, ← htake, List.getElem?_take, if_pos hj, Array.getElem?_toList]
    refine ⟨g, 0, Ak, nk, ck, rfl, h1.blk _ rfl |>.2, ?_, ?_, ?_, e3⟩
    · rw [hcell _ (by omega), e0]
    · rw [Nat.add_assoc, hcell _ (by omega), e1]
    · rw [Nat.add_assoc, hcell _ (by omega), e2]

/-- append(v, s), v a row of subpackets of one's own: what the run leaves. -/
theorem run_appSq {w : World} {D B : Nat} {G : Option Nat} {A0 : Option Addr} {n0 c0 : Nat} {ss : List SubV} (hown : OwnSq w D B G A0 n0 c0 ss) {g : Nat} {s : SubV} {Ak : Option Addr} {nk ck : Nat} (ty : TypeId)
    (hnew : w.heap[g]? = some (.cells #[.int .i64 s.1, .bool s.2.1, .slice Ak nk ck] 70 (0, 0))) (hr : Bs w Ak nk ck s.2.2) (hne : s.2.2 ≠ [] → ∀ ad, Ak = some ad → some ad.block ≠ A0.map (·.block) ∧ some ad.block ≠ G ∧ D ≤ ad.block) (hG : ∀ k, G = some k → k < w.heap.size) (hb : n0 ≤ 1000000) (hbase : B ≤ w.heap.size) :
    ∃ A' c' w', (Builtin.append_ #[24, 24] ty #[.slice A0 n0 c0, .slice (some ⟨g, 0, none⟩) 1 1]).run Try.prog w = .ok (.slice A' (n0 + 1) c') w' ∧ OwnSq w' D B G A' (n0 + 1) c' (ss ++ [s]) ∧ w.grownBy w' (A0.map (·.block)) ∧ (∀ ad, A' = some ad → (A0.map (·.block) = some ad.block ∨ w.heap.size ≤ ad.block)) := by
  obtain ⟨cs, h1, h2, h3, h4⟩ := hown
  obtain ⟨v', w', hrun, g1, g2, g3⟩ := run_app ES B ty (.slice A0 n0 c0) n0 cs h1.own (some ⟨g, 0, none⟩) 1 1 [.int .i64 s.1, .bool s.2.1, .slice Ak nk ck] rfl (fun _ => ⟨_, rfl, fun j u hu => by
    have he : (⟨g, 0, none⟩ : Addr).add j = ⟨g, j, none⟩ := by
      unfold Addr.add; split
      · rename_i h0; rw [h0]
      · simp
    rw [he, cell_of_row _ _ j _ _ _ hnew, ← Array.getElem?_toList]
    exact hu⟩) (by simp [Value.oneCell']) (by omega) (by omega) hbase
  obtain ⟨A', c', rfl, g4⟩ := OwnR.of g1
  have hg : w.grownBy w' (A0.map (·.block)) := by cases A0 <;> exact g2
  have hA : A'.map (·.block) = A0.map (·.block) ∨ A'.map (·.block) = some w.heap.size := by
    cases A' <;> cases A0 <;> exact g3
  refine ⟨A', c', w', hrun, ⟨_, g4, (h2.snoc hr hne).grown hg hA, by simp [h3], fun k hk e => ?_⟩, hg, fun ad e => ?_⟩
  · rcases hA with hA | hA
    · exact h4 k hk (hA.symm.trans e)
    · rw [e] at hA
      injection hA with hA
      have := hG k hk
      omega
  · subst e
    rcases hA with hA | hA
    · exact .inl hA.symm
    · right
      have : ad.block = w.heap.size := by simpa using hA
      omega
theorem appSq {w : World} {ops : Array Oper} {rest : List Oper} {o : Oper} {a : Act} {Q : Exit → Act → World → Prop} (s x : Operand) (hgd : o.guard = none)
    (ho : o.op = .call { callee := .builtin .append, args := #[s, x], argTypes := #[24, 24] })
    {D B : Nat} {G : Option Nat} {A0 : Option Addr} {n0 c0 : Nat} {ss : List SubV} (hs : a.eval s = .slice A0 n0 c0) (hown : OwnSq w D B G A0 n0 c0 ss)
    {g : Nat} (sv : SubV) {Ak : Option Addr} {nk ck : Nat} (hx : a.eval x = .slice (some ⟨g, 0, none⟩) 1 1) (hnew : w.heap[g]? = some (.cells #[.int .i64 sv.1, .bool sv.2.1, .slice Ak nk ck] 70 (0, 0))) (hr : Bs w Ak nk ck sv.2.2)
    (hne : sv.2.2 ≠ [] → ∀ ad, Ak = some ad → some ad.block ≠ A0.map (·.block) ∧ some ad.block ≠ G ∧ D ≤ ad.block) (hG : ∀ k, G = some k → k < w.heap.size) (hb : n0 ≤ 1000000) (hbase : B ≤ w.heap.size)
    (h : ∀ A' c' w', OwnSq w' D B G A' (n0 + 1) c' (ss ++ [sv]) → w.grownBy w' (A0.map (·.block)) → (∀ ad, A' = some ad → (A0.map (·.block) = some ad.block ∨ w.heap.size ≤ ad.block)) → wpList Try.prog ops Q rest (a.put o.dst (.slice A' (n0 + 1) c')) w') :
    wpList Try.prog ops Q (o :: rest) a w :=
  wpList_plain hgd fun _ hK => by
    obtain ⟨A', c', w', hrun, g1, g2, g3⟩ := run_appSq hown o.type hnew hr hne hG hb hbase
    unfold Oper.wp execOp
    simp only [ho, resolve, invoke, builtin, Sem.run_bind, Sem.run_pure, Result.andThen_ok, List.map_toArray, List.map_cons, List.map_nil, hs, hx, hrun]
    exact hK _ _ (h A' c' w' g1 g2 g3)

/-- Behind writes to a block that is older than all of it. -/
theorem SqCells.old {w w' : World} {D g : Nat} {R G : Option Nat} (hg : w.grownBy w' (some g)) (hd : g < D) : ∀ {ss : List SubV} {cs : List Value}, SqCells w D R G ss cs → SqCells w' D R G ss cs
  | [], _, h => h
  | _ :: _, _, ⟨Ak, nk, ck, rest, e, hb, hn, ht⟩ => ⟨Ak, nk, ck, rest, e, hb.grown8 hg (fun hl ad ha e2 => by have h1 := (hn hl ad ha).2.2; have h2 : ad.block = g := Option.some.inj e2; omega), hn, ht.old hg hd⟩
theorem OwnSq.old {w w' : World} {D B n c g : Nat} {G : Option Nat} {A : Option Addr} {ss : List SubV} (h : OwnSq w D B G A n c ss) (hg : w.grownBy w' (some g)) (hd : g < D) (hB : g < B) : OwnSq w' D B G A n c ss := by
  obtain ⟨cs, h1, h2, h3, h4⟩ := h
  refine ⟨cs, h1.grown hg (fun ad e e2 => ?_), h2.old hg hd, h3, h4⟩
  have h1 := (h1.blk ad e).1
  have h2 : ad.block = g := Option.some.inj e2
  omega
theorem SqCells.low {w : World} {D D' : Nat} {R G : Option Nat} (hd : D' ≤ D) : ∀ {ss : List SubV} {cs : List Value}, SqCells w D R G ss cs → SqCells w D' R G ss cs
  | [], _, h => h
  | _ :: _, _, ⟨Ak, nk, ck, rest, e, hb, hn, ht⟩ => ⟨Ak, nk, ck, rest, e, hb, fun hl ad ha => ⟨(hn hl ad ha).1, (hn hl ad ha).2.1, Nat.le_trans hd (hn hl ad ha).2.2⟩, ht.low hd⟩
theorem OwnSq.low {w : World} {D D' B B' n c : Nat} {G : Option Nat} {A : Option Addr} {ss : List SubV} (h : OwnSq w D B G A n c ss) (hd : D' ≤ D) (hB : B' ≤ B) : OwnSq w D' B' G A n c ss := by
  obtain ⟨cs, h1, h2, h3, h4⟩ := h
  exact ⟨cs, h1.lower hB, h2.low hd, h3, h4⟩

set_option maxRecDepth 100000 in
set_option maxHeartbeats 3200000 in
theorem ParseQ_calls {A : Option Addr} {n c : Nat} {l : List UInt8} {w : World} (h : Bs w A n c l) :
    Calls Try.prog 56 #[.slice A n c] w fun e w' => ∃ A' m' c' r, e = .returned (.tuple #[.slice A' m' c', .int .i64 r]) ∧ OwnSq w' w.heap.size w.heap.size none A' m' c' (parseF l).1 ∧ r = (parseF l).2 ∧ Below w.heap.size w w' := by
  obtain rfl := h.2
  have hnm : l.length ≤ 9223372036854775807 := by have := h.cap; unfold maxLen at this; omega
  by_cases h4 : 4000 < l.length
  · have ht := Lib.hid (show parseF l = ([], 4) by rw [parseF, if_pos h4])
    go_enter Try.func56, Try.ntmps56
    go_wp2
    go_ret2
    rw [ht.out]
    exact ⟨_, _, _, _, rfl, OwnSq.nil_ _ _ _ _, rfl, Below.refl _ _⟩
  · have ht := Lib.hid (show parseF l = parseT 41 [] l by rw [parseF, if_neg h4])
    have hd4 : decide ((4000 : Int) < (l.length : Int)) = false := decide_eq_false (by omega)
    have H4 := Lib.hid h4
    clear h4
    go_enter Try.func56, Try.ntmps56
    go_wp2_with (go_at_call 23; refine (Over_calls h (by have := H4.out; omega)).mono ?_; rintro e w1 ⟨g, rfl, hg, hc, hb1⟩)
    have hgl := hc.lt
    go_loopw [4] (fun o wr => ∃ (Ao : Option Addr) (k co : Nat) (acc : List SubV) (a : Nat), o = .slice Ao k co ∧ k ≤ 40 ∧ OwnSq wr w.heap.size (g + 1) (some g) Ao k co acc ∧ Cur wr g a l ∧ Below w.heap.size w wr ∧ g < wr.heap.size ∧ Hid (parseT (41 - k) acc (l.drop a) = parseT 41 [] l)) (fun o _ => match o with | .slice _ k _ => 41 - k | _ => 0)
    case atStart => exact ⟨none, 0, 0, [], 0, rfl, Nat.zero_le _, OwnSq.nil_ _ _ _ _, hc, hb1, hgl, Lib.hid rfl⟩
    case round =>
      obtain ⟨Ao, k, co, acc, a, rfl, hk, hown, hcur, hbr, hgr, hfi⟩ := hrel
      clear hc hb1 hgl
      obtain rfl := hown.len
      have hcl := hcur.len
      have hf := hfi.out
      rw [show 41 - acc.length = 40 - acc.length + 1 by omega, parseT] at hf
      by_cases hbl : l.drop a = []
      · rw [if_pos hbl] at hf
        have HF := Lib.hid hf
        have hla : (l.length : Int) - (a : Int) = 0 := by have := congrArg List.length hbl; simp at this; omega
        clear hf hbl
        go_wp2_with (go_at_call 79; refine (Left_calls hcur).mono ?_; rintro e w2 ⟨rfl, nq, rfl⟩)
        go_ret2
        rw [ht.out, ← HF.out]
        exact ⟨_, _, _, _, rfl, (hown.below (below_drewN (Below.refl _ _) nq)).free.lower (by omega), rfl, below_drewN hbr _⟩
      · have hla : (0 : Int) < (l.length : Int) - (a : Int) := by
          have := List.length_pos_iff.2 hbl
          rw [List.length_drop] at this
          omega
        rw [if_neg hbl] at hf
        by_cases hk40 : acc.length = 40
        · rw [if_pos hk40] at hf
          have HF := Lib.hid hf
          clear hf
          go_wp2_with (go_at_call 79; refine (Left_calls hcur).mono ?_; rintro e w2 ⟨rfl, nq, rfl⟩)
          go_ret2
          rw [ht.out, ← HF.out]
          exact ⟨_, _, _, _, rfl, OwnSq.nil_ _ _ _ _, rfl, below_drewN hbr _⟩
        · rw [if_neg hk40] at hf
          have hd40 : ((acc.length : Int) == 40) = false := by rw [beq_eq_false_iff_ne]; omega
          have htk := fun (W : World) (hc : Cur W g a l) => stake_calls hc
          generalize stakeR (l.drop a) = S at hf htk
          obtain ⟨⟨sty, scr, sbody⟩, rst, r⟩ := S
          simp only at hf
          have HK := Lib.hid htk
          have hk39 : acc.length ≤ 39 := by omega
          have hbl0 := Lib.hid hbl
          clear htk hk40 hbl
          by_cases hr0 : r = 0
          · subst hr0
            rw [if_pos rfl] at hf
            have HF := Lib.hid hf
            clear hf
            go_wp2_with (first
              | (go_at_call 79; refine (Left_calls hcur).mono ?_; rintro e w2 ⟨rfl, nq, rfl⟩)
              | (go_at_call 80; refine (HK.out _ (hcur.drewN nq)).mono ?_; rintro e w3 ⟨⟨ty, cr, Ab, nb_, cb, r3, a3, rfl, hr3, hs3, hab3, ha3, hc3⟩, hg3⟩; obtain rfl : r3 = 0 := hr3; obtain ⟨rfl, rfl, hbs3, hd3⟩ := hs3 rfl; have HD3 := Lib.hid hd3; clear hd3 hs3; go_must (have hg3' : wr.grownBy w3 (some g) := grown_trans (grown_of_below (below_drewN (Below.refl wr.heap.size wr) nq) _) hg3; have hown3 := hown.other hg3'; have hB3 : Below w.heap.size w w3 := hbr.grown hg3' hbr.size (fun k e => by cases e; exact hg); have hsz3 : wr.heap.size ≤ w3.heap.size := hg3'.size; have hba := (Below.refl w3.heap.size w3).alloc (Nat.le_refl _) (.cells #[.int .i64 ty, .bool cr, .slice Ab nb_ cb] 70); have hbb := hba.alloc (by simp) (.cells #[.int .i64 ty, .bool cr, .slice Ab nb_ cb] 70); have hnX : ((w3.alloc (.cells #[.int .i64 ty, .bool cr, .slice Ab nb_ cb] 70)).alloc (.cells #[.int .i64 ty, .bool cr, .slice Ab nb_ cb] 70)).heap[w3.heap.size + 1]? = some (.cells #[.int .i64 ty, .bool cr, .slice Ab nb_ cb] 70 (0, 0)) := alloc2_new w3 _ _; have hown4 := hown3.below hbb; have hc4 := hc3.below hbb; have hbs4 := hbs3.below hbb; have hB4 := below_then hB3 hB3.size hbb; have hsz4 := hbb.size))
              | (at_builtin; refine appSq (.tmp 27) (.tmp 29) rfl rfl rfl hown4 (ty, cr, sbody) rfl hnX hbs4 (fun _ ad e => ?_) (fun k e => ?_) (by omega) (by omega) ?_))
            focus
              have h1 : wr.heap.size ≤ ad.block := hab3 ad e
              refine ⟨fun e2 => ?_, (fun e2 => by have e3 : ad.block = g := (by first | exact e2 | exact Option.some.inj e2); omega), by have := hbr.size; omega⟩
              cases Ao with
              | none => cases e2
              | some a0 =>
                have e' : ad.block = a0.block := by injection e2
                have := (hown.blk a0 rfl).2
                omega
            focus
              have e3 : g = k := by first | exact e | exact Option.some.inj e
              omega
            intro A5 c5 w5 hown5 hg5 hat5
            have hc5 := hc4.grown hg5 (fun k e => by
              cases Ao with
              | none => cases e
              | some a0 => cases e; exact (hown4.blk _ rfl).1)
            have hB5 : Below w.heap.size w w5 := hB4.grown hg5 hB4.size (fun k e => by
              cases Ao with
              | none => cases e
              | some a0 => cases e; exact Nat.le_trans (show w.heap.size ≤ g + 1 by omega) (hown4.blk _ rfl).1)
            have hsz5 := hg5.size
            have hf5 : parseT (41 - (acc.length + 1)) (acc ++ [(ty, cr, sbody)]) (l.drop a3) = parseT 41 [] l := by rw [HD3.out, show 41 - (acc.length + 1) = 40 - acc.length by omega]; exact HF.out
            have HF5 := Lib.hid hf5
            clear hf5
            go_wp2
            go_roundw
            case rel => exact ⟨A5, _, c5, _, a3, rfl, by omega, hown5, hc5, hB5, by omega, HF5⟩
            case measure => simp; omega
          · rw [if_neg hr0] at hf
            have HF := Lib.hid hf
            have hne : (r != 0) = true := by rw [bne_iff_ne]; exact hr0
            have H0 := Lib.hid hr0
            clear hf hr0
            go_wp2_with (first
              | (go_at_call 79; refine (Left_calls hcur).mono ?_; rintro e w2 ⟨rfl, nq, rfl⟩)
              | (go_at_call 80; refine (HK.out _ (hcur.drewN nq)).mono ?_; rintro e w3 ⟨⟨ty, cr, Ab, nb_, cb, r3, a3, rfl, hr3, hs3, hab3, ha3, hc3⟩, hg3⟩; obtain rfl : r3 = r := hr3; have HS3 := Lib.hid hs3; clear hs3; go_must (have hg3' : wr.grownBy w3 (some g) := grown_trans (grown_of_below (below_drewN (Below.refl wr.heap.size wr) nq) _) hg3; have hB3 : Below w.heap.size w w3 := hbr.grown hg3' hbr.size (fun k e => by cases e; exact hg))))
            go_ret2
            rw [ht.out, ← HF.out]
            exact ⟨_, _, _, _, rfl, OwnSq.nil_ _ _ _ _, rfl, hB3.alloc hB3.size _⟩
end Go.Proofs.Ytjbnoamoadaknaa
end
