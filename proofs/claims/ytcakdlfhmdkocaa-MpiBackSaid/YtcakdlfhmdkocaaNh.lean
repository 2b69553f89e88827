/- The document's numbers: trim, Digits. -/
import Derived.Test.YtcakdlfhmdkocaaNg
import Derived.Deep.RegionHeldLaw
namespace Go.Proofs.Ytcakdlfhmdkocaa
open Go.RowKit

theorem E64 : El Try.prog 94 65 1 8 := El.mk_ Try.underlying94 (z := .int .u64 0) (by kernel_rfl) rfl (by omega)
theorem E32 : El Try.prog 24 63 1 4 := El.mk_ Try.underlying24 (z := .int .u32 0) (by kernel_rfl) rfl (by omega)

/-- append(v, x..) of numbers, as a step of a region that draws its order. -/
theorem step_appN {P : Program} {W : World} {ops : Array Oper} {o : Oper} {a : Act} {K : Act → World → Prop} {Q : Exit → Act → World → Prop} {E : Prop} (s x : Operand) (hgd : o.guard = none) {S : TypeId}
    (ho : o.op = .call { callee := .builtin .append, args := #[s, x], argTypes := #[S, S] }) {T : TypeId} {bytes : Nat} (EE : El P S T 1 bytes) (h8 : bytes ≤ 8) {k : IntKind}
    {B : Nat} {A0 : Option Addr} {n0 c0 : Nat} {xs : List Nat} (hs : a.eval s = .slice A0 n0 c0) (hown : OwnN W B T k A0 n0 c0 xs)
    {g : Nat} (l : List Nat) {cs : Array Value} (hcs : cs.toList = nvs k l) (m : Nat) (hm : l.length = m) (hx : a.eval x = .slice (some ⟨g, 0, none⟩) m m) (hnew : W.heap[g]? = some (.cells cs T (0, 0))) (hb : n0 + m ≤ 1000000) (hbase : B ≤ W.heap.size)
    (h : ∀ A' c' w', OwnN w' B T k A' (n0 + m) c' (xs ++ l) → W.grownBy w' (A0.map (·.block)) → K (a.put o.dst (.slice A' (n0 + m) c')) w') :
    if Region.wanted o (yielded ops a.tmps) = true then Oper.wp P o a W K Q else E := by
  have hw : Region.wanted o (yielded ops a.tmps) = true := by simp [Region.wanted, hgd]
  rw [if_pos hw]
  obtain ⟨v', w', hrun, g1, g2, g3⟩ := run_app EE B o.type (.slice A0 n0 c0) n0 (nvs k xs) hown.1.own (some ⟨g, 0, none⟩) m m (nvs k l) (by simp [hm]) (fun _ => ⟨_, rfl, fun j u hu => by
    have he : (⟨g, 0, none⟩ : Addr).add j = ⟨g, j, none⟩ := by
      unfold Addr.add; split
      · rename_i h0; rw [h0]
      · simp
    rw [he, cell_of_row _ _ j _ _ _ hnew, ← Array.getElem?_toList, hcs]
    exact hu⟩) (fun u hu => by
      simp only [List.mem_map] at hu
      obtain ⟨b, _, rfl⟩ := hu
      rfl) (Nat.le_trans (Nat.mul_le_mul_left _ h8) (by omega)) (by omega) hbase
  rw [show nvs k xs ++ nvs k l = nvs k (xs ++ l) by simp [nvs]] at g1
  obtain ⟨A', c', rfl, g4⟩ := OwnN.of g1
  have hg : W.grownBy w' (A0.map (·.block)) := by cases A0 <;> exact g2
  unfold Oper.wp execOp
  simp only [ho, resolve, invoke, builtin, Sem.run_bind, Sem.run_pure, Result.andThen_ok, List.map_toArray, List.map_cons, List.map_nil, hs, hx, hrun]
  exact h A' c' w' g4 hg

/-- What trimming answers: the first m words, which are the number, without noughts at the end. -/
def RTrimSaid (A : Option Addr) (c : Nat) (xs : List Nat) (e : Ending) : Prop := ∃ m, e = .returned (.slice A m c) ∧ m ≤ xs.length ∧ Trim (xs.take m) ∧ ∀ β, num β (xs.take m) = num β xs
set_option maxRecDepth 100000 in
set_option maxHeartbeats 1600000 in
theorem rtrim_calls {A : Option Addr} {n c : Nat} {xs : List Nat} {w : World} (h : Nr w .u64 A n c xs) :
    Calls Try.prog 80 #[.slice A n c] w fun e w' => RTrimSaid A c xs e ∧ w = w' := by
  obtain ⟨hc1, hc2⟩ := h.cap
  obtain rfl := h.2
  go_enter Try.func80, Try.ntmps80
  go_wp2_with fail
  go_loop [3] (fun i => ∃ k : Nat, i = .int .i64 k ∧ k ≤ xs.length ∧ Hid (∀ j (hj : j < xs.length), k ≤ j → xs[j] = 0)) (fun i => (intOf i).toNat)
  case atStart => exact ⟨_, rfl, Nat.le_refl _, Lib.hid (fun j hj h => by omega)⟩
  case round =>
    obtain ⟨k, rfl, hk, hz⟩ := hrel
    rcases Nat.eq_zero_or_pos k with rfl | hp
    · go_wp2
      go_ret
      exact ⟨⟨0, by first | rfl | simp, Nat.zero_le _, trim_take (Nat.zero_le _) (.inl rfl), fun β => num_take_zeros (fun j hj h => hz.out j hj h)⟩, rfl⟩
    · obtain ⟨j, rfl⟩ : ∃ j, k = j + 1 := ⟨k - 1, by omega⟩
      obtain ⟨b, off, rfl, hbl, hcell⟩ := h.at_ (j := j) (by omega)
      have e1 : (((j + 1 : Nat) : Int)) - 1 = (j : Int) := by omega
      by_cases h0 : xs[j] = 0
      · rw [h0] at hcell
        go_wp2
        go_round
        case rel => exact ⟨j, by go_num, by omega, Lib.hid (fun i hi hij => by
          by_cases e : i = j
          · subst e; exact h0
          · exact hz.out i hi (by omega))⟩
        case measure => simp [intOf]
      · have hne : ((xs[j] : Int) == 0) = false := by rw [beq_eq_false_iff_ne]; omega
        have H0 := Lib.hid h0
        clear h0
        go_wp2
        go_ret
        exact ⟨⟨j + 1, by first | rfl | simp, hk, trim_take hk (.inr ⟨by omega, H0.out⟩), fun β => num_take_zeros (fun i hi h => hz.out i hi h)⟩, rfl⟩

theorem sq65536 : (65536 : Nat) ^ 2 = 4294967296 := by decide
theorem digits_step {ds xs : List Nat} {k x : Nat} (hd : num 65536 ds = num 4294967296 (xs.take k)) (hk : k < xs.length) (hx : xs[k] = x) (hl : ds.length = 2 * k) :
    num 65536 (ds ++ [x % 65536, x / 65536]) = num 4294967296 (xs.take (k + 1)) := by
  rw [num_append, take_snoc xs k hk, num_append, hd, hl, Nat.pow_mul, sq65536, List.length_take, Nat.min_eq_left (by omega), hx]
  simp only [num, Nat.mul_zero, Nat.add_zero]
  congr 2
  omega

set_option maxRecDepth 100000 in
set_option maxHeartbeats 3200000 in
theorem Digits_calls {A : Option Addr} {n c : Nat} {xs : List Nat} {w : World} (h : Nr w .u32 A n c xs) (hlo : Lo 4294967296 xs) (hn : n ≤ 100000) :
    Calls Try.prog 70 #[.slice A n c] w fun e w' => ∃ A' m c' ds, e = .returned (.slice A' m c') ∧ Nr w' .u64 A' m c' ds ∧ Lo 65536 ds ∧ Trim ds ∧ num 65536 ds = num 4294967296 xs ∧ m ≤ 2 * n ∧ Below w.heap.size w w' := by
  obtain rfl := h.2
  have hem := ownN_empty w 65 .u64
  have hbe := (Below.refl w.heap.size w).alloc (Nat.le_refl _) (.cells #[] 65)
  go_enter Try.func70, Try.ntmps70
  go_wp2_with fail
  generalize w.alloc (.cells #[] 65) = w0 at hem hbe ⊢
  generalize some { block := w.heap.size, off := 0 : Addr } = A0 at hem ⊢
  go_loopw [3, 4] (fun o i wr => ∃ (k : Nat) (Ao : Option Addr) (mo co : Nat) (ds : List Nat), k ≤ xs.length ∧ i = .int .i64 k ∧ o = .slice Ao mo co ∧ OwnN wr w.heap.size 65 .u64 Ao mo co ds ∧ Below w.heap.size w wr ∧ Hid (ds.length = 2 * k ∧ Lo 65536 ds ∧ num 65536 ds = num 4294967296 (xs.take k))) (fun _ i _ => xs.length - (intOf i).toNat)
  case atStart => exact ⟨0, _, 0, 0, [], Nat.zero_le _, rfl, rfl, hem, hbe, Lib.hid ⟨rfl, Lo.nil _, rfl⟩⟩
  case round =>
    obtain ⟨k, Ao, mo, co, ds, hk, rfl, rfl, hown, hbr, hv⟩ := hrel
    clear hem hbe
    by_cases hlt : k < xs.length
    · obtain ⟨b, off, rfl, hbl, hcell⟩ := h.at_ hlt
      have hx := hlo.at_ hlt
      have hst := digits_step hv.out.2.2 hlt rfl hv.out.1
      have hmo := hown.2
      have hmo2 : mo ≤ 400000 := by have := hv.out.1; omega
      have HS := Lib.hid hst
      generalize xs[k] = x at hcell hx HS
      have q0 : wr.drew.cell? ⟨b, off + k, none⟩ = some (.int .u32 (x : Int)) := (hbr.cell (p := ⟨b, off + k, none⟩) hbl).trans hcell
      obtain ⟨y, hy⟩ : ∃ y, y = x % 65536 := ⟨_, rfl⟩
      obtain ⟨z, hz⟩ : ∃ z, z = x / 65536 := ⟨_, rfl⟩
      have e1 : (x : Int).tmod 65536 = (y : Int) := by rw [Int.tmod_eq_emod_of_nonneg (by omega)]; omega
      have e2 : IntKind.u64.wrap (y : Int) = (y : Int) := by rw [IntKind.wrap_u64]; omega
      have e3 : IntKind.u32.wrap ((x : Int) / 65536) = (z : Int) := by rw [IntKind.wrap_u32]; omega
      have e4 : IntKind.u64.wrap (z : Int) = (z : Int) := by rw [IntKind.wrap_u64]; omega
      have hi0 : (0 : Int) ≤ (k : Int) := by omega
      have hi1 : (k : Int) < (xs.length : Int) := by omega
      have HY := Lib.hid (show y = x % 65536 ∧ z = x / 65536 from ⟨hy, hz⟩)
      have hbd := hbr.drew
      have hod : OwnN wr.drew w.heap.size 65 .u64 Ao mo co ds := hown
      have hcell0 := Lib.hid hcell
      clear hst hy hz hcell
      have hnX := heap_alloc_new wr.drew (.cells #[.int .u64 (y : Int), .int .u64 (z : Int)] 65)
      have hba := (Below.refl wr.drew.heap.size wr.drew).alloc (Nat.le_refl _) (.cells #[.int .u64 (y : Int), .int .u64 (z : Int)] 65)
      have hbX := below_then hbd hbd.size hba
      have hoX := hod.below hba
      have q1 := (hba.cell (p := ⟨b, off + k, none⟩) (Nat.lt_of_lt_of_le hbl hbd.size)).trans q0
      go_wp2_with fail
      go_region_held_law (fun w' => w'.cell? ⟨b, off + k, none⟩ = some (.int .u32 (x : Int))) (first | exact q0 | exact q1 | exact q2) ((refine step_appN (.tmp 12) (.tmp 25) (by rfl) (by rfl) E64 (by omega) (by rfl) hoX [y, z] (by rfl) 2 (by rfl) (by rfl) hnX (by omega) hbX.size ?_; intro A2 c2 w2 hown2 hg2; have hb2 := hoX.grew hbX hbX.size hg2; have q2 := (hb2.cell (p := ⟨b, off + k, none⟩) hbl).trans hcell0.out))
      clear e1 e2 e3 e4
      go_wp2
      have hyz : Lo 65536 (ds ++ [y, z]) := by
        obtain ⟨e5, e6⟩ := HY.out
        have h0 := (hv.out.2.1.snoc (x := y) (by omega)).snoc (x := z) (by omega)
        simpa using h0
      have HV := Lib.hid (show (ds ++ [y, z]).length = 2 * (k + 1) ∧ Lo 65536 (ds ++ [y, z]) ∧ num 65536 (ds ++ [y, z]) = num 4294967296 (xs.take (k + 1)) from ⟨by simp [hv.out.1]; omega, hyz, by rw [HY.out.1, HY.out.2]; exact HS.out⟩)
      clear hyz
      go_roundw
      case rel => exact ⟨k + 1, A2, _, c2, _, by omega, by go_num, rfl, hown2, hb2, HV⟩
      case measure => simp [intOf]; omega
    · have hke : k = xs.length := by omega
      subst hke
      have hmo := hown.2
      go_wp2_with (go_at_call 80; refine (rtrim_calls hown.nr).mono ?_; rintro e w1 ⟨⟨q, rfl, hq, ht, hnum⟩, rfl⟩)
      go_ret
      refine ⟨_, q, co, ds.take q, rfl, hown.nr.upto (by rw [← hown.2]; exact hq), hv.out.2.1.take, ht, ?_, ?_, hbr⟩
      · rw [hnum, hv.out.2.2]
        simp
      · have := hv.out.1; omega
end Go.Proofs.Ytcakdlfhmdkocaa
