/- What a statement's row opens: the arguments as lists and numbers. -/
import Derived.Test.YtegbncngencfnaaRows
import Derived.Test.YtegbncngencfnaaBy
import Derived.ProofKit
import Derived.OpenShut
import Derived.ShutString
import Derived.ChangeOld
namespace Go.Proofs.Ytegbncngencfnaa
open Go.ChangeShapes Go.WideShapes Go.ChangeAt Go.RowKit
set_option maxRecDepth 100000
open Go.ChangeMaps (open_string shut_string)

theorem own_ : ownKnob Try.prog.godebug = none := by kernel_rfl
theorem laidOut : laidOutB Try.prog = true := by kernel_rfl
theorem trod_lt_ {H : Type} {enc : TypeId × Value → H} {W : World} {t : TypeId} {v : Value} {d : DataW H} {p : List MemPlace}
    (h : DataW.Trod enc Try.prog W 0 (fun _ => true) true t v d p) : ∀ x ∈ p, x.block < W.heap.size := by
  obtain ⟨m, hm⟩ := h
  exact DataW.trod_lt m _ _ _ hm
theorem below_trod {H : Type} {enc : TypeId × Value → H} {W W' : World} {t : TypeId} {v : Value} {d : DataW H} {p : List MemPlace}
    (h : DataW.Trod enc Try.prog W 0 (fun _ => true) true t v d p) (hr : Try.prog.readableRec t = true) (hrow : t < Try.prog.types.size) (hb : Below W.heap.size W W') :
    DataW.Trod enc Try.prog W' 0 (fun b => decide (b < W.heap.size)) true t v d p :=
  Below.trod laidOut hr hrow h hb (trod_lt_ h)

section
variable {H : Type} {enc : TypeId × Value → H} {W : World} {base : Nat} {v : Value} {d : DataW H} {p : List MemPlace}
theorem open_i64 {t : TypeId} (ht : Try.prog.underlying t = some (.int .i64)) (hv : Value.okWide Try.prog W .any base t v) (h : DataW.Trod enc Try.prog W 0 (fun _ => true) true t v d p) : ∃ x : Int, v = .int .i64 x ∧ -9223372036854775808 ≤ x ∧ x ≤ 9223372036854775807 := by
  obtain ⟨x, rfl, _, _, w⟩ := open_int ht hv h
  exact ⟨x, rfl, bounds_i64 w⟩
theorem open_u64 {t : TypeId} (ht : Try.prog.underlying t = some (.int .u64)) (hv : Value.okWide Try.prog W .any base t v) (h : DataW.Trod enc Try.prog W 0 (fun _ => true) true t v d p) : ∃ x : Nat, v = .int .u64 (x : Int) ∧ x < 18446744073709551616 := by
  obtain ⟨x, rfl, _, _, w⟩ := open_int ht hv h
  have hw : 0 ≤ x ∧ x ≤ 18446744073709551615 := by
    simp [Lit.wf, IntKind.min, IntKind.max, IntKind.signed, IntKind.bits] at w
    omega
  obtain ⟨n, rfl⟩ := Int.eq_ofNat_of_zero_le hw.1
  exact ⟨n, rfl, by omega⟩
theorem open_u32 {t : TypeId} (ht : Try.prog.underlying t = some (.int .u32)) (hv : Value.okWide Try.prog W .any base t v) (h : DataW.Trod enc Try.prog W 0 (fun _ => true) true t v d p) : ∃ x : Nat, v = .int .u32 (x : Int) ∧ x < 4294967296 := by
  obtain ⟨x, rfl, _, _, w⟩ := open_int ht hv h
  have hw := bounds_u32 w
  obtain ⟨n, rfl⟩ := Int.eq_ofNat_of_zero_le hw.1
  exact ⟨n, rfl, by omega⟩
theorem open_u8 {t : TypeId} (ht : Try.prog.underlying t = some (.int .u8)) (hv : Value.okWide Try.prog W .any base t v) (h : DataW.Trod enc Try.prog W 0 (fun _ => true) true t v d p) : ∃ x : UInt8, v = .int .u8 (x.toNat : Int) := by
  obtain ⟨x, rfl, _, _, w⟩ := open_int ht hv h
  have hw := bounds_u8 w
  obtain ⟨n, rfl⟩ := Int.eq_ofNat_of_zero_le hw.1
  exact ⟨UInt8.ofNat n, by rw [UInt8.toNat_ofNat_of_lt' (by simp [UInt8.size]; omega)]⟩
/-- A slice of whole numbers of one kind, by its cells. -/
theorem open_nums {t e : TypeId} {k : IntKind} (ht : Try.prog.underlying t = some (.slice e)) (he : Try.prog.underlying e = some (.int k)) (hc : Try.prog.cellsOf e = 1)
    (hv : Value.okWide Try.prog W .any base t v) (h : DataW.Trod enc Try.prog W 0 (fun _ => true) true t v d p) :
    ∃ (A : Option Addr) (c : Nat) (zs : List Int), v = .slice A zs.length c ∧ Rd W A c (zs.map (Value.int k)) ∧ ∀ z ∈ zs, (Lit.int k z).wf = true := by
  obtain ⟨a0, len0, cap0, rfl⟩ := okWide_slice ht hv
  have lt0 := trod_lt_ h
  obtain ⟨fuel, hf⟩ := h
  rcases open_ints ht he hc hf with ⟨hcs, _⟩ | ⟨x, l, c, zs, hcs, _, hl, hm, hz, hx, hcell, hwz⟩
  · simp [Value.cells] at hcs
    obtain ⟨rfl, rfl, rfl⟩ := hcs
    exact ⟨none, 0, [], rfl, Rd.none_ W, by simp⟩
  · simp [Value.cells] at hcs
    obtain ⟨rfl, rfl, rfl⟩ := hcs
    have hzl : zs.length = cap0 := by simpa using hz
    have hlen : (zs.take len0).length = len0 := by rw [List.length_take]; omega
    refine ⟨some x, cap0, zs.take len0, by rw [hlen], ⟨by simp; omega, hm, fun hn => ⟨x, rfl, ?_, fun j u hu => ?_⟩⟩, fun z hz => hwz z (List.mem_of_mem_take hz)⟩
    · have h0 : 0 < zs.length := by simp at hn; omega
      exact World.block_lt_of_cell? W x (by simpa [Addr.add] using hcell 0 h0)
    · rw [List.getElem?_map, List.getElem?_take] at hu
      split at hu
      · rename_i hj
        have hjz : j < zs.length := by omega
        rw [List.getElem?_eq_getElem hjz] at hu
        simp only [Option.map_some, Option.some.injEq] at hu
        rw [hcell j hjz, ← hu]
        simp [List.getD, List.getElem?_eq_getElem hjz]
      · simp at hu
theorem open_bytes {t : TypeId} (ht : Try.prog.underlying t = some (.slice 5)) (hv : Value.okWide Try.prog W .any base t v) (h : DataW.Trod enc Try.prog W 0 (fun _ => true) true t v d p) :
    ∃ (A : Option Addr) (n c : Nat) (l : List UInt8), v = .slice A n c ∧ Bs W A n c l := by
  obtain ⟨A, c, zs, rfl, hr, hw⟩ := open_nums ht Try.underlying5 (by kernel_rfl) hv h
  refine ⟨A, _, c, zs.map fun z => UInt8.ofNat z.toNat, rfl, ?_, by simp⟩
  have e : bvs (zs.map fun z => UInt8.ofNat z.toNat) = zs.map (Value.int .u8) := by
    simp only [bvs, List.map_map]
    refine List.map_congr_left fun z hz => ?_
    have hb := bounds_u8 (hw z hz)
    obtain ⟨n, rfl⟩ := Int.eq_ofNat_of_zero_le hb.1
    simp only [Function.comp, bv, Int.toNat_natCast]
    rw [UInt8.toNat_ofNat_of_lt' (by simp [UInt8.size]; omega)]
  rw [e]
  exact hr
end
end Go.Proofs.Ytegbncngencfnaa
