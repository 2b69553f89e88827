/- bits.Len32: the kit's contract, laid at this program. -/
import Derived.Test.YtcakdlfhmdkocaaNa
import Derived.Shelf.Small.Bits
namespace Go.Proofs.Ytcakdlfhmdkocaa
open Go.RowKit Go.Shelf

def lenRen : Ren := { f := fun _ => 59, t := fun k => if k = 3 then 3 else if k = 4 then 4 else if k = 5 then 5 else if k = 9 then 9 else if k = 46 then 75 else 63, g := fun x => x }
theorem lenLays : Lays.n128 Try.prog lenRen := {
  mixed := by kernel_rfl
  f128 := Try.func59.trans (by kernel_rfl)
  t3 := Try.underlying3
  a3 := fun _ => by kernel_rfl
  z3 := fun _ => by kernel_rfl
  v3 := fun _ => by kernel_rfl
  t4 := Try.underlying4
  a4 := fun _ => by kernel_rfl
  z4 := fun _ => by kernel_rfl
  v4 := fun _ => by kernel_rfl
  t5 := Try.underlying5
  a5 := fun _ => by kernel_rfl
  z5 := fun _ => by kernel_rfl
  v5 := fun _ => by kernel_rfl
  t9 := Try.underlying9
  a9 := fun _ => by kernel_rfl
  z9 := fun _ => by kernel_rfl
  v9 := fun _ => by kernel_rfl
  t46 := Try.underlying75
  a46 := fun _ => by kernel_rfl
  z46 := fun _ => by kernel_rfl
  v46 := fun _ => by kernel_rfl
  t51 := Try.underlying63
  a51 := fun _ => by kernel_rfl
  z51 := fun _ => by kernel_rfl
  v51 := fun _ => by kernel_rfl }
theorem Len32_calls (x : Nat) (hx : x < 4294967296) (w : World) : Calls Try.prog 59 #[.int .u32 (x : Int)] w fun e w' => e = .returned (.int .i64 (nbits x : Nat)) ∧ w = w' :=
  (Any.bits_Len32 lenLays (x : Int) w (by omega) (by omega)).mono fun e w' ⟨he, hw⟩ => ⟨by rw [he, Int.toNat_natCast, nbits_bitLen (by omega)], hw.symm⟩
end Go.Proofs.Ytcakdlfhmdkocaa
