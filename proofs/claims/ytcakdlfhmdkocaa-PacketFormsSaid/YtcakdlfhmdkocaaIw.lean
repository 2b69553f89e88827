/- Slices of ints. -/
import Derived.Test.YtcakdlfhmdkocaaBy
namespace Go.Proofs.Ytcakdlfhmdkocaa
open Go.RowKit

/-- A slice of ints that reads as zs. -/
def Is (w : World) (A : Option Addr) (n c : Nat) (zs : List Int) : Prop := Rd w A c (zs.map (Value.int .i64)) ∧ zs.length = n
theorem Is.below {w w' : World} {A : Option Addr} {n c : Nat} {zs : List Int} (h : Is w A n c zs) (hb : Below w.heap.size w w') : Is w' A n c zs := ⟨h.1.below hb, h.2⟩
theorem Is.at_ {w : World} {A : Option Addr} {n c k : Nat} {zs : List Int} (h : Is w A n c zs) (hk : k < zs.length) : ∃ b off, A = some ⟨b, off, none⟩ ∧ b < w.heap.size ∧ w.cell? ⟨b, off + k, none⟩ = some (.int .i64 zs[k]) := by
  obtain ⟨b, off, e, hb, hc⟩ := h.1.at_ (k := k) (by simpa using hk)
  exact ⟨b, off, e, hb, by simpa using hc⟩
theorem Is.max {w : World} {A : Option Addr} {n c : Nat} {zs : List Int} (h : Is w A n c zs) : n ≤ 9223372036854775807 := by
  have h1 := h.1.1
  have h2 := h.1.2.1
  have h3 := h.2
  simp only [List.length_map, maxLen] at *
  omega
end Go.Proofs.Ytcakdlfhmdkocaa
