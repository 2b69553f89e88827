/- Packets that are alike. -/
import Derived.Test.YtcakdlfhmdkocaaPm
import Derived.Deep.RegionHeld
namespace Go.Proofs.Ytcakdlfhmdkocaa
open Go.RowKit

set_option maxRecDepth 100000 in
set_option maxHeartbeats 3200000 in
theorem Same_calls {A D : Option Addr} {n c m d : Nat} {ps : List (Int × List UInt8)} {w : World} (h : Ps w A n ps) (h2 : Ps w D m ps) (hn : n ≤ 9223372036854775807) :
    Calls Try.prog 41 #[.slice A n c, .slice D m d] w fun e w' => e = .returned (.bool true) ∧ Below w.heap.size w w' := by
  obtain rfl := h.1
  obtain rfl := h2.1
  go_enter Try.func41, Try.ntmps41
  go_wp2_with fail
  go_loopw [5] (fun i wr => ∃ k : Nat, k ≤ ps.length ∧ i = .int .i64 k ∧ Below w.heap.size w wr) (fun i _ => ps.length - (intOf i).toNat)
  case atStart => exact ⟨0, Nat.zero_le _, rfl, Below.refl _ _⟩
  case round =>
    obtain ⟨k, hk, rfl, hbr⟩ := hrel
    by_cases hlt : k < ps.length
    · obtain ⟨b, off, Ak, nk, ck, hA, hbl, hc0, hc1, hbs⟩ := h.2 k hlt
      obtain ⟨b2, off2, Ak2, nk2, ck2, hD, hbl2, hd0, hd1, hbs2⟩ := h2.2 k hlt
      subst hA
      subst hD
      generalize ps[k] = p at hc0 hc1 hbs hd0 hd1 hbs2
      obtain ⟨tag, body⟩ := p
      simp only at hc0 hc1 hbs hd0 hd1 hbs2
      have q0 : wr.drew.cell? ⟨b, off + k * 2, none⟩ = some (.int .i64 tag) := (hbr.cell (p := ⟨b, off + k * 2, none⟩) hbl).trans hc0
      have q1 : wr.drew.cell? ⟨b, off + k * 2 + 1, none⟩ = some (.slice Ak nk ck) := (hbr.cell (p := ⟨b, off + k * 2 + 1, none⟩) hbl).trans hc1
      have q2 : wr.drew.cell? ⟨b2, off2 + k * 2, none⟩ = some (.int .i64 tag) := (hbr.cell (p := ⟨b2, off2 + k * 2, none⟩) hbl2).trans hd0
      have q3 : wr.drew.cell? ⟨b2, off2 + k * 2 + 1, none⟩ = some (.slice Ak2 nk2 ck2) := (hbr.cell (p := ⟨b2, off2 + k * 2 + 1, none⟩) hbl2).trans hd1
      have s1 := (hbs.below hbr).drew.str
      have s2 := (hbs2.below hbr).drew.str
      have hi0 : (0 : Int) ≤ (k : Int) := by omega
      have hi1 : (k : Int) < (ps.length : Int) := by omega
      clear hc0 hc1 hd0 hd1 hbs hbs2
      go_wp2_with fail
      go_region_held (fun w' => (w'.cell? ⟨b, off + k * 2, none⟩ = some (.int .i64 tag) ∧ w'.cell? ⟨b, off + k * 2 + 1, none⟩ = some (.slice Ak nk ck)) ∧ (w'.cell? ⟨b2, off2 + k * 2, none⟩ = some (.int .i64 tag) ∧ w'.cell? ⟨b2, off2 + k * 2 + 1, none⟩ = some (.slice Ak2 nk2 ck2)) ∧
        (convert 22 9 (.slice Ak nk ck)).run Try.prog w' = .ok (.string (strOf body)) w' ∧ (convert 22 9 (.slice Ak2 nk2 ck2)).run Try.prog w' = .ok (.string (strOf body)) w') (exact ⟨⟨q0, q1⟩, ⟨q2, q3⟩, s1, s2⟩) (fail)
      go_wp2
      go_roundw
      case rel => exact ⟨k + 1, by omega, by go_num, hbr.drew⟩
      case measure => simp [intOf]; omega
    · have hke : k = ps.length := by omega
      go_wp2
      go_ret
      exact ⟨rfl, hbr⟩
end Go.Proofs.Ytcakdlfhmdkocaa
