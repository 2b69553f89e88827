/- The taker of packets: a new packet's body, an old one's. -/
import Derived.Test.YtcakdlfhmdkocaaTm
import Derived.Test.YtcakdlfhmdkocaaFs
import Derived.Deep.LoopGhost
namespace Go.Proofs.Ytcakdlfhmdkocaa
open Go.RowKit

/-- May this part not be? -/
def badPart (tag : Int) (first : Bool) (L : Int × Bool × St) : Bool := L.2.1 && (!mayPart tag || (first && decide (L.1 < 512)))
def markT (bad : Bool) (s : St) : St := if bad then ⟨s.at_, s.body, 8⟩ else s
def partT (l : List UInt8) (tag : Int) (first : Bool) (s : St) : St := moreT l (markT (badPart tag first (longT l s)) (longT l s).2.2) (longT l s).1
def stopT (l : List UInt8) (tag : Int) (first : Bool) (s : St) : Bool := (partT l tag first s).e != 0 || !(longT l s).2.1
def freshT (l : List UInt8) (tag : Int) : Nat → Bool → St → St
  | 0, _, s => s
  | f + 1, first, s => if stopT l tag first s then partT l tag first s else freshT l tag f false (partT l tag first s)

theorem takeS_at (l : List UInt8) (at_ : Nat) (n : Int) : at_ ≤ (takeS l at_ n).2.2 := by
  unfold takeS
  split
  · exact Nat.le_refl _
  · split
    · exact Nat.le_refl _
    · exact Nat.le_add_right _ _
theorem numT_at (l : List UInt8) (s : St) (wd : Int) : s.at_ ≤ (numT l s wd).2.at_ ∧ (numT l s wd).2.body = s.body := by
  unfold numT
  split
  · refine ⟨?_, rfl⟩
    simp only
    unfold numS
    split
    · exact Nat.le_refl _
    · exact takeS_at _ _ _
  · exact ⟨Nat.le_refl _, rfl⟩
/-- A number of one byte that is taken has taken it. -/
theorem numT_one (l : List UInt8) (s : St) (h : (numT l s 1).2.e = 0) : s.e = 0 ∧ s.at_ < l.length ∧ (numT l s 1).2.at_ = s.at_ + 1 := by
  unfold numT at h ⊢
  split at h
  · rename_i he
    rw [if_pos he]
    simp only [numS] at h ⊢
    rw [if_neg (by omega)] at h ⊢
    simp only [takeS] at h ⊢
    rw [if_neg (by omega)] at h ⊢
    split at h
    · simp at h
    · rename_i h2
      rw [if_neg h2]
      exact ⟨he, by omega, rfl⟩
  · rename_i he
    exact absurd h he
theorem longT_at (l : List UInt8) (s : St) : s.at_ ≤ (longT l s).2.2.at_ ∧ (longT l s).2.2.body = s.body ∧ ((longT l s).2.1 = true → (longT l s).2.2 = (numT l s 1).2) := by
  have h1 := numT_at l s 1
  have h2 := numT_at l (numT l s 1).2 1
  have h3 := numT_at l (numT l s 1).2 4
  unfold longT
  split
  · exact ⟨h1.1, h1.2, fun h => by cases h⟩
  · split
    · exact ⟨Nat.le_trans h1.1 h2.1, h2.2.trans h1.2, fun h => by cases h⟩
    · split
      · exact ⟨h1.1, h1.2, fun _ => rfl⟩
      · exact ⟨Nat.le_trans h1.1 h3.1, h3.2.trans h1.2, fun h => by cases h⟩
theorem moreT_at (l : List UInt8) (s : St) (n : Int) : s.at_ ≤ (moreT l s n).at_ ∧ (s.body.length ≤ 60000 → (moreT l s n).body.length ≤ 60000) ∧ ((moreT l s n).e = 0 → s.e = 0) := by
  unfold moreT
  split
  · rename_i he
    split
    · exact ⟨Nat.le_refl _, fun h => h, fun _ => he⟩
    · rename_i hn
      refine ⟨takeS_at _ _ _, fun h => ?_, fun _ => he⟩
      simp only [List.length_append]
      by_cases h0 : 0 ≤ n
      · have := (takeS_short l s.at_ n).2 h0
        omega
      · have e : (takeS l s.at_ n).1 = [] := by unfold takeS; rw [if_pos (by omega)]
        rw [e]; simpa using h
  · exact ⟨Nat.le_refl _, fun h => h, fun h => h⟩
theorem markT_at (b : Bool) (s : St) : (markT b s).at_ = s.at_ ∧ (markT b s).body = s.body ∧ ((markT b s).e = 0 → b = false) := by
  unfold markT
  cases b
  · exact ⟨rfl, rfl, fun _ => rfl⟩
  · exact ⟨rfl, rfl, fun h => by simp at h⟩
/-- A part that does not stop has taken a byte. -/
theorem partT_on (l : List UInt8) (tag : Int) (first : Bool) (s : St) (hb : s.body.length ≤ 60000) : (partT l tag first s).body.length ≤ 60000 ∧ (stopT l tag first s = false → s.at_ < l.length ∧ s.at_ < (partT l tag first s).at_) := by
  have h1 := longT_at l s
  have h2 := markT_at (badPart tag first (longT l s)) (longT l s).2.2
  have h3 := moreT_at l (markT (badPart tag first (longT l s)) (longT l s).2.2) (longT l s).1
  refine ⟨h3.2.1 (by rw [h2.2.1, h1.2.1]; exact hb), fun hs => ?_⟩
  unfold stopT at hs
  rw [Bool.or_eq_false_iff] at hs
  obtain ⟨ha, hb⟩ := hs
  have he : (partT l tag first s).e = 0 := by simpa using ha
  have hp : (longT l s).2.1 = true := by simpa using hb
  have he2 := h3.2.2 he
  have hbad := h2.2.2 he2
  rw [hbad] at he2
  have he3 : (numT l s 1).2.e = 0 := by rw [← h1.2.2 hp]; exact he2
  have hn := numT_one l s he3
  refine ⟨hn.2.1, ?_⟩
  have h4 : (longT l s).2.2.at_ = s.at_ + 1 := by rw [h1.2.2 hp]; exact hn.2.2
  have h5 := h3.1
  rw [h2.1, h4] at h5
  unfold partT
  omega

theorem freshT_stop {l : List UInt8} {tag : Int} {f : Nat} {first : Bool} {s : St} (h : stopT l tag first s = true) : freshT l tag (f + 1) first s = partT l tag first s := by rw [freshT, if_pos h]
theorem freshT_on {l : List UInt8} {tag : Int} {f : Nat} {first : Bool} {s : St} (h : stopT l tag first s = false) : freshT l tag (f + 1) first s = freshT l tag f false (partT l tag first s) := by rw [freshT, h]; rfl
end Go.Proofs.Ytcakdlfhmdkocaa
