/- Packets: what a slice of them reads as; joining them. -/
import Derived.Test.YtcakdlfhmdkocaaFs
import Derived.Test.YtcakdlfhmdkocaaFt
import Derived.Test.YtcakdlfhmdkocaaSt
namespace Go.Proofs.Ytcakdlfhmdkocaa
open Go.RowKit

/-- A slice that reads as packets (tag, body). -/
def Ps (w : World) (A : Option Addr) (n : Nat) (ps : List (Int × List UInt8)) : Prop := ps.length = n ∧ ∀ k (hk : k < ps.length), ∃ b off Ak nk ck, A = some ⟨b, off, none⟩ ∧ b < w.heap.size ∧
  w.cell? ⟨b, off + k * 2, none⟩ = some (.int .i64 (ps[k]).1) ∧ w.cell? ⟨b, off + k * 2 + 1, none⟩ = some (.slice Ak nk ck) ∧ Bs w Ak nk ck (ps[k]).2
theorem Ps.below {w w' : World} {A : Option Addr} {n : Nat} {ps : List (Int × List UInt8)} (h : Ps w A n ps) (hb : Below w.heap.size w w') : Ps w' A n ps := by
  refine ⟨h.1, fun k hk => ?_⟩
  obtain ⟨b, off, Ak, nk, ck, e, hl, h0, h1, h2⟩ := h.2 k hk
  exact ⟨b, off, Ak, nk, ck, e, Nat.lt_of_lt_of_le hl hb.size, (hb.cell (p := ⟨b, off + k * 2, none⟩) hl).trans h0, (hb.cell (p := ⟨b, off + k * 2 + 1, none⟩) hl).trans h1, h2.below hb⟩

/-- The bytes of packets, behind out. -/
def joinT : List (Int × List UInt8) → List UInt8 → List UInt8 × Int
  | [], out => if 60000 < out.length then ([], 4) else (out, 0)
  | p :: ps, out => if (headS p.1 p.2.length).2 = 0 then joinT ps (out ++ (headS p.1 p.2.length).1 ++ p.2) else ([], (headS p.1 p.2.length).2)
def joinF (ps : List (Int × List UInt8)) : List UInt8 × Int := if 100 < ps.length then ([], 4) else joinT ps []
theorem headS_len (tag : Int) (n : Nat) : (headS tag n).1.length ≤ 6 := by
  unfold headS
  split
  · have := lenS_length (n : Int).toNat
    simp only [List.length_cons]
    omega
  · simp
theorem heap_lt (w : World) (o : Obj) {k : Nat} (h : k < w.heap.size) : (w.alloc o).heap[k]? = w.heap[k]? := (((Below.refl w.heap.size w).alloc (Nat.le_refl _) o).block k h)

/-- 'small' has answered: and if it is true, they are. -/
def SmallSaid (ps : List (Int × List UInt8)) (n : Nat) (e : Ending) : Prop := ∃ r : Bool, e = .returned (.bool r) ∧ (r = true → n ≤ 110 ∧ ∀ p ∈ ps, p.2.length ≤ 2000)
set_option maxRecDepth 100000 in
set_option maxHeartbeats 1600000 in
theorem small_calls {A : Option Addr} {n c : Nat} {ps : List (Int × List UInt8)} {w : World} (h : Ps w A n ps) (hn : n ≤ 9223372036854775807) :
    Calls Try.prog 35 #[.slice A n c] w fun e w' => SmallSaid ps n e ∧ w = w' := by
  obtain rfl := h.1
  go_enter Try.func35, Try.ntmps35
  go_wp2_with fail
  go_loop [3] (fun v => ∃ k : Nat, v = .int .i64 k ∧ k ≤ ps.length ∧ k ≤ 110 ∧ Hid (∀ j (hj : j < ps.length), j < k → (ps[j]).2.length ≤ 2000)) (fun v => 110 - (intOf v).toNat)
  case atStart => exact ⟨0, rfl, Nat.zero_le _, Nat.zero_le _, Lib.hid (fun j _ h => by omega)⟩
  case round =>
    obtain ⟨k, rfl, hk, hk110, hall⟩ := hrel
    by_cases hlt : k < ps.length
    · obtain ⟨b, off, Ak, nk, ck, hA, hbl, hc0, hc1, hbs⟩ := h.2 k hlt
      subst hA
      by_cases h110 : k = 110
      · subst h110
        go_wp2
        go_ret
        exact ⟨⟨false, by first | rfl | simp, fun h => by cases h⟩, rfl⟩
      · have hl2 : (ps[k]).2.length = nk := hbs.2
        by_cases h2 : 2000 < nk
        · have hd : decide (2000 < (nk : Int)) = true := decide_eq_true (by omega)
          go_wp2
          go_ret
          exact ⟨⟨false, by first | rfl | simp, fun h => by cases h⟩, rfl⟩
        · have hd : decide (2000 < (nk : Int)) = false := decide_eq_false (by omega)
          have hd2 : ((k : Int) == 110) = false := by rw [beq_eq_false_iff_ne]; omega
          go_wp2
          go_round
          case rel => exact ⟨k + 1, by go_num, by omega, by omega, Lib.hid (fun j hj hjk => by
            by_cases e : j = k
            · subst e; omega
            · exact hall.out j hj (by omega))⟩
          case measure => simp [intOf]; omega
    · have hke : k = ps.length := by omega
      go_wp2
      go_ret
      refine ⟨⟨true, rfl, fun _ => ⟨by omega, fun p hp => ?_⟩⟩, rfl⟩
      obtain ⟨j, hj, rfl⟩ := List.getElem_of_mem hp
      exact hall.out j hj (by omega)

theorem row_ne {A : Option Addr} {k : Nat} (h : ∀ ad, A = some ad → ad.block ≠ k) : some k ≠ A.map (·.block) := fun e => by
  cases A with
  | none => cases e
  | some ad =>
    have e' : k = ad.block := by injection e
    exact h ad rfl e'.symm

set_option maxRecDepth 100000 in
set_option maxHeartbeats 3200000 in
theorem Join_calls {A : Option Addr} {n c : Nat} {ps : List (Int × List UInt8)} {w : World} (h : Ps w A n ps) (hn : n ≤ 9223372036854775807) (hl : ∀ p ∈ ps, p.2.length ≤ 3000) :
    Calls Try.prog 37 #[.slice A n c] w fun e w' => ∃ A' m' c' r, e = .returned (.tuple #[.slice A' m' c', .int .i64 r]) ∧ Own w' w.heap.size A' m' c' (joinF ps).1 ∧ r = (joinF ps).2 ∧ Below w.heap.size w w' := by
  obtain rfl := h.1
  by_cases h100 : 100 < ps.length
  · have ht := Lib.hid (show joinF ps = ([], 4) by rw [joinF, if_pos h100])
    go_enter Try.func37, Try.ntmps37
    go_wp2
    go_ret2
    rw [ht.out]
    exact ⟨_, _, _, _, rfl, Own.nil_ _ _, rfl, Below.refl _ _⟩
  · have ht := Lib.hid (show joinF ps = joinT ps [] by rw [joinF, if_neg h100])
    go_enter Try.func37, Try.ntmps37
    go_wp2_with fail
    go_loopw [4, 14] (fun o i wr => ∃ (k : Nat) (Ao : Option Addr) (mo co : Nat) (outl : List UInt8), k ≤ ps.length ∧ i = .int .i64 k ∧ o = .slice Ao mo co ∧ Own wr w.heap.size Ao mo co outl ∧ Below w.heap.size w wr ∧ mo ≤ k * 3006 ∧ Hid (joinT (ps.drop k) outl = joinT ps [])) (fun _ i _ => ps.length - (intOf i).toNat)
    case atStart => exact ⟨0, none, 0, 0, [], Nat.zero_le _, rfl, rfl, Own.nil_ _ _, Below.refl _ _, by omega, Lib.hid rfl⟩
    case round =>
      obtain ⟨k, Ao, mo, co, outl, hk, rfl, rfl, hown, hbr, hmo, hfi⟩ := hrel
      have hmo2 := hown.2
      by_cases hlt : k < ps.length
      · obtain ⟨b, off, Ak, nk, ck, hA, hbl, hc0, hc1, hbs⟩ := h.2 k hlt
        subst hA
        have hdr : ps.drop k = ps[k] :: ps.drop (k + 1) := List.drop_eq_getElem_cons hlt
        have hlk := hl (ps[k]) (List.getElem_mem hlt)
        have hf := hfi.out
        rw [hdr, joinT] at hf
        generalize ps[k] = p at hc0 hc1 hbs hlk hf
        obtain ⟨tag, body⟩ := p
        simp only at hc0 hc1 hbs hlk hf
        obtain rfl := hbs.2
        have q0 := (hbr.cell (p := ⟨b, off + k * 2, none⟩) hbl).trans hc0
        have q1 := (hbr.cell (p := ⟨b, off + k * 2 + 1, none⟩) hbl).trans hc1
        have hnew := heap_alloc_new wr (.cells #[.int .i64 tag, .slice Ak body.length ck] 61)
        have hbD := hbr.alloc hbr.size (.cells #[.int .i64 tag, .slice Ak body.length ck] 61)
        have hoD := hown.alloc_ (.cells #[.int .i64 tag, .slice Ak body.length ck] 61)
        have HF := Lib.hid hf
        clear hdr hf hc0 hc1
        go_wp2_with fail
        generalize wr.alloc (.cells #[.int .i64 tag, .slice Ak body.length ck] 61) = w1 at hnew hbD hoD ⊢
        refine (Head_calls tag body.length w1).mono ?_
        rintro e w2 ⟨A2, m2, c2, r2, rfl, ho2, hr2, hb2⟩
        have hl6 := headS_len tag body.length
        have hm2 := ho2.2
        generalize headS tag (body.length : Int) = hd at ho2 hr2 HF hl6 hm2
        have hB2 := below_then hbD hbD.size hb2
        have hn2 := (hb2.block wr.heap.size (blk_lt hnew)).trans hnew
        have hown2 := hoD.below hb2
        clear hbD hoD hnew
        by_cases hr0 : r2 = 0
        · have hf := HF.out
          rw [if_pos (hr2.symm.trans hr0)] at hf
          have HF2 := Lib.hid hf
          subst hr0
          have k0 : w2.cell? ⟨wr.heap.size, 1, none⟩ = some (.slice Ak body.length ck) := blk_cell hn2 1
          have k0d : w2.drew.cell? ⟨wr.heap.size, 1, none⟩ = some (.slice Ak body.length ck) := blk_cell hn2 1
          have HN := Lib.hid hn2
          have hownd : Own w2.drew w.heap.size Ao mo co outl := hown2
          have ho2d : Bs w2.drew A2 m2 c2 hd.1 := ho2.bs
          have hB2d := hB2.drew
          clear hn2 hf hr2
          go_wp2
          go_region_held_law (fun w' => w'.cell? ⟨wr.heap.size, 1, none⟩ = some (.slice Ak body.length ck)) (first | exact k0 | exact k0d | exact k3 | exact k4) ((first
            | (refine step_app8 (.tmp 30) (.tmp 31) (by rfl) (by rfl) (by rfl) hownd (by rfl) ho2d (by omega) hB2d.size ?_; intro A3 c3 w3 hown3 hg3 hat3; have hb3 := hownd.grew hB2d hB2d.size hg3; have G3 := Lib.hid ((hg3.block wr.heap.size (blk_lt HN.out) (row_ne (fun ad e => Nat.ne_of_lt (hown.blk ad e).2))).trans HN.out); have k3 : w3.cell? ⟨wr.heap.size, 1, none⟩ = some (.slice Ak body.length ck) := blk_cell G3.out 1)
            | (refine step_app8 (.tmp 32) (.tmp 34) (by rfl) (by rfl) (by rfl) hown3 (by rfl) (hbs.below hb3) (by omega) hb3.size ?_; intro A4 c4 w4 hown4 hg4 hat4; have k4 : w4.cell? ⟨wr.heap.size, 1, none⟩ = some (.slice Ak body.length ck) := blk_cell ((hg4.block wr.heap.size (blk_lt G3.out) (row_ne (fun ad e e2 => by
                rcases hat3 ad e with h1 | h1
                · cases Ao with
                  | none => cases h1
                  | some a0 =>
                    have e' : a0.block = ad.block := by injection h1
                    have := (hown.blk a0 rfl).2; omega
                · have h3 : ad.block = w2.heap.size := h1
                  have := blk_lt HN.out; omega))).trans G3.out) 1)))
          have hb4 := hown3.grew hb3 hb3.size hg4
          go_wp2
          go_roundw
          case rel => exact ⟨k + 1, A4, _, c4, _, by omega, by go_num, rfl, hown4, hb4, by omega, Lib.hid HF2.out⟩
          case measure => simp [intOf]; omega
        · have hf := HF.out
          rw [if_neg (fun e => hr0 (hr2.trans e))] at hf
          have hne : (r2 != 0) = true := by rw [bne_iff_ne]; exact hr0
          rw [← hr2] at hf
          have HF2 := Lib.hid hf
          clear hf hr2
          go_wp2
          go_ret2
          rw [ht.out, ← HF2.out]
          exact ⟨_, _, _, _, rfl, Own.nil_ _ _, rfl, hB2⟩
      · have hk2 : k = ps.length := by omega
        have hf := hfi.out
        rw [hk2, List.drop_length, joinT] at hf
        by_cases h6 : 60000 < outl.length
        · rw [if_pos h6] at hf
          have HF2 := Lib.hid hf
          clear hf
          rw [hmo2] at h6
          go_wp2
          go_ret2
          rw [ht.out, ← HF2.out]
          exact ⟨_, _, _, _, rfl, Own.nil_ _ _, rfl, hbr⟩
        · rw [if_neg h6] at hf
          have HF2 := Lib.hid hf
          clear hf
          rw [hmo2] at h6
          go_wp2
          go_ret2
          rw [ht.out, ← HF2.out]
          exact ⟨_, _, _, _, rfl, hown, rfl, hbr⟩
end Go.Proofs.Ytcakdlfhmdkocaa
