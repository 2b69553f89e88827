/- The taker of packets, further. -/
import Derived.Test.YtcakdlfhmdkocaaTk
namespace Go.Proofs.Ytcakdlfhmdkocaa
open Go.RowKit

section
variable {w w' : World} {B t g : Nat} {l : List UInt8} {s : St}
theorem Tk.open2 (h : Tk w B t g l s) : ∃ Ab nb cb, w.cell? ⟨t, 0, none⟩ = some (.pointer (some ⟨g, 0, none⟩)) ∧ w.cell? ⟨t, 1, none⟩ = some (.slice Ab nb cb) ∧ w.cell? ⟨t, 2, none⟩ = some (.int .i64 s.e) ∧
    w.frozen? ⟨t, 1, none⟩ = false ∧ w.frozen? ⟨t, 2, none⟩ = false ∧ Cur w g s.at_ l ∧ Own w B Ab nb cb s.body ∧ (∀ ad, Ab = some ad → t < ad.block) ∧
    Hid (w.heap[t]? = some (.cells #[.pointer (some ⟨g, 0, none⟩), .slice Ab nb cb, .int .i64 s.e] 86 (0, 0))) := by
  obtain ⟨Ab, nb, cb, hh, hc, ho, hb, hB, hg⟩ := h
  exact ⟨Ab, nb, cb, blk_cell hh 0, blk_cell hh 1, blk_cell hh 2, blk_frozen hh 1, blk_frozen hh 2, hc, ho, hb, Lib.hid hh⟩
/-- The body has grown, and the error is set. -/
theorem Tk.app {Ab A2 : Option Addr} {nb cb n2 c2 : Nat} {body2 : List UInt8} (h : Tk w B t g l s) (hh : w.heap[t]? = some (.cells #[.pointer (some ⟨g, 0, none⟩), .slice Ab nb cb, .int .i64 s.e] 86 (0, 0)))
    (hb : ∀ ad, Ab = some ad → t < ad.block) (hown : Own w' B A2 n2 c2 body2) (hg : w.grownBy w' (Ab.map (·.block))) (hat : ∀ ad, A2 = some ad → (Ab.map (·.block) = some ad.block ∨ ad.block = w.heap.size)) (x : Int) :
    Tk ((w'.setCell ⟨t, 1, none⟩ (.slice A2 n2 c2)).setCell ⟨t, 2, none⟩ (.int .i64 x)) B t g l ⟨s.at_, body2, x⟩ ∧ w'.cell? ⟨t, 1, none⟩ = some (.slice Ab nb cb) ∧ w'.cell? ⟨t, 2, none⟩ = some (.int .i64 s.e) ∧ w'.frozen? ⟨t, 1, none⟩ = false ∧ w'.frozen? ⟨t, 2, none⟩ = false := by
  obtain ⟨_, _, _, _, hc, _, _, hB, hgt⟩ := h
  have htl := blk_lt hh
  have hne : some t ≠ Ab.map (·.block) := fun e => by
    cases Ab with
    | none => cases e
    | some ad => have e' : t = ad.block := by simpa using e
                 have := hb ad rfl; omega
  have h2 : w'.heap[t]? = some (.cells #[.pointer (some ⟨g, 0, none⟩), .slice Ab nb cb, .int .i64 s.e] 86 (0, 0)) := (hg.block t htl hne).trans hh
  have hb2 : ∀ ad, A2 = some ad → t < ad.block := fun ad e => by
    rcases hat ad e with h | h
    · cases Ab with
      | none => cases h
      | some a0 => have h' : a0.block = ad.block := by simpa using h
                   have := hb a0 rfl; omega
    · omega
  have hc2 : Cur w' g s.at_ l := hc.grown hg (fun k e => by
    cases Ab with
    | none => cases e
    | some ad => have e' : ad.block = k := by simpa using e
                 have := hb ad rfl; omega)
  refine ⟨⟨A2, n2, c2, blk_set (blk_set h2 1 _) 2 _, ?_, ?_, hb2, hB, hgt⟩, blk_cell h2 1, blk_cell h2 2, blk_frozen h2 1, blk_frozen h2 2⟩
  · exact (hc2.grown (grown_setCell _ _ _ _) (fun k e => by injection e with e; omega)).grown (grown_setCell _ _ _ _) (fun k e => by injection e with e; omega)
  · exact (hown.grown (grown_setCell _ _ _ _) (fun ad e e2 => by have := hb2 ad e; injection e2 with e2; omega)).grown (grown_setCell _ _ _ _) (fun ad e e2 => by have := hb2 ad e; injection e2 with e2; omega)
end

set_option maxRecDepth 100000 in
set_option maxHeartbeats 1600000 in
theorem more_calls {w : World} {B t g : Nat} {l : List UInt8} {s : St} (h : Tk w B t g l s) (n : Int) (hbl : s.body.length ≤ 60000) :
    Calls Try.prog 78 #[.pointer (some ⟨t, 0, none⟩), .int .i64 n] w fun e w' => e = .returned (.tuple #[]) ∧ Tk w' B t g l (moreT l s n) ∧ Below B w w' := by
  obtain ⟨Ab, nb, cb, k0, k1, k2, f1, f2, hc, ho, hb, hh⟩ := h.open2
  obtain ⟨hB, hgt, htl⟩ := h.ord
  have hnb := ho.2
  by_cases he : s.e = 0
  · by_cases hlim : 60000 - (s.body.length : Int) < n
    · have ht := Lib.hid (show moreT l s n = ⟨s.at_, s.body, 4⟩ by rw [moreT, if_pos he, if_pos hlim])
      rw [he] at k2
      rw [hnb] at hlim hbl
      clear he hnb
      go_enter Try.func78, Try.ntmps78
      go_wp2
      refine bodyPost_ret (results_none rfl _ _ _) rfl ?_
      rw [ht.out]
      exact ⟨rfl, h.err 4, (Below.refl _ _).setCell (by show B ≤ t; omega) _⟩
    · have ht := Lib.hid (show moreT l s n = ⟨(takeS l s.at_ n).2.2, s.body ++ (takeS l s.at_ n).1, (takeS l s.at_ n).2.1⟩ by rw [moreT, if_pos he, if_neg hlim])
      have hxl := (takeS_short l s.at_ n).1
      have hll := hc.len.2
      generalize hx : takeS l s.at_ n = x at ht hxl
      have Hx := Lib.hid hx
      clear hx
      rw [he] at k2
      rw [hnb] at hlim hbl
      have HE := Lib.hid he
      have HN := Lib.hid hnb
      clear he hnb
      go_enter Try.func78, Try.ntmps78
      go_wp2_with (first
        | (go_at_call 73; go_must (refine (Take_any hc n).mono ?_; rw [Hx.out]; rintro e w1 ⟨A1, m1, c1, r1, rfl, ho1, hr1, hc1, hg1⟩); have T1 := h.cur hg1 hc1; have hm1 := ho1.2; go_must (have Hr1 := Lib.hid hr1; have Hm1 : m1 ≤ 4294967296 := (by omega); clear hr1 hm1; obtain ⟨A2, n2, c2, kk0, kk1, kk2, ff1, ff2, _, ho2, hb2, hh2⟩ := T1.open2; have Hn2 : n2 ≤ 60000 := (by have h1 : s.body.length = n2 := ho2.2; have h2 := HN.out; omega); have hB1 : B ≤ w1.heap.size := (by have := hg1.size; omega); rw [HE.out] at kk2))
        | (at_builtin; go_must (refine app8 (.tmp 38) (.tmp 39) rfl rfl rfl ho2 rfl ho1.bs (by omega) hB1 ?_); intro A3 c3 w3 hown3 hg3 hat3; go_must (have hT := Tk.app T1 hh2.out hb2 hown3 hg3 hat3 r1; obtain ⟨hT1, z1, z2, z3, z4⟩ := hT; rw [HE.out] at z2; have HT := Lib.hid hT1; clear hT1)))
      go_end0
      have h3 := HT.out
      have hb1 : Below B w w1 := (Below.refl _ _).grown hg1 (by omega) (fun k e => by cases e; exact hB)
      have hbl3 : Below B w w3 := hb1.grown hg3 hB1 (fun k e => by
        cases A2 with
        | none => cases e
        | some ad => cases e; have := hb2 ad rfl; show B ≤ ad.block; omega)
      rw [ht.out]
      rw [Hr1.out] at h3
      rw [Hr1.out]
      exact ⟨rfl, h3, (hbl3.setCell (by show B ≤ t; omega) _).setCell (by show B ≤ t; omega) _⟩
  · have ht := Lib.hid (show moreT l s n = s by rw [moreT, if_neg he])
    have hne : (s.e != 0) = true := by rw [bne_iff_ne]; exact he
    clear he
    go_enter Try.func78, Try.ntmps78
    go_wp2
    refine bodyPost_ret (results_none rfl _ _ _) rfl ?_
    rw [ht.out]
    exact ⟨rfl, h, Below.refl _ _⟩
end Go.Proofs.Ytcakdlfhmdkocaa
