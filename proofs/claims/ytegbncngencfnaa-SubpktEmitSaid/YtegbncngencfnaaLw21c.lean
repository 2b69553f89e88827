/- The statements of layer 21: SubpktEmit. -/
import Derived.Test.YtegbncngencfnaaLw21
import Derived.Test.YtegbncngencfnaaSi
import Derived.Test.YtegbncngencfnaaSy
namespace Go.Proofs.Ytegbncngencfnaa
open Go.RowKit

set_option maxRecDepth 100000 in
set_option maxHeartbeats 3200000 in
theorem SubpktEmit_walk {A : Option Addr} {n c : Nat} {ss : List SubV} {w : World} (h : Ss w A n ss) (hn : n ≤ 9223372036854775807) (hl : ∀ s ∈ ss, s.2.2.length ≤ 140737488355328) :
    Calls Try.prog 10 #[.slice A n c] w fun e w' => e = .returned (.bool true) ∧ Below w.heap.size w w' := by
  have hsm := Small21_calls (c := c) h hn hl
  have HL := Lib.hid hl
  clear hl
  go_enter Try.func10, Try.ntmps10
  go_wp2_with fail
  refine hsm.mono ?_
  rintro e w1 ⟨⟨r, rfl, hs⟩, rfl⟩
  have HS := Lib.hid hs
  clear hs hsm
  cases r with
  | false =>
    go_wp2_with (go_at_call 12; refine (alive21_calls _).mono ?_; rintro e w1 ⟨rfl, hb1⟩)
    go_ret
    exact ⟨rfl, hb1⟩
  | true =>
    have hss := h.1
    have H60 := Lib.hid (show n ≤ 500 by have := (HS.out rfl).1; omega)
    have H5 := Lib.hid (show ∀ s ∈ ss, s.2.2.length ≤ 100000 from fun s hs => by have := (HS.out rfl).2 s hs; omega)
    clear hss
    go_wp2_with fail
    refine (Emit_calls h H60.out H5.out).mono ?_
    rintro e w1 ⟨A1, m1, c1, r1, rfl, ho1, hr1, hb1⟩
    have HR1 := Lib.hid hr1
    clear hr1
    go_wp2_with fail
    refine (rEmit_calls (h.below hb1) H60.out H5.out).mono ?_
    rintro e w2 ⟨A2, m2, c2, r2, rfl, ho2, hr2, hb2⟩
    obtain rfl : r1 = r2 := HR1.out.trans hr2.symm
    clear hr2
    have hB2 := below_then hb1 hb1.size hb2
    go_wp2_with fail
    refine (alive21_calls _).mono ?_
    rintro e w3 ⟨rfl, hb3⟩
    have hB3 := below_then hB2 hB2.size hb3
    have s1 := ((ho1.below hb2).below hb3).bs.str
    have s2 := (ho2.below hb3).bs.str
    have HC := Lib.hid (Check_calls (c := c) (h.below hB3) hn)
    have HD := Lib.hid (fun W (hW : Below w.heap.size w W) => rCheck_calls (c := c) (h.below hW) hn)
    clear ho1 ho2
    go_wp2_with (first
      | (go_at_call 43; refine HC.out.mono ?_; rintro e w4 ⟨rfl, hb4⟩; have hB4 := below_then hB3 hB3.size hb4)
      | (go_at_call 44; refine (HD.out _ hB4).mono ?_; rintro e w5 ⟨rfl, hb5⟩))
    go_ret
    exact ⟨rfl, below_then hB4 hB4.size hb5⟩
end Go.Proofs.Ytegbncngencfnaa
