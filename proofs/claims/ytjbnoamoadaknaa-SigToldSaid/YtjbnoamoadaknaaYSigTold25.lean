import Derived.Test.YtjbnoamoadaknaaYSigTold4
import Derived.Deep.QuietTactic
import Derived.BigQuiet
/- What a subpacket may hold: subpkt.may and the document's. -/
section
namespace Go.Proofs.Ytjbnoamoadaknaa
open Go.RowKit

/-- Whether bytes are a fingerprint behind its version. -/
def printS : List UInt8 → Bool
  | [] => false
  | x :: r => (decide (r.length = 20) && decide (x.toNat = 4)) || (decide (r.length = 32) && decide (x.toNat = 6))
/-- Whether a subpacket's type is known, and whether its body is in form. -/
def maySv (ty : Int) (body : List UInt8) : Bool × Bool :=
  if ty = 2 ∨ ty = 3 ∨ ty = 9 then (true, decide (body.length = 4)) else
  if ty = 4 ∨ ty = 7 ∨ ty = 25 then (true, match body with | [x] => decide (x.toNat ≤ 1) | _ => false) else
  if ty = 5 then (true, decide (body.length = 2)) else
  if ty = 11 ∨ ty = 21 ∨ ty = 22 ∨ ty = 23 ∨ ty = 30 ∨ ty = 32 ∨ ty = 34 then (true, true) else
  if ty = 27 ∨ ty = 29 then (true, decide (0 < body.length)) else
  if ty = 16 then (true, decide (body.length = 8)) else
  if ty = 20 then (true, decide (8 ≤ body.length)) else
  if ty = 33 then (true, printS body) else (false, true)

set_option maxRecDepth 100000 in
set_option maxHeartbeats 6400000 in
theorem isPrint_calls {Ab : Option Addr} {nb_ cb : Nat} {body : List UInt8} {w : World} (hb : Bs w Ab nb_ cb body) :
    Calls Try.prog 92 #[.slice Ab nb_ cb] w fun e w' => e = .returned (.bool (printS body)) ∧ w = w' := by
  cases body with
  | nil =>
    obtain rfl : 0 = nb_ := hb.2
    have HM := Lib.hid (show printS [] = false from rfl)
    go_enter Try.func92, Try.ntmps92
    go_wp2
    go_ret
    exact ⟨by rw [HM.out] <;> rfl, rfl⟩
  | cons x r =>
    obtain ⟨b0, o0, hA, hbl, hc⟩ := hb.byte (k := 0) (by simp)
    simp only [List.getElem_cons_zero, Nat.add_zero] at hc
    have hlen : r.length + 1 = nb_ := hb.2
    have hP : printS (x :: r) = ((decide (r.length = 20) && decide (x.toNat = 4)) || (decide (r.length = 32) && decide (x.toNat = 6))) := rfl
    subst hA
    generalize printS (x :: r) = q at hP ⊢
    generalize x.toNat = v at hc hP
    by_cases h20 : r.length = 20
    · obtain rfl : nb_ = 21 := by omega
      by_cases h4 : v = 4
      · subst h4
        have HM := Lib.hid (show q = true by rw [hP, h20]; rfl)
        clear hP
        go_enter Try.func92, Try.ntmps92
        go_wp2
        go_ret
        exact ⟨by rw [HM.out] <;> rfl, rfl⟩
      · have HM := Lib.hid (show q = false by rw [hP, h20]; simp [h4])
        have hv : ((v : Int) == 4) = false := by rw [beq_eq_false_iff_ne]; omega
        clear hP h4
        go_enter Try.func92, Try.ntmps92
        go_wp2
        go_ret
        exact ⟨by rw [HM.out] <;> rfl, rfl⟩
    · by_cases h32 : r.length = 32
      · obtain rfl : nb_ = 33 := by omega
        by_cases h6 : v = 6
        · subst h6
          have HM := Lib.hid (show q = true by rw [hP, h32]; rfl)
          clear hP
          go_enter Try.func92, Try.ntmps92
          go_wp2
          go_ret
          exact ⟨by rw [HM.out] <;> rfl, rfl⟩
        · have HM := Lib.hid (show q = false by rw [hP, h32]; simp [h6])
          have hv : ((v : Int) == 6) = false := by rw [beq_eq_false_iff_ne]; omega
          clear hP h6
          go_enter Try.func92, Try.ntmps92
          go_wp2
          go_ret
          exact ⟨by rw [HM.out] <;> rfl, rfl⟩
      · have HM := Lib.hid (show q = false by rw [hP]; simp [h20, h32])
        have e21 : ((nb_ : Int) == 21) = false := by rw [beq_eq_false_iff_ne]; omega
        have e33 : ((nb_ : Int) == 33) = false := by rw [beq_eq_false_iff_ne]; omega
        clear hP h20 h32
        go_enter Try.func92, Try.ntmps92
        go_wp2
        go_ret
        exact ⟨by rw [HM.out] <;> rfl, rfl⟩

set_option maxRecDepth 100000 in
set_option maxHeartbeats 6400000 in
theorem maySub_calls (ty : Int) (cr : Bool) {Ab : Option Addr} {nb_ cb : Nat} {body : List UInt8} {w : World} (hb : Bs w Ab nb_ cb body) :
    Calls Try.prog 76 #[.agg #[.int .i64 ty, .bool cr, .slice Ab nb_ cb]] w fun e w' => e = .returned (.tuple #[.bool (maySv ty body).1, .bool (maySv ty body).2]) ∧ Below w.heap.size w w' := by
  have hnew := heap_alloc_new w (.cells #[.int .i64 ty, .bool cr, .slice Ab nb_ cb] 70)
  have hB1 := (Below.refl w.heap.size w).alloc (Nat.le_refl _) (.cells #[.int .i64 ty, .bool cr, .slice Ab nb_ cb] 70)
  have hb := hb.below hB1
  generalize hw1 : w.alloc (.cells #[.int .i64 ty, .bool cr, .slice Ab nb_ cb] 70) = w1 at hnew hB1 hb
  have c0 := blk_cell hnew 0
  have c1 := blk_cell hnew 1
  have c2 := blk_cell hnew 2
  clear hnew
  have hlb := hb.2
  by_cases h2 : ty = 2
  · subst h2
    by_cases hq : nb_ = 4
    · have HM := Lib.hid (show maySv 2 body = (true, true) by simp [maySv, hlb, hq])
      subst hq
      go_enter Try.func76, Try.ntmps76
      go_wp2
      go_ret2
      exact ⟨by rw [HM.out] <;> rfl, hB1⟩
    · have HM := Lib.hid (show maySv 2 body = (true, false) by simp [maySv, hlb, hq])
      have he : ((nb_ : Int) == 4) = false := by rw [beq_eq_false_iff_ne]; omega
      clear hq
      go_enter Try.func76, Try.ntmps76
      go_wp2
      go_ret2
      exact ⟨by rw [HM.out] <;> rfl, hB1⟩
  · have e2 : (ty == 2) = false := by simpa using h2
    by_cases h3 : ty = 3
    · subst h3
      by_cases hq : nb_ = 4
      · have HM := Lib.hid (show maySv 3 body = (true, true) by simp [maySv, hlb, hq])
        subst hq
        go_enter Try.func76, Try.ntmps76
        go_wp2
        go_ret2
        exact ⟨by rw [HM.out] <;> rfl, hB1⟩
      · have HM := Lib.hid (show maySv 3 body = (true, false) by simp [maySv, hlb, hq])
        have he : ((nb_ : Int) == 4) = false := by rw [beq_eq_false_iff_ne]; omega
        clear hq
        go_enter Try.func76, Try.ntmps76
        go_wp2
        go_ret2
        exact ⟨by rw [HM.out] <;> rfl, hB1⟩
    · have e3 : (ty == 3) = false := by simpa using h3
      by_cases h9 : ty = 9
      · subst h9
        by_cases hq : nb_ = 4
        · have HM := Lib.hid (show maySv 9 body = (true, true) by simp [maySv, hlb, hq])
          subst hq
          go_enter Try.func76, Try.ntmps76
          go_wp2
          go_ret2
          exact ⟨by rw [HM.out] <;> rfl, hB1⟩
        · have HM := Lib.hid (show maySv 9 body = (true, false) by simp [maySv, hlb, hq])
          have he : ((nb_ : Int) == 4) = false := by rw [beq_eq_false_iff_ne]; omega
          clear hq
          go_enter Try.func76, Try.ntmps76
          go_wp2
          go_ret2
          exact ⟨by rw [HM.out] <;> rfl, hB1⟩
      · have e9 : (ty == 9) = false := by simpa using h9
        by_cases h4 : ty = 4
        · subst h4
          by_cases hq : nb_ = 1
          · subst hq
            obtain ⟨x, rfl⟩ : ∃ x, body = [x] := by
              match body, hlb with
              | [x], _ => exact ⟨x, rfl⟩
            obtain ⟨b0, o0, hA, hbl, hc⟩ := hb.byte (k := 0) (by simp)
            simp only [List.getElem_cons_zero, Nat.add_zero] at hc
            subst hA
            by_cases hx : x.toNat ≤ 1
            · have HM := Lib.hid (show maySv 4 [x] = (true, true) by simp [maySv, hx])
              have hi : decide ((x.toNat : Int) ≤ 1) = true := decide_eq_true (by omega)
              generalize x.toNat = v at hc hi hx
              clear hx
              go_enter Try.func76, Try.ntmps76
              go_wp2
              go_quiet (fail)
              go_wp2
              go_ret2
              exact ⟨by rw [HM.out] <;> rfl, below_drewN hB1 _⟩
            · have HM := Lib.hid (show maySv 4 [x] = (true, false) by simp [maySv, hx])
              have hi : decide ((x.toNat : Int) ≤ 1) = false := decide_eq_false (by omega)
              generalize x.toNat = v at hc hi hx
              clear hx
              go_enter Try.func76, Try.ntmps76
              go_wp2
              go_quiet (fail)
              go_wp2
              go_ret2
              exact ⟨by rw [HM.out] <;> rfl, below_drewN hB1 _⟩
          · have HM := Lib.hid (show maySv 4 body = (true, false) by
              match body, hlb with
              | [], _ => rfl
              | [x], e => exact absurd e.symm hq
              | x :: y :: r, _ => rfl)
            have he : ((nb_ : Int) == 1) = false := by rw [beq_eq_false_iff_ne]; omega
            clear hq
            go_enter Try.func76, Try.ntmps76
            go_wp2
            go_quiet (fail)
            go_wp2
            go_ret2
            exact ⟨by rw [HM.out] <;> rfl, below_drewN hB1 _⟩
        · have e4 : (ty == 4) = false := by simpa using h4
          by_cases h7 : ty = 7
          · subst h7
            by_cases hq : nb_ = 1
            · subst hq
              obtain ⟨x, rfl⟩ : ∃ x, body = [x] := by
                match body, hlb with
                | [x], _ => exact ⟨x, rfl⟩
              obtain ⟨b0, o0, hA, hbl, hc⟩ := hb.byte (k := 0) (by simp)
              simp only [List.getElem_cons_zero, Nat.add_zero] at hc
              subst hA
              by_cases hx : x.toNat ≤ 1
              · have HM := Lib.hid (show maySv 7 [x] = (true, true) by simp [maySv, hx])
                have hi : decide ((x.toNat : Int) ≤ 1) = true := decide_eq_true (by omega)
                generalize x.toNat = v at hc hi hx
                clear hx
                go_enter Try.func76, Try.ntmps76
                go_wp2
                go_quiet (fail)
                go_wp2
                go_ret2
                exact ⟨by rw [HM.out] <;> rfl, below_drewN hB1 _⟩
              · have HM := Lib.hid (show maySv 7 [x] = (true, false) by simp [maySv, hx])
                have hi : decide ((x.toNat : Int) ≤ 1) = false := decide_eq_false (by omega)
                generalize x.toNat = v at hc hi hx
                clear hx
                go_enter Try.func76, Try.ntmps76
                go_wp2
                go_quiet (fail)
                go_wp2
                go_ret2
                exact ⟨by rw [HM.out] <;> rfl, below_drewN hB1 _⟩
            · have HM := Lib.hid (show maySv 7 body = (true, false) by
                match body, hlb with
                | [], _ => rfl
                | [x], e => exact absurd e.symm hq
                | x :: y :: r, _ => rfl)
              have he : ((nb_ : Int) == 1) = false := by rw [beq_eq_false_iff_ne]; omega
              clear hq
              go_enter Try.func76, Try.ntmps76
              go_wp2
              go_quiet (fail)
              go_wp2
              go_ret2
              exact ⟨by rw [HM.out] <;> rfl, below_drewN hB1 _⟩
          · have e7 : (ty == 7) = false := by simpa using h7
            by_cases h25 : ty = 25
            · subst h25
              by_cases hq : nb_ = 1
              · subst hq
                obtain ⟨x, rfl⟩ : ∃ x, body = [x] := by
                  match body, hlb with
                  | [x], _ => exact ⟨x, rfl⟩
                obtain ⟨b0, o0, hA, hbl, hc⟩ := hb.byte (k := 0) (by simp)
                simp only [List.getElem_cons_zero, Nat.add_zero] at hc
                subst hA
                by_cases hx : x.toNat ≤ 1
                · have HM := Lib.hid (show maySv 25 [x] = (true, true) by simp [maySv, hx])
                  have hi : decide ((x.toNat : Int) ≤ 1) = true := decide_eq_true (by omega)
                  generalize x.toNat = v at hc hi hx
                  clear hx
                  go_enter Try.func76, Try.ntmps76
                  go_wp2
                  go_quiet (fail)
                  go_wp2
                  go_ret2
                  exact ⟨by rw [HM.out] <;> rfl, below_drewN hB1 _⟩
                · have HM := Lib.hid (show maySv 25 [x] = (true, false) by simp [maySv, hx])
                  have hi : decide ((x.toNat : Int) ≤ 1) = false := decide_eq_false (by omega)
                  generalize x.toNat = v at hc hi hx
                  clear hx
                  go_enter Try.func76, Try.ntmps76
                  go_wp2
                  go_quiet (fail)
                  go_wp2
                  go_ret2
                  exact ⟨by rw [HM.out] <;> rfl, below_drewN hB1 _⟩
              · have HM := Lib.hid (show maySv 25 body = (true, false) by
                  match body, hlb with
                  | [], _ => rfl
                  | [x], e => exact absurd e.symm hq
                  | x :: y :: r, _ => rfl)
                have he : ((nb_ : Int) == 1) = false := by rw [beq_eq_false_iff_ne]; omega
                clear hq
                go_enter Try.func76, Try.ntmps76
                go_wp2
                go_quiet (fail)
                go_wp2
                go_ret2
                exact ⟨by rw [HM.out] <;> rfl, below_drewN hB1 _⟩
            · have e25 : (ty == 25) = false := by simpa using h25
              by_cases h5 : ty = 5
              · subst h5
                by_cases hq : nb_ = 2
                · have HM := Lib.hid (show maySv 5 body = (true, true) by simp [maySv, hlb, hq])
                  subst hq
                  go_enter Try.func76, Try.ntmps76
                  go_wp2
                  go_ret2
                  exact ⟨by rw [HM.out] <;> rfl, hB1⟩
                · have HM := Lib.hid (show maySv 5 body = (true, false) by simp [maySv, hlb, hq])
                  have he : ((nb_ : Int) == 2) = false := by rw [beq_eq_false_iff_ne]; omega
                  clear hq
                  go_enter Try.func76, Try.ntmps76
                  go_wp2
                  go_ret2
                  exact ⟨by rw [HM.out] <;> rfl, hB1⟩
              · have e5 : (ty == 5) = false := by simpa using h5
                by_cases h11 : ty = 11
                · subst h11
                  have HM := Lib.hid (show maySv 11 body = (true, true) by simp [maySv])
                  go_enter Try.func76, Try.ntmps76
                  go_wp2
                  go_ret2
                  exact ⟨by rw [HM.out] <;> rfl, hB1⟩
                · have e11 : (ty == 11) = false := by simpa using h11
                  by_cases h21 : ty = 21
                  · subst h21
                    have HM := Lib.hid (show maySv 21 body = (true, true) by simp [maySv])
                    go_enter Try.func76, Try.ntmps76
                    go_wp2
                    go_ret2
                    exact ⟨by rw [HM.out] <;> rfl, hB1⟩
                  · have e21 : (ty == 21) = false := by simpa using h21
                    by_cases h22 : ty = 22
                    · subst h22
                      have HM := Lib.hid (show maySv 22 body = (true, true) by simp [maySv])
                      go_enter Try.func76, Try.ntmps76
                      go_wp2
                      go_ret2
                      exact ⟨by rw [HM.out] <;> rfl, hB1⟩
                    · have e22 : (ty == 22) = false := by simpa using h22
                      by_cases h23 : ty = 23
                      · subst h23
                        have HM := Lib.hid (show maySv 23 body = (true, true) by simp [maySv])
                        go_enter Try.func76, Try.ntmps76
                        go_wp2
                        go_ret2
                        exact ⟨by rw [HM.out] <;> rfl, hB1⟩
                      · have e23 : (ty == 23) = false := by simpa using h23
                        by_cases h30 : ty = 30
                        · subst h30
                          have HM := Lib.hid (show maySv 30 body = (true, true) by simp [maySv])
                          go_enter Try.func76, Try.ntmps76
                          go_wp2
                          go_ret2
                          exact ⟨by rw [HM.out] <;> rfl, hB1⟩
                        · have e30 : (ty == 30) = false := by simpa using h30
                          by_cases h32 : ty = 32
                          · subst h32
                            have HM := Lib.hid (show maySv 32 body = (true, true) by simp [maySv])
                            go_enter Try.func76, Try.ntmps76
                            go_wp2
                            go_ret2
                            exact ⟨by rw [HM.out] <;> rfl, hB1⟩
                          · have e32 : (ty == 32) = false := by simpa using h32
                            by_cases h34 : ty = 34
                            · subst h34
                              have HM := Lib.hid (show maySv 34 body = (true, true) by simp [maySv])
                              go_enter Try.func76, Try.ntmps76
                              go_wp2
                              go_ret2
                              exact ⟨by rw [HM.out] <;> rfl, hB1⟩
                            · have e34 : (ty == 34) = false := by simpa using h34
                              by_cases h27 : ty = 27
                              · subst h27
                                by_cases hq : 0 < nb_
                                · have HM := Lib.hid (show maySv 27 body = (true, true) by simp [maySv, hlb, hq])
                                  have hd0 : decide (0 < nb_) = true := decide_eq_true hq
                                  have hd1 : decide ((1 : Int) ≤ (nb_ : Int)) = true := decide_eq_true (by omega)
                                  clear hq
                                  go_enter Try.func76, Try.ntmps76
                                  go_wp2
                                  go_ret2
                                  exact ⟨by rw [HM.out] <;> rfl, hB1⟩
                                · have HM := Lib.hid (show maySv 27 body = (true, false) by simp [maySv, hlb, hq])
                                  obtain rfl : nb_ = 0 := by omega
                                  go_enter Try.func76, Try.ntmps76
                                  go_wp2
                                  go_ret2
                                  exact ⟨by rw [HM.out] <;> rfl, hB1⟩
                              · have e27 : (ty == 27) = false := by simpa using h27
                                by_cases h29 : ty = 29
                                · subst h29
                                  by_cases hq : 0 < nb_
                                  · have HM := Lib.hid (show maySv 29 body = (true, true) by simp [maySv, hlb, hq])
                                    have hd0 : decide (0 < nb_) = true := decide_eq_true hq
                                    have hd1 : decide ((1 : Int) ≤ (nb_ : Int)) = true := decide_eq_true (by omega)
                                    clear hq
                                    go_enter Try.func76, Try.ntmps76
                                    go_wp2
                                    go_ret2
                                    exact ⟨by rw [HM.out] <;> rfl, hB1⟩
                                  · have HM := Lib.hid (show maySv 29 body = (true, false) by simp [maySv, hlb, hq])
                                    obtain rfl : nb_ = 0 := by omega
                                    go_enter Try.func76, Try.ntmps76
                                    go_wp2
                                    go_ret2
                                    exact ⟨by rw [HM.out] <;> rfl, hB1⟩
                                · have e29 : (ty == 29) = false := by simpa using h29
                                  by_cases h16 : ty = 16
                                  · subst h16
                                    by_cases hq : nb_ = 8
                                    · have HM := Lib.hid (show maySv 16 body = (true, true) by simp [maySv, hlb, hq])
                                      subst hq
                                      go_enter Try.func76, Try.ntmps76
                                      go_wp2
                                      go_ret2
                                      exact ⟨by rw [HM.out] <;> rfl, hB1⟩
                                    · have HM := Lib.hid (show maySv 16 body = (true, false) by simp [maySv, hlb, hq])
                                      have he : ((nb_ : Int) == 8) = false := by rw [beq_eq_false_iff_ne]; omega
                                      clear hq
                                      go_enter Try.func76, Try.ntmps76
                                      go_wp2
                                      go_ret2
                                      exact ⟨by rw [HM.out] <;> rfl, hB1⟩
                                  · have e16 : (ty == 16) = false := by simpa using h16
                                    by_cases h20 : ty = 20
                                    · subst h20
                                      by_cases hq : 8 ≤ nb_
                                      · have HM := Lib.hid (show maySv 20 body = (true, true) by simp [maySv, hlb, hq])
                                        have hd8 : decide ((8 : Int) ≤ (nb_ : Int)) = true := decide_eq_true (by omega)
                                        clear hq
                                        go_enter Try.func76, Try.ntmps76
                                        go_wp2
                                        go_ret2
                                        exact ⟨by rw [HM.out] <;> rfl, hB1⟩
                                      · have HM := Lib.hid (show maySv 20 body = (true, false) by simp [maySv, hlb, hq])
                                        have hd8 : decide ((8 : Int) ≤ (nb_ : Int)) = false := decide_eq_false (by omega)
                                        clear hq
                                        go_enter Try.func76, Try.ntmps76
                                        go_wp2
                                        go_ret2
                                        exact ⟨by rw [HM.out] <;> rfl, hB1⟩
                                    · have e20 : (ty == 20) = false := by simpa using h20
                                      by_cases h33 : ty = 33
                                      · subst h33
                                        have HM := Lib.hid (show maySv 33 body = (true, printS body) by simp [maySv])
                                        have HI := Lib.hid (isPrint_calls hb)
                                        go_enter Try.func76, Try.ntmps76
                                        go_wp2_with (go_at_call 92; refine HI.out.mono ?_; rintro e w2 ⟨rfl, rfl⟩)
                                        go_ret2
                                        exact ⟨by rw [HM.out] <;> rfl, hB1⟩
                                      · have e33 : (ty == 33) = false := by simpa using h33
                                        have HM := Lib.hid (show maySv ty body = (false, true) by simp [maySv, h2, h3, h9, h4, h7, h25, h5, h11, h21, h22, h23, h30, h32, h34, h27, h29, h16, h20, h33])
                                        clear h2 h3 h9 h4 h7 h25 h5 h11 h21 h22 h23 h30 h32 h34 h27 h29 h16 h20 h33
                                        go_enter Try.func76, Try.ntmps76
                                        go_wp2
                                        go_ret2
                                        exact ⟨by rw [HM.out] <;> rfl, hB1⟩

set_option maxRecDepth 100000 in
set_option maxHeartbeats 6400000 in
theorem rmaySub_calls (ty : Int) (cr : Bool) {Ab : Option Addr} {nb_ cb : Nat} {body : List UInt8} {w : World} (hb : Bs w Ab nb_ cb body) :
    Calls Try.prog 78 #[.agg #[.int .i64 ty, .bool cr, .slice Ab nb_ cb]] w fun e w' => e = .returned (.tuple #[.bool (maySv ty body).1, .bool (maySv ty body).2]) ∧ Below w.heap.size w w' := by
  have hnew := heap_alloc_new w (.cells #[.int .i64 ty, .bool cr, .slice Ab nb_ cb] 70)
  have hB1 := (Below.refl w.heap.size w).alloc (Nat.le_refl _) (.cells #[.int .i64 ty, .bool cr, .slice Ab nb_ cb] 70)
  have hb := hb.below hB1
  generalize hw1 : w.alloc (.cells #[.int .i64 ty, .bool cr, .slice Ab nb_ cb] 70) = w1 at hnew hB1 hb
  have c0 := blk_cell hnew 0
  have c1 := blk_cell hnew 1
  have c2 := blk_cell hnew 2
  clear hnew
  have hlb := hb.2
  by_cases h2 : ty = 2
  · subst h2
    by_cases hq : nb_ = 4
    · have HM := Lib.hid (show maySv 2 body = (true, true) by simp [maySv, hlb, hq])
      subst hq
      go_enter Try.func78, Try.ntmps78
      go_wp2
      go_ret2
      exact ⟨by rw [HM.out] <;> rfl, hB1⟩
    · have HM := Lib.hid (show maySv 2 body = (true, false) by simp [maySv, hlb, hq])
      have he : ((nb_ : Int) == 4) = false := by rw [beq_eq_false_iff_ne]; omega
      clear hq
      go_enter Try.func78, Try.ntmps78
      go_wp2
      go_ret2
      exact ⟨by rw [HM.out] <;> rfl, hB1⟩
  · have e2 : (ty == 2) = false := by simpa using h2
    by_cases h3 : ty = 3
    · subst h3
      by_cases hq : nb_ = 4
      · have HM := Lib.hid (show maySv 3 body = (true, true) by simp [maySv, hlb, hq])
        subst hq
        go_enter Try.func78, Try.ntmps78
        go_wp2
        go_ret2
        exact ⟨by rw [HM.out] <;> rfl, hB1⟩
      · have HM := Lib.hid (show maySv 3 body = (true, false) by simp [maySv, hlb, hq])
        have he : ((nb_ : Int) == 4) = false := by rw [beq_eq_false_iff_ne]; omega
        clear hq
        go_enter Try.func78, Try.ntmps78
        go_wp2
        go_ret2
        exact ⟨by rw [HM.out] <;> rfl, hB1⟩
    · have e3 : (ty == 3) = false := by simpa using h3
      by_cases h9 : ty = 9
      · subst h9
        by_cases hq : nb_ = 4
        · have HM := Lib.hid (show maySv 9 body = (true, true) by simp [maySv, hlb, hq])
          subst hq
          go_enter Try.func78, Try.ntmps78
          go_wp2
          go_ret2
          exact ⟨by rw [HM.out] <;> rfl, hB1⟩
        · have HM := Lib.hid (show maySv 9 body = (true, false) by simp [maySv, hlb, hq])
          have he : ((nb_ : Int) == 4) = false := by rw [beq_eq_false_iff_ne]; omega
          clear hq
          go_enter Try.func78, Try.ntmps78
          go_wp2
          go_ret2
          exact ⟨by rw [HM.out] <;> rfl, hB1⟩
      · have e9 : (ty == 9) = false := by simpa using h9
        by_cases h4 : ty = 4
        · subst h4
          by_cases hq : nb_ = 1
          · subst hq
            obtain ⟨x, rfl⟩ : ∃ x, body = [x] := by
              match body, hlb with
              | [x], _ => exact ⟨x, rfl⟩
            obtain ⟨b0, o0, hA, hbl, hc⟩ := hb.byte (k := 0) (by simp)
            simp only [List.getElem_cons_zero, Nat.add_zero] at hc
            subst hA
            by_cases hx : x.toNat ≤ 1
            · have HM := Lib.hid (show maySv 4 [x] = (true, true) by simp [maySv, hx])
              have hi : decide ((x.toNat : Int) ≤ 1) = true := decide_eq_true (by omega)
              generalize x.toNat = v at hc hi hx
              clear hx
              go_enter Try.func78, Try.ntmps78
              go_wp2
              go_quiet (fail)
              go_wp2
              go_ret2
              exact ⟨by rw [HM.out] <;> rfl, below_drewN hB1 _⟩
            · have HM := Lib.hid (show maySv 4 [x] = (true, false) by simp [maySv, hx])
              have hi : decide ((x.toNat : Int) ≤ 1) = false := decide_eq_false (by omega)
              generalize x.toNat = v at hc hi hx
              clear hx
              go_enter Try.func78, Try.ntmps78
              go_wp2
              go_quiet (fail)
              go_wp2
              go_ret2
              exact ⟨by rw [HM.out] <;> rfl, below_drewN hB1 _⟩
          · have HM := Lib.hid (show maySv 4 body = (true, false) by
              match body, hlb with
              | [], _ => rfl
              | [x], e => exact absurd e.symm hq
              | x :: y :: r, _ => rfl)
            have he : ((nb_ : Int) == 1) = false := by rw [beq_eq_false_iff_ne]; omega
            clear hq
            go_enter Try.func78, Try.ntmps78
            go_wp2
            go_quiet (fail)
            go_wp2
            go_ret2
            exact ⟨by rw [HM.out] <;> rfl, below_drewN hB1 _⟩
        · have e4 : (ty == 4) = false := by simpa using h4
          by_cases h7 : ty = 7
          · subst h7
            by_cases hq : nb_ = 1
            · subst hq
              obtain ⟨x, rfl⟩ : ∃ x, body = [x] := by
                match body, hlb with
                | [x], _ => exact ⟨x, rfl⟩
              obtain ⟨b0, o0, hA, hbl, hc⟩ := hb.byte (k := 0) (by simp)
              simp only [List.getElem_cons_zero, Nat.add_zero] at hc
              subst hA
              by_cases hx : x.toNat ≤ 1
              · have HM := Lib.hid (show maySv 7 [x] = (true, true) by simp [maySv, hx])
                have hi : decide ((x.toNat : Int) ≤ 1) = true := decide_eq_true (by omega)
                generalize x.toNat = v at hc hi hx
                clear hx
                go_enter Try.func78, Try.ntmps78
                go_wp2
                go_quiet (fail)
                go_wp2
                go_ret2
                exact ⟨by rw [HM.out] <;> rfl, below_drewN hB1 _⟩
              · have HM := Lib.hid (show maySv 7 [x] = (true, false) by simp [maySv, hx])
                have hi : decide ((x.toNat : Int) ≤ 1) = false := decide_eq_false (by omega)
                generalize x.toNat = v at hc hi hx
                clear hx
                go_enter Try.func78, Try.ntmps78
                go_wp2
                go_quiet (fail)
                go_wp2
                go_ret2
                exact ⟨by rw [HM.out] <;> rfl, below_drewN hB1 _⟩
            · have HM := Lib.hid (show maySv 7 body = (true, false) by
                match body, hlb with
                | [], _ => rfl
                | [x], e => exact absurd e.symm hq
                | x :: y :: r, _ => rfl)
              have he : ((nb_ : Int) == 1) = false := by rw [beq_eq_false_iff_ne]; omega
              clear hq
              go_enter Try.func78, Try.ntmps78
              go_wp2
              go_quiet (fail)
              go_wp2
              go_ret2
              exact ⟨by rw [HM.out] <;> rfl, below_drewN hB1 _⟩
          · have e7 : (ty == 7) = false := by simpa using h7
            by_cases h25 : ty = 25
            · subst h25
              by_cases hq : nb_ = 1
              · subst hq
                obtain ⟨x, rfl⟩ : ∃ x, body = [x] := by
                  match body, hlb with
                  | [x], _ => exact ⟨x, rfl⟩
                obtain ⟨b0, o0, hA, hbl, hc⟩ := hb.byte (k := 0) (by simp)
                simp only [List.getElem_cons_zero, Nat.add_zero] at hc
                subst hA
                by_cases hx : x.toNat ≤ 1
                · have HM := Lib.hid (show maySv 25 [x] = (true, true) by simp [maySv, hx])
                  have hi : decide ((x.toNat : Int) ≤ 1) = true := decide_eq_true (by omega)
                  generalize x.toNat = v at hc hi hx
                  clear hx
                  go_enter Try.func78, Try.ntmps78
                  go_wp2
                  go_quiet (fail)
                  go_wp2
                  go_ret2
                  exact ⟨by rw [HM.out] <;> rfl, below_drewN hB1 _⟩
                · have HM := Lib.hid (show maySv 25 [x] = (true, false) by simp [maySv, hx])
                  have hi : decide ((x.toNat : Int) ≤ 1) = false := decide_eq_false (by omega)
                  generalize x.toNat = v at hc hi hx
                  clear hx
                  go_enter Try.func78, Try.ntmps78
                  go_wp2
                  go_quiet (fail)
                  go_wp2
                  go_ret2
                  exact ⟨by rw [HM.out] <;> rfl, below_drewN hB1 _⟩
              · have HM := Lib.hid (show maySv 25 body = (true, false) by
                  match body, hlb with
                  | [], _ => rfl
                  | [x], e => exact absurd e.symm hq
                  | x :: y :: r, _ => rfl)
                have he : ((nb_ : Int) == 1) = false := by rw [beq_eq_false_iff_ne]; omega
                clear hq
                go_enter Try.func78, Try.ntmps78
                go_wp2
                go_quiet (fail)
                go_wp2
                go_ret2
                exact ⟨by rw [HM.out] <;> rfl, below_drewN hB1 _⟩
            · have e25 : (ty == 25) = false := by simpa using h25
              by_cases h5 : ty = 5
              · subst h5
                by_cases hq : nb_ = 2
                · have HM := Lib.hid (show maySv 5 body = (true, true) by simp [maySv, hlb, hq])
                  subst hq
                  go_enter Try.func78, Try.ntmps78
                  go_wp2
                  go_ret2
                  exact ⟨by rw [HM.out] <;> rfl, hB1⟩
                · have HM := Lib.hid (show maySv 5 body = (true, false) by simp [maySv, hlb, hq])
                  have he : ((nb_ : Int) == 2) = false := by rw [beq_eq_false_iff_ne]; omega
                  clear hq
                  go_enter Try.func78, Try.ntmps78
                  go_wp2
                  go_ret2
                  exact ⟨by rw [HM.out] <;> rfl, hB1⟩
              · have e5 : (ty == 5) = false := by simpa using h5
                by_cases h11 : ty = 11
                · subst h11
                  have HM := Lib.hid (show maySv 11 body = (true, true) by simp [maySv])
                  go_enter Try.func78, Try.ntmps78
                  go_wp2
                  go_ret2
                  exact ⟨by rw [HM.out] <;> rfl, hB1⟩
                · have e11 : (ty == 11) = false := by simpa using h11
                  by_cases h21 : ty = 21
                  · subst h21
                    have HM := Lib.hid (show maySv 21 body = (true, true) by simp [maySv])
                    go_enter Try.func78, Try.ntmps78
                    go_wp2
                    go_ret2
                    exact ⟨by rw [HM.out] <;> rfl, hB1⟩
                  · have e21 : (ty == 21) = false := by simpa using h21
                    by_cases h22 : ty = 22
                    · subst h22
                      have HM := Lib.hid (show maySv 22 body = (true, true) by simp [maySv])
                      go_enter Try.func78, Try.ntmps78
                      go_wp2
                      go_ret2
                      exact ⟨by rw [HM.out] <;> rfl, hB1⟩
                    · have e22 : (ty == 22) = false := by simpa using h22
                      by_cases h23 : ty = 23
                      · subst h23
                        have HM := Lib.hid (show maySv 23 body = (true, true) by simp [maySv])
                        go_enter Try.func78, Try.ntmps78
                        go_wp2
                        go_ret2
                        exact ⟨by rw [HM.out] <;> rfl, hB1⟩
                      · have e23 : (ty == 23) = false := by simpa using h23
                        by_cases h30 : ty = 30
                        · subst h30
                          have HM := Lib.hid (show maySv 30 body = (true, true) by simp [maySv])
                          go_enter Try.func78, Try.ntmps78
                          go_wp2
                          go_ret2
                          exact ⟨by rw [HM.out] <;> rfl, hB1⟩
                        · have e30 : (ty == 30) = false := by simpa using h30
                          by_cases h32 : ty = 32
                          · subst h32
                            have HM := Lib.hid (show maySv 32 body = (true, true) by simp [maySv])
                            go_enter Try.func78, Try.ntmps78
                            go_wp2
                            go_ret2
                            exact ⟨by rw [HM.out] <;> rfl, hB1⟩
                          · have e32 : (ty == 32) = false := by simpa using h32
                            by_cases h34 : ty = 34
                            · subst h34
                              have HM := Lib.hid (show maySv 34 body = (true, true) by simp [maySv])
                              go_enter Try.func78, Try.ntmps78
                              go_wp2
                              go_ret2
                              exact ⟨by rw [HM.out] <;> rfl, hB1⟩
                            · have e34 : (ty == 34) = false := by simpa using h34
                              by_cases h27 : ty = 27
                              · subst h27
                                by_cases hq : 0 < nb_
                                · have HM := Lib.hid (show maySv 27 body = (true, true) by simp [maySv, hlb, hq])
                                  have hd0 : decide (0 < nb_) = true := decide_eq_true hq
                                  have hd1 : decide ((1 : Int) ≤ (nb_ : Int)) = true := decide_eq_true (by omega)
                                  clear hq
                                  go_enter Try.func78, Try.ntmps78
                                  go_wp2
                                  go_ret2
                                  exact ⟨by rw [HM.out] <;> rfl, hB1⟩
                                · have HM := Lib.hid (show maySv 27 body = (true, false) by simp [maySv, hlb, hq])
                                  obtain rfl : nb_ = 0 := by omega
                                  go_enter Try.func78, Try.ntmps78
                                  go_wp2
                                  go_ret2
                                  exact ⟨by rw [HM.out] <;> rfl, hB1⟩
                              · have e27 : (ty == 27) = false := by simpa using h27
                                by_cases h29 : ty = 29
                                · subst h29
                                  by_cases hq : 0 < nb_
                                  · have HM := Lib.hid (show maySv 29 body = (true, true) by simp [maySv, hlb, hq])
                                    have hd0 : decide (0 < nb_) = true := decide_eq_true hq
                                    have hd1 : decide ((1 : Int) ≤ (nb_ : Int)) = true := decide_eq_true (by omega)
                                    clear hq
                                    go_enter Try.func78, Try.ntmps78
                                    go_wp2
                                    go_ret2
                                    exact ⟨by rw [HM.out] <;> rfl, hB1⟩
                                  · have HM := Lib.hid (show maySv 29 body = (true, false) by simp [maySv, hlb, hq])
                                    obtain rfl : nb_ = 0 := by omega
                                    go_enter Try.func78, Try.ntmps78
                                    go_wp2
                                    go_ret2
                                    exact ⟨by rw [HM.out] <;> rfl, hB1⟩
                                · have e29 : (ty == 29) = false := by simpa using h29
                                  by_cases h16 : ty = 16
                                  · subst h16
                                    by_cases hq : nb_ = 8
                                    · have HM := Lib.hid (show maySv 16 body = (true, true) by simp [maySv, hlb, hq])
                                      subst hq
                                      go_enter Try.func78, Try.ntmps78
                                      go_wp2
                                      go_ret2
                                      exact ⟨by rw [HM.out] <;> rfl, hB1⟩
                                    · have HM := Lib.hid (show maySv 16 body = (true, false) by simp [maySv, hlb, hq])
                                      have he : ((nb_ : Int) == 8) = false := by rw [beq_eq_false_iff_ne]; omega
                                      clear hq
                                      go_enter Try.func78, Try.ntmps78
                                      go_wp2
                                      go_ret2
                                      exact ⟨by rw [HM.out] <;> rfl, hB1⟩
                                  · have e16 : (ty == 16) = false := by simpa using h16
                                    by_cases h20 : ty = 20
                                    · subst h20
                                      by_cases hq : 8 ≤ nb_
                                      · have HM := Lib.hid (show maySv 20 body = (true, true) by simp [maySv, hlb, hq])
                                        have hd8 : decide ((8 : Int) ≤ (nb_ : Int)) = true := decide_eq_true (by omega)
                                        clear hq
                                        go_enter Try.func78, Try.ntmps78
                                        go_wp2
                                        go_ret2
                                        exact ⟨by rw [HM.out] <;> rfl, hB1⟩
                                      · have HM := Lib.hid (show maySv 20 body = (true, false) by simp [maySv, hlb, hq])
                                        have hd8 : decide ((8 : Int) ≤ (nb_ : Int)) = false := decide_eq_false (by omega)
                                        clear hq
                                        go_enter Try.func78, Try.ntmps78
                                        go_wp2
                                        go_ret2
                                        exact ⟨by rw [HM.out] <;> rfl, hB1⟩
                                    · have e20 : (ty == 20) = false := by simpa using h20
                                      by_cases h33 : ty = 33
                                      · subst h33
                                        have HM0 := Lib.hid (show maySv 33 body = (true, printS body) by simp [maySv])
                                        rw [HM0.out]
                                        cases body with
                                        | nil =>
                                          obtain rfl : 0 = nb_ := hb.2
                                          have HM := Lib.hid (show printS [] = false from rfl)
                                          go_enter Try.func78, Try.ntmps78
                                          go_wp2
                                          go_quiet (fail)
                                          go_wp2
                                          go_ret2
                                          exact ⟨by rw [HM.out] <;> rfl, below_drewN hB1 _⟩
                                        | cons x r =>
                                          obtain ⟨b0, o0, hA, hbl, hc⟩ := hb.byte (k := 0) (by simp)
                                          simp only [List.getElem_cons_zero, Nat.add_zero] at hc
                                          have hlen : r.length + 1 = nb_ := hb.2
                                          have hP : printS (x :: r) = ((decide (r.length = 20) && decide (x.toNat = 4)) || (decide (r.length = 32) && decide (x.toNat = 6))) := rfl
                                          subst hA
                                          generalize printS (x :: r) = q at hP ⊢
                                          generalize x.toNat = v at hc hP
                                          by_cases h20 : r.length = 20
                                          · obtain rfl : nb_ = 21 := by omega
                                            by_cases h4 : v = 4
                                            · subst h4
                                              have HM := Lib.hid (show q = true by rw [hP, h20]; rfl)
                                              clear hP
                                              go_enter Try.func78, Try.ntmps78
                                              go_wp2
                                              go_quiet (fail)
                                              go_wp2
                                              go_ret2
                                              exact ⟨by rw [HM.out] <;> rfl, below_drewN hB1 _⟩
                                            · have HM := Lib.hid (show q = false by rw [hP, h20]; simp [h4])
                                              have hv : ((v : Int) == 4) = false := by rw [beq_eq_false_iff_ne]; omega
                                              clear hP h4
                                              go_enter Try.func78, Try.ntmps78
                                              go_wp2
                                              go_quiet (fail)
                                              go_wp2
                                              go_ret2
                                              exact ⟨by rw [HM.out] <;> rfl, below_drewN hB1 _⟩
                                          · by_cases h32 : r.length = 32
                                            · obtain rfl : nb_ = 33 := by omega
                                              by_cases h6 : v = 6
                                              · subst h6
                                                have HM := Lib.hid (show q = true by rw [hP, h32]; rfl)
                                                clear hP
                                                go_enter Try.func78, Try.ntmps78
                                                go_wp2
                                                go_quiet (fail)
                                                go_wp2
                                                go_ret2
                                                exact ⟨by rw [HM.out] <;> rfl, below_drewN hB1 _⟩
                                              · have HM := Lib.hid (show q = false by rw [hP, h32]; simp [h6])
                                                have hv : ((v : Int) == 6) = false := by rw [beq_eq_false_iff_ne]; omega
                                                clear hP h6
                                                go_enter Try.func78, Try.ntmps78
                                                go_wp2
                                                go_quiet (fail)
                                                go_wp2
                                                go_ret2
                                                exact ⟨by rw [HM.out] <;> rfl, below_drewN hB1 _⟩
                                            · have HM := Lib.hid (show q = false by rw [hP]; simp [h20, h32])
                                              have e21 : ((nb_ : Int) == 21) = false := by rw [beq_eq_false_iff_ne]; omega
                                              have e33 : ((nb_ : Int) == 33) = false := by rw [beq_eq_false_iff_ne]; omega
                                              clear hP h20 h32
                                              go_enter Try.func78, Try.ntmps78
                                              go_wp2
                                              go_quiet (fail)
                                              go_wp2
                                              go_ret2
                                              exact ⟨by rw [HM.out] <;> rfl, below_drewN hB1 _⟩
                                      · have e33 : (ty == 33) = false := by simpa using h33
                                        have HM := Lib.hid (show maySv ty body = (false, true) by simp [maySv, h2, h3, h9, h4, h7, h25, h5, h11, h21, h22, h23, h30, h32, h34, h27, h29, h16, h20, h33])
                                        clear h2 h3 h9 h4 h7 h25 h5 h11 h21 h22 h23 h30 h32 h34 h27 h29 h16 h20 h33
                                        go_enter Try.func78, Try.ntmps78
                                        go_wp2
                                        go_ret2
                                        exact ⟨by rw [HM.out] <;> rfl, hB1⟩
end Go.Proofs.Ytjbnoamoadaknaa
end
