import Derived.Test.YtjbnoamoadaknaaYSigBack12
import Derived.Deep.RegionHeldLaw
/- subpkt.put. -/
section
namespace Go.Proofs.Ytjbnoamoadaknaa
open Go.RowKit

/-- A length's bytes. -/
def slenE (n : Nat) : List UInt8 := if n < 192 then [UInt8.ofNat n] else if n < 16320 then [UInt8.ofNat ((n - 192) / 256 + 192), UInt8.ofNat (n - 192)] else 255 :: be 4 n
def tyB (s : SubV) : UInt8 := UInt8.ofNat (s.1.toNat + if s.2.1 then 128 else 0)
/-- A subpacket's bytes. -/
def subBytes (s : SubV) : List UInt8 := slenE (s.2.2.length + 1) ++ tyB s :: s.2.2
theorem slenE_len (n : Nat) : (slenE n).length ≤ 5 := by
  unfold slenE
  split
  · simp
  · split
    · simp
    · simp [be_length]
theorem or_tab : ∀ n : Fin 128, bits BinOp.or IntKind.u8 ((n.val : Nat) : Int) 128 = ((n.val + 128 : Nat) : Int) := by decide +kernel
theorem bvs1 (x : Int) (n : Nat) (h : x = ((n % 256 : Nat) : Int)) : #[Value.int IntKind.u8 x].toList = bvs [UInt8.ofNat n] := by
  rw [h]; simp [bvs, bv]
theorem bvs2 (x y : Int) (n m : Nat) (h : x = ((n % 256 : Nat) : Int)) (h2 : y = ((m % 256 : Nat) : Int)) : #[Value.int IntKind.u8 x, Value.int IntKind.u8 y].toList = bvs [UInt8.ofNat n, UInt8.ofNat m] := by
  rw [h, h2]; simp [bvs, bv]

theorem getset_ (l : List Value) (d : Nat) (v r u : Value) (h : 4 < l.length) : Ending.returned (((l.set d r).set 4 v).toArray.getD 4 u) = Ending.returned v := by
  simp [Array.getD, h]

set_option maxRecDepth 100000 in
set_option maxHeartbeats 3200000 in
theorem put_calls {w0 w : World} (hB : Below w0.heap.size w0 w) (hB0 : w0.heap.size ≤ w.heap.size) {A : Option Addr} {n c : Nat} {l : List UInt8} (hown : Own w w0.heap.size A n c l) (hn : n ≤ 100000000) {t : Nat} (ht7 : t ≤ 127) {cr : Bool} {Ab : Option Addr} {nb_ cb : Nat} {body : List UInt8} (hb : Bs w0 Ab nb_ cb body) (hnb : nb_ ≤ 100000) :
    Calls Try.prog 81 #[.slice A n c, .agg #[.int .i64 (t : Int), .bool cr, .slice Ab nb_ cb]] w fun e w' => ∃ A' m' c', e = .returned (.slice A' m' c') ∧ Own w' w0.heap.size A' m' c' (l ++ subBytes ((t : Int), cr, body)) ∧ Below w0.heap.size w0 w' := by
  have hblen := hb.2
  have hnew := heap_alloc_new w (.cells #[.int .i64 (t : Int), .bool cr, .slice Ab nb_ cb] 70)
  have hB1 := hB.alloc hB0 (.cells #[.int .i64 (t : Int), .bool cr, .slice Ab nb_ cb] 70)
  have hown1 := hown.alloc_ (.cells #[.int .i64 (t : Int), .bool cr, .slice Ab nb_ cb] 70)
  have hA : ∀ k, A.map (·.block) = some k → w0.heap.size ≤ k ∧ k < w.heap.size := fun k e => by
    cases A with
    | none => cases e
    | some ad => have e' : ad.block = k := by injection e
                 have := hown.blk ad rfl; omega
  obtain ⟨m, hm⟩ : ∃ m, m = nb_ + 1 := ⟨_, rfl⟩
  have hS : l ++ subBytes ((t : Int), cr, body) = l ++ slenE m ++ tyB ((t : Int), cr, body) :: body := by
    rw [subBytes, hm, ← hblen, List.append_assoc]
  have hm1 : (nb_ : Int) + 1 = (m : Int) := by omega
  have hm2 : m ≤ 100001 := by omega
  have HM := Lib.hid hm
  have HS := Lib.hid hS
  have HB := Lib.hid hblen
  have HN := Lib.hid hnb
  have HM2 := Lib.hid hm2
  clear hm hS hblen hm2
  generalize hw1 : w.alloc (.cells #[.int .i64 (t : Int), .bool cr, .slice Ab nb_ cb] 70) = w1 at hnew hB1 hown1
  have HW1 := Lib.hid (show w1.heap.size = w.heap.size + 1 by rw [← hw1]; simp)
  have hg1 : w0.heap.size ≤ w1.heap.size := hB1.size
  have c0 := blk_cell hnew 0
  have c1 := blk_cell hnew 1
  have c2 := blk_cell hnew 2
  by_cases h192 : m < 192
  · have HE := Lib.hid (show slenE m = [UInt8.ofNat m] by rw [slenE, if_pos h192])
    go_enter Try.func81, Try.ntmps81
    cases cr with
    | false =>
      go_wp2_with (at_builtin; refine app8_one (.tmp 23) (.tmp 26) rfl rfl rfl hown1 [UInt8.ofNat m] _ (bvs1 _ m (by omega)) 1 rfl rfl (by omega) hg1 ?_; intro A2 c2' w2 ho2 hg2 hat2; have HN2 := Lib.hid ((hg2.block w.heap.size (by rw [HW1.out]; omega) (fun e => by have := hA _ e.symm; omega)).trans hnew); have d0 := blk_cell HN2.out 0; have d1 := blk_cell HN2.out 1; have d2 := blk_cell HN2.out 2; have hB2 : Below w0.heap.size w0 w2 := hB1.grown hg2 hg1 (fun i e => (hA i e).1); have hA2 : ∀ k, A2.map (·.block) = some k → k ≠ w.heap.size := (fun k e => by
                cases A2 with
                | none => cases e
                | some ad =>
                  have e' : ad.block = k := by injection e
                  rcases hat2 ad rfl with h | h
                  · have := hA _ h; omega
                  · have := HW1.out; omega))
      have hu8 : ((t : Nat) : Int) = (((t) % 256 : Nat) : Int) := by omega
      have hbD : Below w0.heap.size w0 (w2.alloc (.cells #[.int .u8 ((t : Nat) : Int)] 5)).drew := (hB2.alloc hB2.size _).drew
      have hownD : Own (w2.alloc (.cells #[.int .u8 ((t : Nat) : Int)] 5)).drew w0.heap.size A2 _ c2' _ := Own.alloc_ (w := w2) ho2 _
      have hlit2 : Own (w2.alloc (.cells #[.int .u8 ((t : Nat) : Int)] 5)).drew w2.heap.size (some ⟨w2.heap.size, 0, none⟩) 1 1 [UInt8.ofNat (t)] := own_lit w2 _ [UInt8.ofNat (t)] (bvs1 _ _ hu8) 1 rfl (by omega)
      have hblt : w.heap.size < w2.heap.size := blk_lt HN2.out
      have hnD : (w2.alloc (.cells #[.int .u8 ((t : Nat) : Int)] 5)).drew.heap[w.heap.size]? = some (.cells #[.int .i64 (t : Int), .bool false, .slice Ab nb_ cb] 70 (0, 0)) := (((Below.refl w2.heap.size w2).alloc (Nat.le_refl _) (.cells #[.int .u8 ((t : Nat) : Int)] 5)).block w.heap.size hblt).trans HN2.out
      have k0 : w2.drew.cell? ⟨w.heap.size, 2, none⟩ = some (.slice Ab nb_ cb) := blk_cell (w := w2) HN2.out 2
      have k1 : (w2.alloc (.cells #[.int .u8 ((t : Nat) : Int)] 5)).drew.cell? ⟨w.heap.size, 2, none⟩ = some (.slice Ab nb_ cb) := blk_cell hnD 2
      have HND := Lib.hid hnD
      clear hu8 d0 d1 d2 c0 c1 c2 hnD
      go_region_held_law (fun w' => w'.cell? ⟨w.heap.size, 2, none⟩ = some (.slice Ab nb_ cb)) (first | exact k0 | exact k1 | exact K3.out | exact K4.out) ((first
        | (refine step_app8 (.tmp 49) (.tmp 51) (by rfl) (by rfl) (by rfl) hownD (by rfl) hlit2.bs (by omega) hbD.size ?_; intro A3 c3 w3 hown3 hg3 hat3; have hb3 : Below w0.heap.size w0 w3 := hbD.grown hg3 hbD.size (fun i e => by
            cases A2 with
            | none => cases e
            | some ad => cases e; exact (ho2.blk _ rfl).1); have HN3 := Lib.hid ((hg3.block w.heap.size (blk_lt HND.out) (fun e => hA2 _ e.symm rfl)).trans HND.out); have K3 := Lib.hid (show w3.cell? ⟨w.heap.size, 2, none⟩ = some (.slice Ab nb_ cb) from blk_cell HN3.out 2); have hA3 : ∀ k, A3.map (·.block) = some k → k ≠ w.heap.size := (fun k e => by
            cases A3 with
            | none => cases e
            | some ad =>
              have e' : ad.block = k := by injection e
              rcases hat3 ad rfl with h | h
              · exact hA2 _ (h.trans (congrArg some e'))
              · have : w2.heap.size < (w2.alloc (.cells #[.int .u8 ((t : Nat) : Int)] 5)).drew.heap.size := by simp
                omega))
        | (refine step_app8 (.tmp 52) (.tmp 54) (by rfl) (by rfl) (by rfl) hown3 (by rfl) (hb.below hb3) (by omega) hb3.size ?_; intro A4 c4 w4 hown4 hg4 hat4; have hb4 : Below w0.heap.size w0 w4 := hb3.grown hg4 hb3.size (fun i e => by
            cases A3 with
            | none => cases e
            | some ad => cases e; exact (hown3.blk _ rfl).1); have K4 := Lib.hid (show w4.cell? ⟨w.heap.size, 2, none⟩ = some (.slice Ab nb_ cb) from blk_cell ((hg4.block w.heap.size (blk_lt HN3.out) (fun e => hA3 _ e.symm rfl)).trans HN3.out) 2))))
      all_goals
        go_wp2
        go_ret
        exact ⟨_, _, _, getset_ _ _ _ _ _ (by simp), by rw [HS.out, HE.out]; simpa [tyB] using hown4, hb4⟩
    | true =>
      obtain ⟨v, hv⟩ : ∃ v, v = t + 128 := ⟨_, rfl⟩
      have hor : bits BinOp.or IntKind.u8 (t : Int) 128 = (v : Int) := by rw [hv]; exact or_tab ⟨t, by omega⟩
      have hv256 : v < 256 := by omega
      have HV := Lib.hid hv
      clear hv
      go_wp2_with (at_builtin; refine app8_one (.tmp 23) (.tmp 26) rfl rfl rfl hown1 [UInt8.ofNat m] _ (bvs1 _ m (by omega)) 1 rfl rfl (by omega) hg1 ?_; intro A2 c2' w2 ho2 hg2 hat2; have HN2 := Lib.hid ((hg2.block w.heap.size (by rw [HW1.out]; omega) (fun e => by have := hA _ e.symm; omega)).trans hnew); have d0 := blk_cell HN2.out 0; have d1 := blk_cell HN2.out 1; have d2 := blk_cell HN2.out 2; have hB2 : Below w0.heap.size w0 w2 := hB1.grown hg2 hg1 (fun i e => (hA i e).1); have hA2 : ∀ k, A2.map (·.block) = some k → k ≠ w.heap.size := (fun k e => by
                cases A2 with
                | none => cases e
                | some ad =>
                  have e' : ad.block = k := by injection e
                  rcases hat2 ad rfl with h | h
                  · have := hA _ h; omega
                  · have := HW1.out; omega))
      have hu8 : ((v : Nat) : Int) = (((v) % 256 : Nat) : Int) := by omega
      have hbD : Below w0.heap.size w0 (w2.alloc (.cells #[.int .u8 ((v : Nat) : Int)] 5)).drew := (hB2.alloc hB2.size _).drew
      have hownD : Own (w2.alloc (.cells #[.int .u8 ((v : Nat) : Int)] 5)).drew w0.heap.size A2 _ c2' _ := Own.alloc_ (w := w2) ho2 _
      have hlit2 : Own (w2.alloc (.cells #[.int .u8 ((v : Nat) : Int)] 5)).drew w2.heap.size (some ⟨w2.heap.size, 0, none⟩) 1 1 [UInt8.ofNat (v)] := own_lit w2 _ [UInt8.ofNat (v)] (bvs1 _ _ hu8) 1 rfl (by omega)
      have hblt : w.heap.size < w2.heap.size := blk_lt HN2.out
      have hnD : (w2.alloc (.cells #[.int .u8 ((v : Nat) : Int)] 5)).drew.heap[w.heap.size]? = some (.cells #[.int .i64 (t : Int), .bool true, .slice Ab nb_ cb] 70 (0, 0)) := (((Below.refl w2.heap.size w2).alloc (Nat.le_refl _) (.cells #[.int .u8 ((v : Nat) : Int)] 5)).block w.heap.size hblt).trans HN2.out
      have k0 : w2.drew.cell? ⟨w.heap.size, 2, none⟩ = some (.slice Ab nb_ cb) := blk_cell (w := w2) HN2.out 2
      have k1 : (w2.alloc (.cells #[.int .u8 ((v : Nat) : Int)] 5)).drew.cell? ⟨w.heap.size, 2, none⟩ = some (.slice Ab nb_ cb) := blk_cell hnD 2
      have HND := Lib.hid hnD
      clear hu8 d0 d1 d2 c0 c1 c2 hnD
      go_region_held_law (fun w' => w'.cell? ⟨w.heap.size, 2, none⟩ = some (.slice Ab nb_ cb)) (first | exact k0 | exact k1 | exact K3.out | exact K4.out) ((first
        | (refine step_app8 (.tmp 49) (.tmp 51) (by rfl) (by rfl) (by rfl) hownD (by rfl) hlit2.bs (by omega) hbD.size ?_; intro A3 c3 w3 hown3 hg3 hat3; have hb3 : Below w0.heap.size w0 w3 := hbD.grown hg3 hbD.size (fun i e => by
            cases A2 with
            | none => cases e
            | some ad => cases e; exact (ho2.blk _ rfl).1); have HN3 := Lib.hid ((hg3.block w.heap.size (blk_lt HND.out) (fun e => hA2 _ e.symm rfl)).trans HND.out); have K3 := Lib.hid (show w3.cell? ⟨w.heap.size, 2, none⟩ = some (.slice Ab nb_ cb) from blk_cell HN3.out 2); have hA3 : ∀ k, A3.map (·.block) = some k → k ≠ w.heap.size := (fun k e => by
            cases A3 with
            | none => cases e
            | some ad =>
              have e' : ad.block = k := by injection e
              rcases hat3 ad rfl with h | h
              · exact hA2 _ (h.trans (congrArg some e'))
              · have : w2.heap.size < (w2.alloc (.cells #[.int .u8 ((v : Nat) : Int)] 5)).drew.heap.size := by simp
                omega))
        | (refine step_app8 (.tmp 52) (.tmp 54) (by rfl) (by rfl) (by rfl) hown3 (by rfl) (hb.below hb3) (by omega) hb3.size ?_; intro A4 c4 w4 hown4 hg4 hat4; have hb4 : Below w0.heap.size w0 w4 := hb3.grown hg4 hb3.size (fun i e => by
            cases A3 with
            | none => cases e
            | some ad => cases e; exact (hown3.blk _ rfl).1); have K4 := Lib.hid (show w4.cell? ⟨w.heap.size, 2, none⟩ = some (.slice Ab nb_ cb) from blk_cell ((hg4.block w.heap.size (blk_lt HN3.out) (fun e => hA3 _ e.symm rfl)).trans HN3.out) 2))))
      all_goals
        go_wp2
        go_ret
        exact ⟨_, _, _, getset_ _ _ _ _ _ (by simp), by rw [HS.out, HE.out]; simpa [tyB, HV.out] using hown4, hb4⟩
  · by_cases h163 : m < 16320
    · have HE := Lib.hid (show slenE m = [UInt8.ofNat ((m - 192) / 256 + 192), UInt8.ofNat (m - 192)] by rw [slenE, if_neg h192, if_pos h163])
      have hd : decide ((m : Int) < 16320) = true := decide_eq_true (by omega)
      obtain ⟨k, hk⟩ : ∃ k, k = m - 192 := ⟨_, rfl⟩
      have hk1 : (m : Int) - 192 = (k : Int) := by omega
      rw [← hk] at HE
      have HK := Lib.hid hk
      have HKB := Lib.hid (show k < 16128 by omega)
      clear hk h163
      go_enter Try.func81, Try.ntmps81
      cases cr with
      | false =>
        go_wp2_with (at_builtin; refine app8_one (.tmp 33) (.tmp 40) rfl rfl rfl hown1 [UInt8.ofNat (k / 256 + 192), UInt8.ofNat k] _ (bvs2 _ _ (k / 256 + 192) k (by go_num) (by go_num)) 2 rfl rfl (by omega) hg1 ?_; intro A2 c2' w2 ho2 hg2 hat2; have HN2 := Lib.hid ((hg2.block w.heap.size (by rw [HW1.out]; omega) (fun e => by have := hA _ e.symm; omega)).trans hnew); have d0 := blk_cell HN2.out 0; have d1 := blk_cell HN2.out 1; have d2 := blk_cell HN2.out 2; have hB2 : Below w0.heap.size w0 w2 := hB1.grown hg2 hg1 (fun i e => (hA i e).1); have hA2 : ∀ k, A2.map (·.block) = some k → k ≠ w.heap.size := (fun k e => by
                  cases A2 with
                  | none => cases e
                  | some ad =>
                    have e' : ad.block = k := by injection e
                    rcases hat2 ad rfl with h | h
                    · have := hA _ h; omega
                    · have := HW1.out; omega))
        have hu8 : ((t : Nat) : Int) = (((t) % 256 : Nat) : Int) := by omega
        have hbD : Below w0.heap.size w0 (w2.alloc (.cells #[.int .u8 ((t : Nat) : Int)] 5)).drew := (hB2.alloc hB2.size _).drew
        have hownD : Own (w2.alloc (.cells #[.int .u8 ((t : Nat) : Int)] 5)).drew w0.heap.size A2 _ c2' _ := Own.alloc_ (w := w2) ho2 _
        have hlit2 : Own (w2.alloc (.cells #[.int .u8 ((t : Nat) : Int)] 5)).drew w2.heap.size (some ⟨w2.heap.size, 0, none⟩) 1 1 [UInt8.ofNat (t)] := own_lit w2 _ [UInt8.ofNat (t)] (bvs1 _ _ hu8) 1 rfl (by omega)
        have hblt : w.heap.size < w2.heap.size := blk_lt HN2.out
        have hnD : (w2.alloc (.cells #[.int .u8 ((t : Nat) : Int)] 5)).drew.heap[w.heap.size]? = some (.cells #[.int .i64 (t : Int), .bool false, .slice Ab nb_ cb] 70 (0, 0)) := (((Below.refl w2.heap.size w2).alloc (Nat.le_refl _) (.cells #[.int .u8 ((t : Nat) : Int)] 5)).block w.heap.size hblt).trans HN2.out
        have k0 : w2.drew.cell? ⟨w.heap.size, 2, none⟩ = some (.slice Ab nb_ cb) := blk_cell (w := w2) HN2.out 2
        have k1 : (w2.alloc (.cells #[.int .u8 ((t : Nat) : Int)] 5)).drew.cell? ⟨w.heap.size, 2, none⟩ = some (.slice Ab nb_ cb) := blk_cell hnD 2
        have HND := Lib.hid hnD
        clear hu8 d0 d1 d2 c0 c1 c2 hnD
        go_region_held_law (fun w' => w'.cell? ⟨w.heap.size, 2, none⟩ = some (.slice Ab nb_ cb)) (first | exact k0 | exact k1 | exact K3.out | exact K4.out) ((first
          | (refine step_app8 (.tmp 49) (.tmp 51) (by rfl) (by rfl) (by rfl) hownD (by rfl) hlit2.bs (by omega) hbD.size ?_; intro A3 c3 w3 hown3 hg3 hat3; have hb3 : Below w0.heap.size w0 w3 := hbD.grown hg3 hbD.size (fun i e => by
              cases A2 with
              | none => cases e
              | some ad => cases e; exact (ho2.blk _ rfl).1); have HN3 := Lib.hid ((hg3.block w.heap.size (blk_lt HND.out) (fun e => hA2 _ e.symm rfl)).trans HND.out); have K3 := Lib.hid (show w3.cell? ⟨w.heap.size, 2, none⟩ = some (.slice Ab nb_ cb) from blk_cell HN3.out 2); have hA3 : ∀ k, A3.map (·.block) = some k → k ≠ w.heap.size := (fun k e => by
              cases A3 with
              | none => cases e
              | some ad =>
                have e' : ad.block = k := by injection e
                rcases hat3 ad rfl with h | h
                · exact hA2 _ (h.trans (congrArg some e'))
                · have : w2.heap.size < (w2.alloc (.cells #[.int .u8 ((t : Nat) : Int)] 5)).drew.heap.size := by simp
                  omega))
          | (refine step_app8 (.tmp 52) (.tmp 54) (by rfl) (by rfl) (by rfl) hown3 (by rfl) (hb.below hb3) (by omega) hb3.size ?_; intro A4 c4 w4 hown4 hg4 hat4; have hb4 : Below w0.heap.size w0 w4 := hb3.grown hg4 hb3.size (fun i e => by
              cases A3 with
              | none => cases e
              | some ad => cases e; exact (hown3.blk _ rfl).1); have K4 := Lib.hid (show w4.cell? ⟨w.heap.size, 2, none⟩ = some (.slice Ab nb_ cb) from blk_cell ((hg4.block w.heap.size (blk_lt HN3.out) (fun e => hA3 _ e.symm rfl)).trans HN3.out) 2))))
        all_goals
          go_wp2
          go_ret
          exact ⟨_, _, _, getset_ _ _ _ _ _ (by simp), by rw [HS.out, HE.out]; simpa [tyB] using hown4, hb4⟩
      | true =>
        obtain ⟨v, hv⟩ : ∃ v, v = t + 128 := ⟨_, rfl⟩
        have hor : bits BinOp.or IntKind.u8 (t : Int) 128 = (v : Int) := by rw [hv]; exact or_tab ⟨t, by omega⟩
        have hv256 : v < 256 := by omega
        have HV := Lib.hid hv
        clear hv
        go_wp2_with (at_builtin; refine app8_one (.tmp 33) (.tmp 40) rfl rfl rfl hown1 [UInt8.ofNat (k / 256 + 192), UInt8.ofNat k] _ (bvs2 _ _ (k / 256 + 192) k (by go_num) (by go_num)) 2 rfl rfl (by omega) hg1 ?_; intro A2 c2' w2 ho2 hg2 hat2; have HN2 := Lib.hid ((hg2.block w.heap.size (by rw [HW1.out]; omega) (fun e => by have := hA _ e.symm; omega)).trans hnew); have d0 := blk_cell HN2.out 0; have d1 := blk_cell HN2.out 1; have d2 := blk_cell HN2.out 2; have hB2 : Below w0.heap.size w0 w2 := hB1.grown hg2 hg1 (fun i e => (hA i e).1); have hA2 : ∀ k, A2.map (·.block) = some k → k ≠ w.heap.size := (fun k e => by
                  cases A2 with
                  | none => cases e
                  | some ad =>
                    have e' : ad.block = k := by injection e
                    rcases hat2 ad rfl with h | h
                    · have := hA _ h; omega
                    · have := HW1.out; omega))
        have hu8 : ((v : Nat) : Int) = (((v) % 256 : Nat) : Int) := by omega
        have hbD : Below w0.heap.size w0 (w2.alloc (.cells #[.int .u8 ((v : Nat) : Int)] 5)).drew := (hB2.alloc hB2.size _).drew
        have hownD : Own (w2.alloc (.cells #[.int .u8 ((v : Nat) : Int)] 5)).drew w0.heap.size A2 _ c2' _ := Own.alloc_ (w := w2) ho2 _
        have hlit2 : Own (w2.alloc (.cells #[.int .u8 ((v : Nat) : Int)] 5)).drew w2.heap.size (some ⟨w2.heap.size, 0, none⟩) 1 1 [UInt8.ofNat (v)] := own_lit w2 _ [UInt8.ofNat (v)] (bvs1 _ _ hu8) 1 rfl (by omega)
        have hblt : w.heap.size < w2.heap.size := blk_lt HN2.out
        have hnD : (w2.alloc (.cells #[.int .u8 ((v : Nat) : Int)] 5)).drew.heap[w.heap.size]? = some (.cells #[.int .i64 (t : Int), .bool true, .slice Ab nb_ cb] 70 (0, 0)) := (((Below.refl w2.heap.size w2).alloc (Nat.le_refl _) (.cells #[.int .u8 ((v : Nat) : Int)] 5)).block w.heap.size hblt).trans HN2.out
        have k0 : w2.drew.cell? ⟨w.heap.size, 2, none⟩ = some (.slice Ab nb_ cb) := blk_cell (w := w2) HN2.out 2
        have k1 : (w2.alloc (.cells #[.int .u8 ((v : Nat) : Int)] 5)).drew.cell? ⟨w.heap.size, 2, none⟩ = some (.slice Ab nb_ cb) := blk_cell hnD 2
        have HND := Lib.hid hnD
        clear hu8 d0 d1 d2 c0 c1 c2 hnD
        go_region_held_law (fun w' => w'.cell? ⟨w.heap.size, 2, none⟩ = some (.slice Ab nb_ cb)) (first | exact k0 | exact k1 | exact K3.out | exact K4.out) ((first
          | (refine step_app8 (.tmp 49) (.tmp 51) (by rfl) (by rfl) (by rfl) hownD (by rfl) hlit2.bs (by omega) hbD.size ?_; intro A3 c3 w3 hown3 hg3 hat3; have hb3 : Below w0.heap.size w0 w3 := hbD.grown hg3 hbD.size (fun i e => by
              cases A2 with
              | none => cases e
              | some ad => cases e; exact (ho2.blk _ rfl).1); have HN3 := Lib.hid ((hg3.block w.heap.size (blk_lt HND.out) (fun e => hA2 _ e.symm rfl)).trans HND.out); have K3 := Lib.hid (show w3.cell? ⟨w.heap.size, 2, none⟩ = some (.slice Ab nb_ cb) from blk_cell HN3.out 2); have hA3 : ∀ k, A3.map (·.block) = some k → k ≠ w.heap.size := (fun k e => by
              cases A3 with
              | none => cases e
              | some ad =>
                have e' : ad.block = k := by injection e
                rcases hat3 ad rfl with h | h
                · exact hA2 _ (h.trans (congrArg some e'))
                · have : w2.heap.size < (w2.alloc (.cells #[.int .u8 ((v : Nat) : Int)] 5)).drew.heap.size := by simp
                  omega))
          | (refine step_app8 (.tmp 52) (.tmp 54) (by rfl) (by rfl) (by rfl) hown3 (by rfl) (hb.below hb3) (by omega) hb3.size ?_; intro A4 c4 w4 hown4 hg4 hat4; have hb4 : Below w0.heap.size w0 w4 := hb3.grown hg4 hb3.size (fun i e => by
              cases A3 with
              | none => cases e
              | some ad => cases e; exact (hown3.blk _ rfl).1); have K4 := Lib.hid (show w4.cell? ⟨w.heap.size, 2, none⟩ = some (.slice Ab nb_ cb) from blk_cell ((hg4.block w.heap.size (blk_lt HN3.out) (fun e => hA3 _ e.symm rfl)).trans HN3.out) 2))))
        all_goals
          go_wp2
          go_ret
          exact ⟨_, _, _, getset_ _ _ _ _ _ (by simp), by rw [HS.out, HE.out]; simpa [tyB, HV.out] using hown4, hb4⟩
    · have HE := Lib.hid (show slenE m = 255 :: be 4 m by rw [slenE, if_neg h192, if_neg h163])
      have hd : decide ((m : Int) < 16320) = false := decide_eq_false (by omega)
      have HP := Lib.hid (show putS (l ++ [255]) m 4 = (l ++ [255] ++ be 4 m, 0) by rw [putS, if_pos (by have := HM2.out; rw [show 256 ^ Int.toNat 4 = 4294967296 by decide]; omega)]; rfl)
      clear h163
      go_enter Try.func81, Try.ntmps81
      cases cr with
      | false =>
        go_wp2_with (first
                  | (at_builtin; refine app8_one (.tmp 12) (.tmp 13) rfl rfl rfl hown1 [255] _ rfl 1 rfl rfl (by omega) hg1 ?_; intro A1 c1' wq hoq hgq hatq; have HNq := Lib.hid ((hgq.block w.heap.size (by rw [HW1.out]; omega) (fun e => by have := hA _ e.symm; omega)).trans hnew); have hBq : Below w0.heap.size w0 wq := hB1.grown hgq hg1 (fun i e => (hA i e).1))
                  | (go_at_call 64; refine (Put_any hoq.bs (by omega) m (by have := HM2.out; omega) 4).mono ?_; rw [HP.out]; rintro e w2 ⟨A2, n2, c2', r2, rfl, ho2, hr2, hb2⟩; obtain rfl : r2 = 0 := hr2; have HN2 := Lib.hid ((hb2.block w.heap.size (blk_lt HNq.out)).trans HNq.out); have d0 := blk_cell HN2.out 0; have d1 := blk_cell HN2.out 1; have d2 := blk_cell HN2.out 2; have hB2 := below_then hBq hBq.size hb2; have hA2 : ∀ k, A2.map (·.block) = some k → k ≠ w.heap.size := (fun k e => by
                      cases A2 with
                      | none => cases e
                      | some ad =>
                        have e' : ad.block = k := by injection e
                        have h1 := (ho2.blk ad rfl).1
                        have h2 := blk_lt HNq.out
                        omega); have ho2 := ho2.lower (B' := w0.heap.size) hBq.size; have hn2 : n2 ≤ 100000005 := (by have h1 := ho2.2; have h2 := hown1.2; simp [be_length] at h1; omega)))
        have hu8 : ((t : Nat) : Int) = (((t) % 256 : Nat) : Int) := by omega
        have hbD : Below w0.heap.size w0 (w2.alloc (.cells #[.int .u8 ((t : Nat) : Int)] 5)).drew := (hB2.alloc hB2.size _).drew
        have hownD : Own (w2.alloc (.cells #[.int .u8 ((t : Nat) : Int)] 5)).drew w0.heap.size A2 _ c2' _ := Own.alloc_ (w := w2) ho2 _
        have hlit2 : Own (w2.alloc (.cells #[.int .u8 ((t : Nat) : Int)] 5)).drew w2.heap.size (some ⟨w2.heap.size, 0, none⟩) 1 1 [UInt8.ofNat (t)] := own_lit w2 _ [UInt8.ofNat (t)] (bvs1 _ _ hu8) 1 rfl (by omega)
        have hblt : w.heap.size < w2.heap.size := blk_lt HN2.out
        have hnD : (w2.alloc (.cells #[.int .u8 ((t : Nat) : Int)] 5)).drew.heap[w.heap.size]? = some (.cells #[.int .i64 (t : Int), .bool false, .slice Ab nb_ cb] 70 (0, 0)) := (((Below.refl w2.heap.size w2).alloc (Nat.le_refl _) (.cells #[.int .u8 ((t : Nat) : Int)] 5)).block w.heap.size hblt).trans HN2.out
        have k0 : w2.drew.cell? ⟨w.heap.size, 2, none⟩ = some (.slice Ab nb_ cb) := blk_cell (w := w2) HN2.out 2
        have k1 : (w2.alloc (.cells #[.int .u8 ((t : Nat) : Int)] 5)).drew.cell? ⟨w.heap.size, 2, none⟩ = some (.slice Ab nb_ cb) := blk_cell hnD 2
        have HND := Lib.hid hnD
        clear hu8 d0 d1 d2 c0 c1 c2 hnD
        go_region_held_law (fun w' => w'.cell? ⟨w.heap.size, 2, none⟩ = some (.slice Ab nb_ cb)) (first | exact k0 | exact k1 | exact K3.out | exact K4.out) ((first
          | (refine step_app8 (.tmp 49) (.tmp 51) (by rfl) (by rfl) (by rfl) hownD (by rfl) hlit2.bs (by omega) hbD.size ?_; intro A3 c3 w3 hown3 hg3 hat3; have hb3 : Below w0.heap.size w0 w3 := hbD.grown hg3 hbD.size (fun i e => by
              cases A2 with
              | none => cases e
              | some ad => cases e; exact (ho2.blk _ rfl).1); have HN3 := Lib.hid ((hg3.block w.heap.size (blk_lt HND.out) (fun e => hA2 _ e.symm rfl)).trans HND.out); have K3 := Lib.hid (show w3.cell? ⟨w.heap.size, 2, none⟩ = some (.slice Ab nb_ cb) from blk_cell HN3.out 2); have hA3 : ∀ k, A3.map (·.block) = some k → k ≠ w.heap.size := (fun k e => by
              cases A3 with
              | none => cases e
              | some ad =>
                have e' : ad.block = k := by injection e
                rcases hat3 ad rfl with h | h
                · exact hA2 _ (h.trans (congrArg some e'))
                · have : w2.heap.size < (w2.alloc (.cells #[.int .u8 ((t : Nat) : Int)] 5)).drew.heap.size := by simp
                  omega))
          | (refine step_app8 (.tmp 52) (.tmp 54) (by rfl) (by rfl) (by rfl) hown3 (by rfl) (hb.below hb3) (by omega) hb3.size ?_; intro A4 c4 w4 hown4 hg4 hat4; have hb4 : Below w0.heap.size w0 w4 := hb3.grown hg4 hb3.size (fun i e => by
              cases A3 with
              | none => cases e
              | some ad => cases e; exact (hown3.blk _ rfl).1); have K4 := Lib.hid (show w4.cell? ⟨w.heap.size, 2, none⟩ = some (.slice Ab nb_ cb) from blk_cell ((hg4.block w.heap.size (blk_lt HN3.out) (fun e => hA3 _ e.symm rfl)).trans HN3.out) 2))))
        all_goals
          go_wp2
          go_ret
          exact ⟨_, _, _, getset_ _ _ _ _ _ (by simp), by rw [HS.out, HE.out]; simpa [tyB] using hown4, hb4⟩
      | true =>
        obtain ⟨v, hv⟩ : ∃ v, v = t + 128 := ⟨_, rfl⟩
        have hor : bits BinOp.or IntKind.u8 (t : Int) 128 = (v : Int) := by rw [hv]; exact or_tab ⟨t, by omega⟩
        have hv256 : v < 256 := by omega
        have HV := Lib.hid hv
        clear hv
        go_wp2_with (first
                  | (at_builtin; refine app8_one (.tmp 12) (.tmp 13) rfl rfl rfl hown1 [255] _ rfl 1 rfl rfl (by omega) hg1 ?_; intro A1 c1' wq hoq hgq hatq; have HNq := Lib.hid ((hgq.block w.heap.size (by rw [HW1.out]; omega) (fun e => by have := hA _ e.symm; omega)).trans hnew); have hBq : Below w0.heap.size w0 wq := hB1.grown hgq hg1 (fun i e => (hA i e).1))
                  | (go_at_call 64; refine (Put_any hoq.bs (by omega) m (by have := HM2.out; omega) 4).mono ?_; rw [HP.out]; rintro e w2 ⟨A2, n2, c2', r2, rfl, ho2, hr2, hb2⟩; obtain rfl : r2 = 0 := hr2; have HN2 := Lib.hid ((hb2.block w.heap.size (blk_lt HNq.out)).trans HNq.out); have d0 := blk_cell HN2.out 0; have d1 := blk_cell HN2.out 1; have d2 := blk_cell HN2.out 2; have hB2 := below_then hBq hBq.size hb2; have hA2 : ∀ k, A2.map (·.block) = some k → k ≠ w.heap.size := (fun k e => by
                      cases A2 with
                      | none => cases e
                      | some ad =>
                        have e' : ad.block = k := by injection e
                        have h1 := (ho2.blk ad rfl).1
                        have h2 := blk_lt HNq.out
                        omega); have ho2 := ho2.lower (B' := w0.heap.size) hBq.size; have hn2 : n2 ≤ 100000005 := (by have h1 := ho2.2; have h2 := hown1.2; simp [be_length] at h1; omega)))
        have hu8 : ((v : Nat) : Int) = (((v) % 256 : Nat) : Int) := by omega
        have hbD : Below w0.heap.size w0 (w2.alloc (.cells #[.int .u8 ((v : Nat) : Int)] 5)).drew := (hB2.alloc hB2.size _).drew
        have hownD : Own (w2.alloc (.cells #[.int .u8 ((v : Nat) : Int)] 5)).drew w0.heap.size A2 _ c2' _ := Own.alloc_ (w := w2) ho2 _
        have hlit2 : Own (w2.alloc (.cells #[.int .u8 ((v : Nat) : Int)] 5)).drew w2.heap.size (some ⟨w2.heap.size, 0, none⟩) 1 1 [UInt8.ofNat (v)] := own_lit w2 _ [UInt8.ofNat (v)] (bvs1 _ _ hu8) 1 rfl (by omega)
        have hblt : w.heap.size < w2.heap.size := blk_lt HN2.out
        have hnD : (w2.alloc (.cells #[.int .u8 ((v : Nat) : Int)] 5)).drew.heap[w.heap.size]? = some (.cells #[.int .i64 (t : Int), .bool true, .slice Ab nb_ cb] 70 (0, 0)) := (((Below.refl w2.heap.size w2).alloc (Nat.le_refl _) (.cells #[.int .u8 ((v : Nat) : Int)] 5)).block w.heap.size hblt).trans HN2.out
        have k0 : w2.drew.cell? ⟨w.heap.size, 2, none⟩ = some (.slice Ab nb_ cb) := blk_cell (w := w2) HN2.out 2
        have k1 : (w2.alloc (.cells #[.int .u8 ((v : Nat) : Int)] 5)).drew.cell? ⟨w.heap.size, 2, none⟩ = some (.slice Ab nb_ cb) := blk_cell hnD 2
        have HND := Lib.hid hnD
        clear hu8 d0 d1 d2 c0 c1 c2 hnD
        go_region_held_law (fun w' => w'.cell? ⟨w.heap.size, 2, none⟩ = some (.slice Ab nb_ cb)) (first | exact k0 | exact k1 | exact K3.out | exact K4.out) ((first
          | (refine step_app8 (.tmp 49) (.tmp 51) (by rfl) (by rfl) (by rfl) hownD (by rfl) hlit2.bs (by omega) hbD.size ?_; intro A3 c3 w3 hown3 hg3 hat3; have hb3 : Below w0.heap.size w0 w3 := hbD.grown hg3 hbD.size (fun i e => by
              cases A2 with
              | none => cases e
              | some ad => cases e; exact (ho2.blk _ rfl).1); have HN3 := Lib.hid ((hg3.block w.heap.size (blk_lt HND.out) (fun e => hA2 _ e.symm rfl)).trans HND.out); have K3 := Lib.hid (show w3.cell? ⟨w.heap.size, 2, none⟩ = some (.slice Ab nb_ cb) from blk_cell HN3.out 2); have hA3 : ∀ k, A3.map (·.block) = some k → k ≠ w.heap.size := (fun k e => by
              cases A3 with
              | none => cases e
              | some ad =>
                have e' : ad.block = k := by injection e
                rcases hat3 ad rfl with h | h
                · exact hA2 _ (h.trans (congrArg some e'))
                · have : w2.heap.size < (w2.alloc (.cells #[.int .u8 ((v : Nat) : Int)] 5)).drew.heap.size := by simp
                  omega))
          | (refine step_app8 (.tmp 52) (.tmp 54) (by rfl) (by rfl) (by rfl) hown3 (by rfl) (hb.below hb3) (by omega) hb3.size ?_; intro A4 c4 w4 hown4 hg4 hat4; have hb4 : Below w0.heap.size w0 w4 := hb3.grown hg4 hb3.size (fun i e => by
              cases A3 with
              | none => cases e
              | some ad => cases e; exact (hown3.blk _ rfl).1); have K4 := Lib.hid (show w4.cell? ⟨w.heap.size, 2, none⟩ = some (.slice Ab nb_ cb) from blk_cell ((hg4.block w.heap.size (blk_lt HN3.out) (fun e => hA3 _ e.symm rfl)).trans HN3.out) 2))))
        all_goals
          go_wp2
          go_ret
          exact ⟨_, _, _, getset_ _ _ _ _ _ (by simp), by rw [HS.out, HE.out]; simpa [tyB, HV.out] using hown4, hb4⟩
end Go.Proofs.Ytjbnoamoadaknaa
end
