/- A literal's body: literal.Emit and the document's. -/
import Derived.Test.YtegbncngencfnaaLa
import Derived.Test.YtegbncngencfnaaPut
import Derived.Test.YtegbncngencfnaaSp
namespace Go.Proofs.Ytegbncngencfnaa
open Go.RowKit

/-- A literal's body, or why it may not be. -/
def emitL (c : UInt8) (name : List UInt8) (d : Nat) (data : List UInt8) : List UInt8 × Int :=
  if fmtS c = true ∧ name.length ≤ 255 then ([c, UInt8.ofNat name.length] ++ name ++ be 4 d ++ data, 0) else ([], 1)
theorem bvs2a (c : UInt8) (k : Nat) (hk : k ≤ 255) : (#[Value.int .u8 (c.toNat : Int), .int .u8 (k : Int)] : Array Value).toList = bvs [c, UInt8.ofNat k] := by
  have : k % 256 = k := by omega
  simp [bv, this]

set_option maxRecDepth 100000 in
set_option maxHeartbeats 3200000 in
theorem Emit24_calls (c : UInt8) {An Ad : Option Addr} {nn cn nd cd : Nat} {name data : List UInt8} {w : World} (hn : Bs w An nn cn name) (d : Nat) (hd : d < 4294967296) (hx : Bs w Ad nd cd data) (hnd : nd ≤ 100000) :
    Calls Try.prog 27 #[.agg #[.int .u8 (c.toNat : Int), .slice An nn cn, .int .u32 (d : Int), .slice Ad nd cd]] w fun e w' => ∃ A' m' c' r, e = .returned (.tuple #[.slice A' m' c', .int .i64 r]) ∧ Own w' w.heap.size A' m' c' (emitL c name d data).1 ∧ r = (emitL c name d data).2 ∧ Below w.heap.size w w' := by
  obtain rfl := hn.2
  have HE := Lib.hid (show emitL c name d data = if fmtS c = true ∧ name.length ≤ 255 then ([c, UInt8.ofNat name.length] ++ name ++ be 4 d ++ data, 0) else ([], 1) from rfl)
  have HF := Lib.hid (fun W => isFormat_calls c W)
  have hnew := heap_alloc_new w (.cells #[.int .u8 (c.toNat : Int), .slice An name.length cn, .int .u32 (d : Int), .slice Ad nd cd] 35)
  have hba := (Below.refl w.heap.size w).alloc (Nat.le_refl _) (.cells #[.int .u8 (c.toNat : Int), .slice An name.length cn, .int .u32 (d : Int), .slice Ad nd cd] 35)
  have HD := Lib.hid hd
  generalize fmtS c = f at HE HF
  go_enter Try.func27, Try.ntmps27
  go_wp2_with fail
  generalize hw1 : w.alloc (.cells #[.int .u8 (c.toNat : Int), .slice An name.length cn, .int .u32 (d : Int), .slice Ad nd cd] 35) = w1 at hnew hba ⊢
  clear hw1
  have k0 := blk_cell hnew 0
  have k1 := blk_cell hnew 1
  have k2 := blk_cell hnew 2
  refine (HF.out _).mono ?_
  rintro e w1' ⟨rfl, rfl⟩
  cases f with
  | false =>
    have HE1 := Lib.hid (show emitL c name d data = ([], 1) by rw [HE.out]; simp)
    go_wp2
    go_ret2
    rw [HE1.out]
    exact ⟨_, _, _, _, rfl, Own.nil_ _ _, rfl, hba⟩
  | true =>
    by_cases h255 : name.length ≤ 255
    · have HE1 := Lib.hid (show emitL c name d data = ([c, UInt8.ofNat name.length] ++ name ++ be 4 d ++ data, 0) by rw [HE.out, if_pos ⟨rfl, h255⟩])
      have hlit := own_lit w1 _ _ (bvs2a c name.length h255) 2 rfl (by omega)
      have hbl := (Below.refl w1.heap.size w1).alloc (Nat.le_refl _) (.cells #[.int .u8 (c.toNat : Int), .int .u8 (name.length : Int)] 5)
      have HP := Lib.hid (show putS ([c, UInt8.ofNat name.length] ++ name) d 4 = ([c, UInt8.ofNat name.length] ++ name ++ be 4 d, 0) by rw [putS, if_pos ⟨by omega, by omega, by have := HD.out; simpa using this⟩]; rfl)
      have hmod : (name.length : Int) % 256 = (name.length : Int) := by omega
      have hnm := (hn.below hba).below hbl
      have hxm := (hx.below hba).below hbl
      have hlt := blk_lt hnew
      have hblt : w1.heap.size ≤ (w1.alloc (.cells #[.int .u8 (c.toNat : Int), .int .u8 (name.length : Int)] 5)).heap.size := by simp
      have HNW := Lib.hid ((hbl.block w.heap.size hlt).trans hnew)
      have k3 := blk_cell HNW.out 1
      go_wp2_with (first
        | (at_builtin; refine app8 (.tmp 22) (.tmp 24) rfl rfl rfl hlit rfl hnm (by omega) hblt ?_; intro A2 c2 w2 ho2 hg2 hat2; have hB2 : Below w1.heap.size w1 w2 := below_lit hg2; have HN2 := Lib.hid ((hB2.block w.heap.size hlt).trans hnew); have j0 := blk_cell HN2.out 0; have j1 := blk_cell HN2.out 1; have j2 := blk_cell HN2.out 2; have j3 := blk_cell HN2.out 3; have hx2 := (hx.below hba).below hB2)
        | (go_at_call 70; refine (Put_any ho2.bs (by omega) d (by omega) 4).mono ?_; rw [HP.out]; rintro e w3 ⟨A3, n3, c3, r3, rfl, ho3, hr3, hb3⟩; obtain rfl : r3 = 0 := hr3; have HN3 := Lib.hid ((hb3.block w.heap.size (blk_lt HN2.out)).trans HN2.out); have i3 := blk_cell HN3.out 3; have hB3 := below_then hB2 hB2.size hb3; have hx3 := hx2.below hb3; have hn3 : n3 ≤ 1000 := (by have := ho3.2; simp only [List.length_append, be_length, List.length_cons, List.length_nil] at this; omega))
        | (at_builtin; refine app8 (.tmp 34) (.tmp 36) rfl rfl rfl (ho3.lower hB2.size) rfl hx3 (by omega) hB3.size ?_; intro A4 c4 w4 ho4 hg4 hat4))
      go_ret2
      rw [HE1.out]
      have hbw := hba.trans (hB3.mono hba.size)
      exact ⟨_, _, _, _, rfl, ho4.lower hba.size, rfl, hbw.grown hg4 hbw.size (fun k e => by
        cases A3 with
        | none => cases e
        | some ad => cases e; have h1 := (ho3.blk _ rfl).1; have h2 := hB2.size; have h3 := hba.size; show w.heap.size ≤ ad.block; omega)⟩
    · have HE1 := Lib.hid (show emitL c name d data = ([], 1) by rw [HE.out, if_neg (fun h => h255 h.2)])
      go_wp2
      go_ret2
      rw [HE1.out]
      exact ⟨_, _, _, _, rfl, Own.nil_ _ _, rfl, hba⟩

set_option maxRecDepth 100000 in
set_option maxHeartbeats 3200000 in
theorem rEmit24_calls (c : UInt8) {An Ad : Option Addr} {nn cn nd cd : Nat} {name data : List UInt8} {w : World} (hn : Bs w An nn cn name) (d : Nat) (hd : d < 4294967296) (hx : Bs w Ad nd cd data) (hnd : nd ≤ 100000) :
    Calls Try.prog 28 #[.agg #[.int .u8 (c.toNat : Int), .slice An nn cn, .int .u32 (d : Int), .slice Ad nd cd]] w fun e w' => ∃ A' m' c' r, e = .returned (.tuple #[.slice A' m' c', .int .i64 r]) ∧ Own w' w.heap.size A' m' c' (emitL c name d data).1 ∧ r = (emitL c name d data).2 ∧ Below w.heap.size w w' := by
  obtain rfl := hn.2
  have HE := Lib.hid (show emitL c name d data = if fmtS c = true ∧ name.length ≤ 255 then ([c, UInt8.ofNat name.length] ++ name ++ be 4 d ++ data, 0) else ([], 1) from rfl)
  have HF := Lib.hid (fun W => rformat_calls c W)
  have hnew := heap_alloc_new w (.cells #[.int .u8 (c.toNat : Int), .slice An name.length cn, .int .u32 (d : Int), .slice Ad nd cd] 38)
  have hba := (Below.refl w.heap.size w).alloc (Nat.le_refl _) (.cells #[.int .u8 (c.toNat : Int), .slice An name.length cn, .int .u32 (d : Int), .slice Ad nd cd] 38)
  have HD := Lib.hid hd
  generalize fmtS c = f at HE HF
  go_enter Try.func28, Try.ntmps28
  go_wp2_with fail
  generalize hw1 : w.alloc (.cells #[.int .u8 (c.toNat : Int), .slice An name.length cn, .int .u32 (d : Int), .slice Ad nd cd] 38) = w1 at hnew hba ⊢
  clear hw1
  have k0 := blk_cell hnew 0
  have k1 := blk_cell hnew 1
  have k2 := blk_cell hnew 2
  refine (HF.out _).mono ?_
  rintro e w1' ⟨rfl, rfl⟩
  cases f with
  | false =>
    have HE1 := Lib.hid (show emitL c name d data = ([], 1) by rw [HE.out]; simp)
    go_wp2
    go_ret2
    rw [HE1.out]
    exact ⟨_, _, _, _, rfl, Own.nil_ _ _, rfl, hba⟩
  | true =>
    by_cases h255 : name.length ≤ 255
    · have HE1 := Lib.hid (show emitL c name d data = ([c, UInt8.ofNat name.length] ++ name ++ be 4 d ++ data, 0) by rw [HE.out, if_pos ⟨rfl, h255⟩])
      have hlit := own_lit w1 _ _ (bvs2a c name.length h255) 2 rfl (by omega)
      have hbl := (Below.refl w1.heap.size w1).alloc (Nat.le_refl _) (.cells #[.int .u8 (c.toNat : Int), .int .u8 (name.length : Int)] 5)
      have HP := Lib.hid (show putS ([c, UInt8.ofNat name.length] ++ name) d 4 = ([c, UInt8.ofNat name.length] ++ name ++ be 4 d, 0) by rw [putS, if_pos ⟨by omega, by omega, by have := HD.out; simpa using this⟩]; rfl)
      have hmod : (name.length : Int) % 256 = (name.length : Int) := by omega
      have hnm := (hn.below hba).below hbl
      have hxm := (hx.below hba).below hbl
      have hlt := blk_lt hnew
      have hblt : w1.heap.size ≤ (w1.alloc (.cells #[.int .u8 (c.toNat : Int), .int .u8 (name.length : Int)] 5)).heap.size := by simp
      have HNW := Lib.hid ((hbl.block w.heap.size hlt).trans hnew)
      have k3 := blk_cell HNW.out 1
      go_wp2_with (first
        | (at_builtin; refine app8 (.tmp 22) (.tmp 24) rfl rfl rfl hlit rfl hnm (by omega) hblt ?_; intro A2 c2 w2 ho2 hg2 hat2; have hB2 : Below w1.heap.size w1 w2 := below_lit hg2; have HN2 := Lib.hid ((hB2.block w.heap.size hlt).trans hnew); have j0 := blk_cell HN2.out 0; have j1 := blk_cell HN2.out 1; have j2 := blk_cell HN2.out 2; have j3 := blk_cell HN2.out 3; have hx2 := (hx.below hba).below hB2)
        | (go_at_call 71; refine (rPut_any ho2.bs (by omega) d (by omega) 4).mono ?_; rw [HP.out]; rintro e w3 ⟨A3, n3, c3, r3, rfl, ho3, hr3, hb3⟩; obtain rfl : r3 = 0 := hr3; have HN3 := Lib.hid ((hb3.block w.heap.size (blk_lt HN2.out)).trans HN2.out); have i3 := blk_cell HN3.out 3; have hB3 := below_then hB2 hB2.size hb3; have hx3 := hx2.below hb3; have hn3 : n3 ≤ 1000 := (by have := ho3.2; simp only [List.length_append, be_length, List.length_cons, List.length_nil] at this; omega))
        | (at_builtin; refine app8 (.tmp 34) (.tmp 36) rfl rfl rfl (ho3.lower hB2.size) rfl hx3 (by omega) hB3.size ?_; intro A4 c4 w4 ho4 hg4 hat4))
      go_ret2
      rw [HE1.out]
      have hbw := hba.trans (hB3.mono hba.size)
      exact ⟨_, _, _, _, rfl, ho4.lower hba.size, rfl, hbw.grown hg4 hbw.size (fun k e => by
        cases A3 with
        | none => cases e
        | some ad => cases e; have h1 := (ho3.blk _ rfl).1; have h2 := hB2.size; have h3 := hba.size; show w.heap.size ≤ ad.block; omega)⟩
    · have HE1 := Lib.hid (show emitL c name d data = ([], 1) by rw [HE.out, if_neg (fun h => h255 h.2)])
      go_wp2
      go_ret2
      rw [HE1.out]
      exact ⟨_, _, _, _, rfl, Own.nil_ _ _, rfl, hba⟩
end Go.Proofs.Ytegbncngencfnaa
