/-
  No cell of these rows narrows 'for every input' (looked for: loops, veiled, ifaces, maps, wideKeys, modest, calm, conditions, laid).
  DERIVED. THE GIVEN ROWS OF THIS SEAT. 9 by the template 'for every input the law returns true; each argument reads behind the call as it read before'; 0 by the template 'total and deterministic' (their statements: YthopnficbgkebaaTotals.lean).
  GIVEN WITH THE SEED: the statements are not yours to turn. If you find one false, say at which input.
  Laid BY PROGRAM, IN A SANDBOX (cutbox-rows.mjs): the forced cells as the released guide's own fill.sh prints them over the translation 123260f8e3472f6a… (all of the seat's roots in one cut). By AI agents, Wed Nov 11 2026. No macro, syntax, notation, axiom, sorry.
-/
import Derived.Test.YthopnficbgkebaaChecked
import GoSem.Claim
import GoSem.ClaimJoined
import GoSem.ClaimMapViews
import Derived.JoinedTies
import Derived.KernelRfl
namespace Go.Proofs.Ythopnficbgkebaa
/- THE CELL 'sum', in the pinned program and in every row, IS THE sha256 OF THE DUMP (.gsa) THAT YthopnficbgkebaaProg.lean LOADS. Nothing in Lean hashes anything: it is a label: what it is worth is what the hold of that sum in a sandbox is worth. -/
noncomputable def Try.pinned : Pinned := { name := "ythopnficbgkebaa", sum := "123260f8e3472f6ab1d1207afa825c68f9d4a16223a803a427d67a749c017ee1", checked := Try.checked }
namespace Rows
def none {H : Type} : Left H := { results := [], args := [] }

/-- 'affiantlaw01.CursorPut': WHATEVER THE INPUT: true; the input reads as it did. -/
def cursorPutSpec : ChangeSpec := { name := "cursorPut", fn := fun _ => fun
  | [d1, d2, d3] => { results := [.lit (.bool true)], args := [d1, d2, d3] }
  | _ => none }
def cursorPutRow : OpenClaim := { program := "ythopnficbgkebaa", sum := "123260f8e3472f6ab1d1207afa825c68f9d4a16223a803a427d67a749c017ee1", func := "affiant/affiantlaw01.CursorPut", spec := "cursorPut", apart := false }
def CursorPutSaid : Prop := cursorPutRow.holds Try.pinned (OpenSpec.ofChange cursorPutSpec)

/-- ITS FALSE NEIGHBOUR: 'it returns false'. Refute it at one input. -/
def cursorPutWrong : ChangeSpec := { name := "cursorPut", fn := fun _ => fun
  | [d1, d2, d3] => { results := [.lit (.bool false)], args := [d1, d2, d3] }
  | _ => none }
def CursorPutWrongFalsely : Prop := cursorPutRow.holds Try.pinned (OpenSpec.ofChange cursorPutWrong)

/-- 'affiantlaw03.CrcSum': WHATEVER THE INPUT: true; the input reads as it did. -/
def crcSumSpec : ChangeSpec := { name := "crcSum", fn := fun _ => fun
  | [d1, d2] => { results := [.lit (.bool true)], args := [d1, d2] }
  | _ => none }
def crcSumRow : OpenClaim := { program := "ythopnficbgkebaa", sum := "123260f8e3472f6ab1d1207afa825c68f9d4a16223a803a427d67a749c017ee1", func := "affiant/affiantlaw03.CrcSum", spec := "crcSum", apart := false }
def CrcSumSaid : Prop := crcSumRow.holds Try.pinned (OpenSpec.ofChange crcSumSpec)

/-- ITS FALSE NEIGHBOUR: 'it returns false'. Refute it at one input. -/
def crcSumWrong : ChangeSpec := { name := "crcSum", fn := fun _ => fun
  | [d1, d2] => { results := [.lit (.bool false)], args := [d1, d2] }
  | _ => none }
def CrcSumWrongFalsely : Prop := crcSumRow.holds Try.pinned (OpenSpec.ofChange crcSumWrong)

/-- 'affiantlaw03.CrcBytes': WHATEVER THE INPUT: true; the input reads as it did. -/
def crcBytesSpec : ChangeSpec := { name := "crcBytes", fn := fun _ => fun
  | [d1, d2] => { results := [.lit (.bool true)], args := [d1, d2] }
  | _ => none }
def crcBytesRow : OpenClaim := { program := "ythopnficbgkebaa", sum := "123260f8e3472f6ab1d1207afa825c68f9d4a16223a803a427d67a749c017ee1", func := "affiant/affiantlaw03.CrcBytes", spec := "crcBytes", apart := false }
def CrcBytesSaid : Prop := crcBytesRow.holds Try.pinned (OpenSpec.ofChange crcBytesSpec)

/-- ITS FALSE NEIGHBOUR: 'it returns false'. Refute it at one input. -/
def crcBytesWrong : ChangeSpec := { name := "crcBytes", fn := fun _ => fun
  | [d1, d2] => { results := [.lit (.bool false)], args := [d1, d2] }
  | _ => none }
def CrcBytesWrongFalsely : Prop := crcBytesRow.holds Try.pinned (OpenSpec.ofChange crcBytesWrong)

/-- 'affiantlaw03.CrcPieces': WHATEVER THE INPUT: true; the input reads as it did. -/
def crcPiecesSpec : ChangeSpec := { name := "crcPieces", fn := fun _ => fun
  | [d1, d2] => { results := [.lit (.bool true)], args := [d1, d2] }
  | _ => none }
def crcPiecesRow : OpenClaim := { program := "ythopnficbgkebaa", sum := "123260f8e3472f6ab1d1207afa825c68f9d4a16223a803a427d67a749c017ee1", func := "affiant/affiantlaw03.CrcPieces", spec := "crcPieces", apart := false }
def CrcPiecesSaid : Prop := crcPiecesRow.holds Try.pinned (OpenSpec.ofChange crcPiecesSpec)

/-- ITS FALSE NEIGHBOUR: 'it returns false'. Refute it at one input. -/
def crcPiecesWrong : ChangeSpec := { name := "crcPieces", fn := fun _ => fun
  | [d1, d2] => { results := [.lit (.bool false)], args := [d1, d2] }
  | _ => none }
def CrcPiecesWrongFalsely : Prop := crcPiecesRow.holds Try.pinned (OpenSpec.ofChange crcPiecesWrong)

/-- 'affiantlaw03.CrcOne': WHATEVER THE INPUT: true; the input reads as it did. -/
def crcOneSpec : ChangeSpec := { name := "crcOne", fn := fun _ => fun
  | [d1, d2, d3] => { results := [.lit (.bool true)], args := [d1, d2, d3] }
  | _ => none }
def crcOneRow : OpenClaim := { program := "ythopnficbgkebaa", sum := "123260f8e3472f6ab1d1207afa825c68f9d4a16223a803a427d67a749c017ee1", func := "affiant/affiantlaw03.CrcOne", spec := "crcOne", apart := false }
def CrcOneSaid : Prop := crcOneRow.holds Try.pinned (OpenSpec.ofChange crcOneSpec)

/-- ITS FALSE NEIGHBOUR: 'it returns false'. Refute it at one input. -/
def crcOneWrong : ChangeSpec := { name := "crcOne", fn := fun _ => fun
  | [d1, d2, d3] => { results := [.lit (.bool false)], args := [d1, d2, d3] }
  | _ => none }
def CrcOneWrongFalsely : Prop := crcOneRow.holds Try.pinned (OpenSpec.ofChange crcOneWrong)

/-- 'affiantlaw01.CursorPieces': WHATEVER THE INPUT: true; the input reads as it did. -/
def cursorPiecesSpec : ChangeSpec := { name := "cursorPieces", fn := fun _ => fun
  | [d1, d2] => { results := [.lit (.bool true)], args := [d1, d2] }
  | _ => none }
def cursorPiecesRow : OpenClaim := { program := "ythopnficbgkebaa", sum := "123260f8e3472f6ab1d1207afa825c68f9d4a16223a803a427d67a749c017ee1", func := "affiant/affiantlaw01.CursorPieces", spec := "cursorPieces", apart := false }
def CursorPiecesSaid : Prop := cursorPiecesRow.holds Try.pinned (OpenSpec.ofChange cursorPiecesSpec)

/-- ITS FALSE NEIGHBOUR: 'it returns false'. Refute it at one input. -/
def cursorPiecesWrong : ChangeSpec := { name := "cursorPieces", fn := fun _ => fun
  | [d1, d2] => { results := [.lit (.bool false)], args := [d1, d2] }
  | _ => none }
def CursorPiecesWrongFalsely : Prop := cursorPiecesRow.holds Try.pinned (OpenSpec.ofChange cursorPiecesWrong)

/-- 'affiantlaw01.CursorBack': WHATEVER THE INPUT: true; the input reads as it did. -/
def cursorBackSpec : ChangeSpec := { name := "cursorBack", fn := fun _ => fun
  | [d1, d2, d3] => { results := [.lit (.bool true)], args := [d1, d2, d3] }
  | _ => none }
def cursorBackRow : OpenClaim := { program := "ythopnficbgkebaa", sum := "123260f8e3472f6ab1d1207afa825c68f9d4a16223a803a427d67a749c017ee1", func := "affiant/affiantlaw01.CursorBack", spec := "cursorBack", apart := false }
def CursorBackSaid : Prop := cursorBackRow.holds Try.pinned (OpenSpec.ofChange cursorBackSpec)

/-- ITS FALSE NEIGHBOUR: 'it returns false'. Refute it at one input. -/
def cursorBackWrong : ChangeSpec := { name := "cursorBack", fn := fun _ => fun
  | [d1, d2, d3] => { results := [.lit (.bool false)], args := [d1, d2, d3] }
  | _ => none }
def CursorBackWrongFalsely : Prop := cursorBackRow.holds Try.pinned (OpenSpec.ofChange cursorBackWrong)

/-- 'affiantlaw01.CursorNil': WHATEVER THE INPUT: true; the input reads as it did. -/
def cursorNilSpec : ChangeSpec := { name := "cursorNil", fn := fun _ => fun
  | [d] => { results := [.lit (.bool true)], args := [d] }
  | _ => none }
def cursorNilRow : OpenClaim := { program := "ythopnficbgkebaa", sum := "123260f8e3472f6ab1d1207afa825c68f9d4a16223a803a427d67a749c017ee1", func := "affiant/affiantlaw01.CursorNil", spec := "cursorNil", apart := false }
def CursorNilSaid : Prop := cursorNilRow.holds Try.pinned (OpenSpec.ofChange cursorNilSpec)

/-- ITS FALSE NEIGHBOUR: 'it returns false'. Refute it at one input. -/
def cursorNilWrong : ChangeSpec := { name := "cursorNil", fn := fun _ => fun
  | [d] => { results := [.lit (.bool false)], args := [d] }
  | _ => none }
def CursorNilWrongFalsely : Prop := cursorNilRow.holds Try.pinned (OpenSpec.ofChange cursorNilWrong)

/-- 'affiantlaw01.CursorPlays': WHATEVER THE INPUT: true; the input reads as it did. -/
def cursorPlaysSpec : ChangeSpec := { name := "cursorPlays", fn := fun _ => fun
  | [d1, d2] => { results := [.lit (.bool true)], args := [d1, d2] }
  | _ => none }
def cursorPlaysRow : OpenClaim := { program := "ythopnficbgkebaa", sum := "123260f8e3472f6ab1d1207afa825c68f9d4a16223a803a427d67a749c017ee1", func := "affiant/affiantlaw01.CursorPlays", spec := "cursorPlays", apart := false }
def CursorPlaysSaid : Prop := cursorPlaysRow.holds Try.pinned (OpenSpec.ofChange cursorPlaysSpec)

/-- ITS FALSE NEIGHBOUR: 'it returns false'. Refute it at one input. -/
def cursorPlaysWrong : ChangeSpec := { name := "cursorPlays", fn := fun _ => fun
  | [d1, d2] => { results := [.lit (.bool false)], args := [d1, d2] }
  | _ => none }
def CursorPlaysWrongFalsely : Prop := cursorPlaysRow.holds Try.pinned (OpenSpec.ofChange cursorPlaysWrong)

/- THE SECOND FORM. 'bulk': how many values and letters a reading holds, each counted each time it is reached (what is shared counts as often as it is met; a slice's spare places count too). A statement '..UptoSaid' is the law's where the arguments, and the package variables that the reading takes, are together of bulk at most 1048576: NARROWER than '..Said'. Prove '..Said' where nothing that the law and all that it calls make is longer than what came in: it says more and counts as full. Else prove '..UptoSaid'. A law counts once. -/
mutual
def uptoBulk {H : Type} : DataW H → Nat
  | .lit (.string bytes) => bytes.length + 1
  | .lit _ => 1
  | .nil => 1
  | .ptr d => uptoBulk d + 1
  | .slice elems spare => uptoBulkAll elems + uptoBulkAll spare + 1
  | .agg parts => uptoBulkAll parts + 1
  | .iface _ d => uptoBulk d + 1
  | .map entries => uptoBulkEntries entries + 1
  | .held _ => 1
def uptoBulkAll {H : Type} : List (DataW H) → Nat
  | [] => 0
  | d :: r => uptoBulk d + uptoBulkAll r
def uptoBulkEntries {H : Type} : List (Lit × DataW H) → Nat
  | [] => 0
  | x :: r => uptoBulkEntry x + uptoBulkEntries r
def uptoBulkEntry {H : Type} : Lit × DataW H → Nat
  | (.string bytes, d) => bytes.length + uptoBulk d + 1
  | (_, d) => uptoBulk d + 1
 end
def uptoSmall : (H : Type) → List (DataW H) → Bool := fun _ ds => decide (uptoBulkAll ds ≤ 1048576)
def OpenSpec.upto (s : _root_.Go.ChangeSpec) : _root_.Go.OpenSpec := { _root_.Go.OpenSpec.ofChange s with cond := some uptoSmall }

/-- 'affiantlaw01.CursorPut', WHERE WHAT IT READS IS OF BULK AT MOST 1048576: true; the input reads as it did. -/
def cursorPutUptoRow : OpenClaim := { program := "ythopnficbgkebaa", sum := "123260f8e3472f6ab1d1207afa825c68f9d4a16223a803a427d67a749c017ee1", func := "affiant/affiantlaw01.CursorPut", spec := "cursorPut", apart := false, narrowed := true }
def CursorPutUptoSaid : Prop := cursorPutUptoRow.holds Try.pinned (OpenSpec.upto cursorPutSpec)

/-- 'affiantlaw03.CrcSum', WHERE WHAT IT READS IS OF BULK AT MOST 1048576: true; the input reads as it did. -/
def crcSumUptoRow : OpenClaim := { program := "ythopnficbgkebaa", sum := "123260f8e3472f6ab1d1207afa825c68f9d4a16223a803a427d67a749c017ee1", func := "affiant/affiantlaw03.CrcSum", spec := "crcSum", apart := false, narrowed := true }
def CrcSumUptoSaid : Prop := crcSumUptoRow.holds Try.pinned (OpenSpec.upto crcSumSpec)

/-- 'affiantlaw03.CrcBytes', WHERE WHAT IT READS IS OF BULK AT MOST 1048576: true; the input reads as it did. -/
def crcBytesUptoRow : OpenClaim := { program := "ythopnficbgkebaa", sum := "123260f8e3472f6ab1d1207afa825c68f9d4a16223a803a427d67a749c017ee1", func := "affiant/affiantlaw03.CrcBytes", spec := "crcBytes", apart := false, narrowed := true }
def CrcBytesUptoSaid : Prop := crcBytesUptoRow.holds Try.pinned (OpenSpec.upto crcBytesSpec)

/-- 'affiantlaw03.CrcPieces', WHERE WHAT IT READS IS OF BULK AT MOST 1048576: true; the input reads as it did. -/
def crcPiecesUptoRow : OpenClaim := { program := "ythopnficbgkebaa", sum := "123260f8e3472f6ab1d1207afa825c68f9d4a16223a803a427d67a749c017ee1", func := "affiant/affiantlaw03.CrcPieces", spec := "crcPieces", apart := false, narrowed := true }
def CrcPiecesUptoSaid : Prop := crcPiecesUptoRow.holds Try.pinned (OpenSpec.upto crcPiecesSpec)

/-- 'affiantlaw03.CrcOne', WHERE WHAT IT READS IS OF BULK AT MOST 1048576: true; the input reads as it did. -/
def crcOneUptoRow : OpenClaim := { program := "ythopnficbgkebaa", sum := "123260f8e3472f6ab1d1207afa825c68f9d4a16223a803a427d67a749c017ee1", func := "affiant/affiantlaw03.CrcOne", spec := "crcOne", apart := false, narrowed := true }
def CrcOneUptoSaid : Prop := crcOneUptoRow.holds Try.pinned (OpenSpec.upto crcOneSpec)

/-- 'affiantlaw01.CursorPieces', WHERE WHAT IT READS IS OF BULK AT MOST 1048576: true; the input reads as it did. -/
def cursorPiecesUptoRow : OpenClaim := { program := "ythopnficbgkebaa", sum := "123260f8e3472f6ab1d1207afa825c68f9d4a16223a803a427d67a749c017ee1", func := "affiant/affiantlaw01.CursorPieces", spec := "cursorPieces", apart := false, narrowed := true }
def CursorPiecesUptoSaid : Prop := cursorPiecesUptoRow.holds Try.pinned (OpenSpec.upto cursorPiecesSpec)

/-- 'affiantlaw01.CursorBack', WHERE WHAT IT READS IS OF BULK AT MOST 1048576: true; the input reads as it did. -/
def cursorBackUptoRow : OpenClaim := { program := "ythopnficbgkebaa", sum := "123260f8e3472f6ab1d1207afa825c68f9d4a16223a803a427d67a749c017ee1", func := "affiant/affiantlaw01.CursorBack", spec := "cursorBack", apart := false, narrowed := true }
def CursorBackUptoSaid : Prop := cursorBackUptoRow.holds Try.pinned (OpenSpec.upto cursorBackSpec)

/-- 'affiantlaw01.CursorNil', WHERE WHAT IT READS IS OF BULK AT MOST 1048576: true; the input reads as it did. -/
def cursorNilUptoRow : OpenClaim := { program := "ythopnficbgkebaa", sum := "123260f8e3472f6ab1d1207afa825c68f9d4a16223a803a427d67a749c017ee1", func := "affiant/affiantlaw01.CursorNil", spec := "cursorNil", apart := false, narrowed := true }
def CursorNilUptoSaid : Prop := cursorNilUptoRow.holds Try.pinned (OpenSpec.upto cursorNilSpec)

/-- 'affiantlaw01.CursorPlays', WHERE WHAT IT READS IS OF BULK AT MOST 1048576: true; the input reads as it did. -/
def cursorPlaysUptoRow : OpenClaim := { program := "ythopnficbgkebaa", sum := "123260f8e3472f6ab1d1207afa825c68f9d4a16223a803a427d67a749c017ee1", func := "affiant/affiantlaw01.CursorPlays", spec := "cursorPlays", apart := false, narrowed := true }
def CursorPlaysUptoSaid : Prop := cursorPlaysUptoRow.holds Try.pinned (OpenSpec.upto cursorPlaysSpec)

end Rows
end Go.Proofs.Ythopnficbgkebaa
