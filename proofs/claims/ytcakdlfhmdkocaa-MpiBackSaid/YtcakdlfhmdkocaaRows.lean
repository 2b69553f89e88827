/-
  No cell of these rows narrows 'for every input' (looked for: loops, veiled, ifaces, maps, wideKeys, modest, calm, conditions, laid).
  DERIVED. THE GIVEN ROWS OF THIS SEAT. 11 by the template 'for every input the law returns true; each argument reads behind the call as it read before'; 0 by the template 'total and deterministic' (their statements: YtcakdlfhmdkocaaTotals.lean).
  GIVEN WITH THE SEED: the statements are not yours to turn. If you find one false, say at which input.
  Laid BY PROGRAM, IN A SANDBOX (cutbox-rows.mjs): the forced cells as the released guide's own fill.sh prints them over the translation 06ff34736512d3ca… (all of the seat's roots in one cut). By AI agents, Wed Nov 11 2026. No macro, syntax, notation, axiom, sorry.
-/
import Derived.Test.YtcakdlfhmdkocaaChecked
import GoSem.Claim
import GoSem.ClaimJoined
import GoSem.ClaimMapViews
import Derived.JoinedTies
import Derived.KernelRfl
namespace Go.Proofs.Ytcakdlfhmdkocaa
/- THE CELL 'sum', in the pinned program and in every row, IS THE sha256 OF THE DUMP (.gsa) THAT YtcakdlfhmdkocaaProg.lean LOADS. Nothing in Lean hashes anything: it is a label: what it is worth is what the hold of that sum in a sandbox is worth. -/
noncomputable def Try.pinned : Pinned := { name := "ytcakdlfhmdkocaa", sum := "06ff34736512d3cab07676f01dcecea330d4d614fe54fec031c10bb6be17285d", checked := Try.checked }
namespace Rows
def none {H : Type} : Left H := { results := [], args := [] }

/-- 'affiantlaw20.MpiPut': WHATEVER THE INPUT: true; the input reads as it did. -/
def mpiPutSpec : ChangeSpec := { name := "mpiPut", fn := fun _ => fun
  | [d1, d2] => { results := [.lit (.bool true)], args := [d1, d2] }
  | _ => none }
def mpiPutRow : OpenClaim := { program := "ytcakdlfhmdkocaa", sum := "06ff34736512d3cab07676f01dcecea330d4d614fe54fec031c10bb6be17285d", func := "affiant/affiantlaw20.MpiPut", spec := "mpiPut", unfollowed := true, recurses := true, apart := false }
def MpiPutSaid : Prop := mpiPutRow.holds Try.pinned (OpenSpec.ofChange mpiPutSpec)

/-- ITS FALSE NEIGHBOUR: 'it returns false'. Refute it at one input. -/
def mpiPutWrong : ChangeSpec := { name := "mpiPut", fn := fun _ => fun
  | [d1, d2] => { results := [.lit (.bool false)], args := [d1, d2] }
  | _ => none }
def MpiPutWrongFalsely : Prop := mpiPutRow.holds Try.pinned (OpenSpec.ofChange mpiPutWrong)

/-- 'affiantlaw20.MpiOnly': WHATEVER THE INPUT: true; the input reads as it did. -/
def mpiOnlySpec : ChangeSpec := { name := "mpiOnly", fn := fun _ => fun
  | [d] => { results := [.lit (.bool true)], args := [d] }
  | _ => none }
def mpiOnlyRow : OpenClaim := { program := "ytcakdlfhmdkocaa", sum := "06ff34736512d3cab07676f01dcecea330d4d614fe54fec031c10bb6be17285d", func := "affiant/affiantlaw20.MpiOnly", spec := "mpiOnly", unfollowed := true, recurses := true, apart := false }
def MpiOnlySaid : Prop := mpiOnlyRow.holds Try.pinned (OpenSpec.ofChange mpiOnlySpec)

/-- ITS FALSE NEIGHBOUR: 'it returns false'. Refute it at one input. -/
def mpiOnlyWrong : ChangeSpec := { name := "mpiOnly", fn := fun _ => fun
  | [d] => { results := [.lit (.bool false)], args := [d] }
  | _ => none }
def MpiOnlyWrongFalsely : Prop := mpiOnlyRow.holds Try.pinned (OpenSpec.ofChange mpiOnlyWrong)

/-- 'affiantlaw18.FrameHead': WHATEVER THE INPUT: true; the input reads as it did. -/
def frameHeadSpec : ChangeSpec := { name := "frameHead", fn := fun _ => fun
  | [d1, d2] => { results := [.lit (.bool true)], args := [d1, d2] }
  | _ => none }
def frameHeadRow : OpenClaim := { program := "ytcakdlfhmdkocaa", sum := "06ff34736512d3cab07676f01dcecea330d4d614fe54fec031c10bb6be17285d", func := "affiant/affiantlaw18.FrameHead", spec := "frameHead", apart := false }
def FrameHeadSaid : Prop := frameHeadRow.holds Try.pinned (OpenSpec.ofChange frameHeadSpec)

/-- ITS FALSE NEIGHBOUR: 'it returns false'. Refute it at one input. -/
def frameHeadWrong : ChangeSpec := { name := "frameHead", fn := fun _ => fun
  | [d1, d2] => { results := [.lit (.bool false)], args := [d1, d2] }
  | _ => none }
def FrameHeadWrongFalsely : Prop := frameHeadRow.holds Try.pinned (OpenSpec.ofChange frameHeadWrong)

/-- 'affiantlaw18.FrameLong': WHATEVER THE INPUT: true; the input reads as it did. -/
def frameLongSpec : ChangeSpec := { name := "frameLong", fn := fun _ => fun
  | [d1, d2] => { results := [.lit (.bool true)], args := [d1, d2] }
  | _ => none }
def frameLongRow : OpenClaim := { program := "ytcakdlfhmdkocaa", sum := "06ff34736512d3cab07676f01dcecea330d4d614fe54fec031c10bb6be17285d", func := "affiant/affiantlaw18.FrameLong", spec := "frameLong", apart := false }
def FrameLongSaid : Prop := frameLongRow.holds Try.pinned (OpenSpec.ofChange frameLongSpec)

/-- ITS FALSE NEIGHBOUR: 'it returns false'. Refute it at one input. -/
def frameLongWrong : ChangeSpec := { name := "frameLong", fn := fun _ => fun
  | [d1, d2] => { results := [.lit (.bool false)], args := [d1, d2] }
  | _ => none }
def FrameLongWrongFalsely : Prop := frameLongRow.holds Try.pinned (OpenSpec.ofChange frameLongWrong)

/-- 'affiantlaw20.MpiTake': WHATEVER THE INPUT: true; the input reads as it did. -/
def mpiTakeSpec : ChangeSpec := { name := "mpiTake", fn := fun _ => fun
  | [d1, d2] => { results := [.lit (.bool true)], args := [d1, d2] }
  | _ => none }
def mpiTakeRow : OpenClaim := { program := "ytcakdlfhmdkocaa", sum := "06ff34736512d3cab07676f01dcecea330d4d614fe54fec031c10bb6be17285d", func := "affiant/affiantlaw20.MpiTake", spec := "mpiTake", unfollowed := true, recurses := true, apart := false }
def MpiTakeSaid : Prop := mpiTakeRow.holds Try.pinned (OpenSpec.ofChange mpiTakeSpec)

/-- ITS FALSE NEIGHBOUR: 'it returns false'. Refute it at one input. -/
def mpiTakeWrong : ChangeSpec := { name := "mpiTake", fn := fun _ => fun
  | [d1, d2] => { results := [.lit (.bool false)], args := [d1, d2] }
  | _ => none }
def MpiTakeWrongFalsely : Prop := mpiTakeRow.holds Try.pinned (OpenSpec.ofChange mpiTakeWrong)

/-- 'affiantlaw20.MpiBack': WHATEVER THE INPUT: true; the input reads as it did. -/
def mpiBackSpec : ChangeSpec := { name := "mpiBack", fn := fun _ => fun
  | [d1, d2] => { results := [.lit (.bool true)], args := [d1, d2] }
  | _ => none }
def mpiBackRow : OpenClaim := { program := "ytcakdlfhmdkocaa", sum := "06ff34736512d3cab07676f01dcecea330d4d614fe54fec031c10bb6be17285d", func := "affiant/affiantlaw20.MpiBack", spec := "mpiBack", unfollowed := true, recurses := true, apart := false }
def MpiBackSaid : Prop := mpiBackRow.holds Try.pinned (OpenSpec.ofChange mpiBackSpec)

/-- ITS FALSE NEIGHBOUR: 'it returns false'. Refute it at one input. -/
def mpiBackWrong : ChangeSpec := { name := "mpiBack", fn := fun _ => fun
  | [d1, d2] => { results := [.lit (.bool false)], args := [d1, d2] }
  | _ => none }
def MpiBackWrongFalsely : Prop := mpiBackRow.holds Try.pinned (OpenSpec.ofChange mpiBackWrong)

/-- 'affiantlaw18.FrameParts': WHATEVER THE INPUT: true; the input reads as it did. -/
def framePartsSpec : ChangeSpec := { name := "frameParts", fn := fun _ => fun
  | [d1, d2, d3] => { results := [.lit (.bool true)], args := [d1, d2, d3] }
  | _ => none }
def framePartsRow : OpenClaim := { program := "ytcakdlfhmdkocaa", sum := "06ff34736512d3cab07676f01dcecea330d4d614fe54fec031c10bb6be17285d", func := "affiant/affiantlaw18.FrameParts", spec := "frameParts", apart := false }
def FramePartsSaid : Prop := framePartsRow.holds Try.pinned (OpenSpec.ofChange framePartsSpec)

/-- ITS FALSE NEIGHBOUR: 'it returns false'. Refute it at one input. -/
def framePartsWrong : ChangeSpec := { name := "frameParts", fn := fun _ => fun
  | [d1, d2, d3] => { results := [.lit (.bool false)], args := [d1, d2, d3] }
  | _ => none }
def FramePartsWrongFalsely : Prop := framePartsRow.holds Try.pinned (OpenSpec.ofChange framePartsWrong)

/-- 'affiantlaw18.FrameBack': WHATEVER THE INPUT: true; the input reads as it did. -/
def frameBackSpec : ChangeSpec := { name := "frameBack", fn := fun _ => fun
  | [d1, d2, d3] => { results := [.lit (.bool true)], args := [d1, d2, d3] }
  | _ => none }
def frameBackRow : OpenClaim := { program := "ytcakdlfhmdkocaa", sum := "06ff34736512d3cab07676f01dcecea330d4d614fe54fec031c10bb6be17285d", func := "affiant/affiantlaw18.FrameBack", spec := "frameBack", apart := false }
def FrameBackSaid : Prop := frameBackRow.holds Try.pinned (OpenSpec.ofChange frameBackSpec)

/-- ITS FALSE NEIGHBOUR: 'it returns false'. Refute it at one input. -/
def frameBackWrong : ChangeSpec := { name := "frameBack", fn := fun _ => fun
  | [d1, d2, d3] => { results := [.lit (.bool false)], args := [d1, d2, d3] }
  | _ => none }
def FrameBackWrongFalsely : Prop := frameBackRow.holds Try.pinned (OpenSpec.ofChange frameBackWrong)

/-- 'affiantlaw19.PacketJoin': WHATEVER THE INPUT: true; the input reads as it did. -/
def packetJoinSpec : ChangeSpec := { name := "packetJoin", fn := fun _ => fun
  | [d] => { results := [.lit (.bool true)], args := [d] }
  | _ => none }
def packetJoinRow : OpenClaim := { program := "ytcakdlfhmdkocaa", sum := "06ff34736512d3cab07676f01dcecea330d4d614fe54fec031c10bb6be17285d", func := "affiant/affiantlaw19.PacketJoin", spec := "packetJoin", apart := false }
def PacketJoinSaid : Prop := packetJoinRow.holds Try.pinned (OpenSpec.ofChange packetJoinSpec)

/-- ITS FALSE NEIGHBOUR: 'it returns false'. Refute it at one input. -/
def packetJoinWrong : ChangeSpec := { name := "packetJoin", fn := fun _ => fun
  | [d] => { results := [.lit (.bool false)], args := [d] }
  | _ => none }
def PacketJoinWrongFalsely : Prop := packetJoinRow.holds Try.pinned (OpenSpec.ofChange packetJoinWrong)

/-- 'affiantlaw19.PacketBack': WHATEVER THE INPUT: true; the input reads as it did. -/
def packetBackSpec : ChangeSpec := { name := "packetBack", fn := fun _ => fun
  | [d] => { results := [.lit (.bool true)], args := [d] }
  | _ => none }
def packetBackRow : OpenClaim := { program := "ytcakdlfhmdkocaa", sum := "06ff34736512d3cab07676f01dcecea330d4d614fe54fec031c10bb6be17285d", func := "affiant/affiantlaw19.PacketBack", spec := "packetBack", apart := false }
def PacketBackSaid : Prop := packetBackRow.holds Try.pinned (OpenSpec.ofChange packetBackSpec)

/-- ITS FALSE NEIGHBOUR: 'it returns false'. Refute it at one input. -/
def packetBackWrong : ChangeSpec := { name := "packetBack", fn := fun _ => fun
  | [d] => { results := [.lit (.bool false)], args := [d] }
  | _ => none }
def PacketBackWrongFalsely : Prop := packetBackRow.holds Try.pinned (OpenSpec.ofChange packetBackWrong)

/-- 'affiantlaw19.PacketForms': WHATEVER THE INPUT: true; the input reads as it did. -/
def packetFormsSpec : ChangeSpec := { name := "packetForms", fn := fun _ => fun
  | [d1, d2] => { results := [.lit (.bool true)], args := [d1, d2] }
  | _ => none }
def packetFormsRow : OpenClaim := { program := "ytcakdlfhmdkocaa", sum := "06ff34736512d3cab07676f01dcecea330d4d614fe54fec031c10bb6be17285d", func := "affiant/affiantlaw19.PacketForms", spec := "packetForms", apart := false }
def PacketFormsSaid : Prop := packetFormsRow.holds Try.pinned (OpenSpec.ofChange packetFormsSpec)

/-- ITS FALSE NEIGHBOUR: 'it returns false'. Refute it at one input. -/
def packetFormsWrong : ChangeSpec := { name := "packetForms", fn := fun _ => fun
  | [d1, d2] => { results := [.lit (.bool false)], args := [d1, d2] }
  | _ => none }
def PacketFormsWrongFalsely : Prop := packetFormsRow.holds Try.pinned (OpenSpec.ofChange packetFormsWrong)

/- THE SECOND FORM. 'bulk': how many values and letters a reading holds, each counted each time it is reached (what is shared counts as often as it is met; a slice's spare places count too). A statement '..UptoSaid' is the law's where the arguments, and the package variables that the reading takes, are together of bulk at most 1048576: NARROWER than '..Said'. Prove '..Said' where nothing that the law and all that it calls make is longer than what came in: it says more and counts as full. Else prove '..UptoSaid'. A law counts once. -/
mutual
def uptoBulk {H : Type} : DataW H → Nat
  | .lit (.string bytes) => bytes.length + 1
  | .lit _ => 1
  | .nil => 1
  | .ptr d => uptoBulk d + 1
  | .slice elems spare => uptoBulkAll elems + uptoBulkAll spare + 1
  | .agg parts => uptoBulkAll parts + 1
  | .iface _ d => uptoBulk d + 1
  | .map entries => uptoBulkEntries entries + 1
  | .held _ => 1
def uptoBulkAll {H : Type} : List (DataW H) → Nat
  | [] => 0
  | d :: r => uptoBulk d + uptoBulkAll r
def uptoBulkEntries {H : Type} : List (Lit × DataW H) → Nat
  | [] => 0
  | x :: r => uptoBulkEntry x + uptoBulkEntries r
def uptoBulkEntry {H : Type} : Lit × DataW H → Nat
  | (.string bytes, d) => bytes.length + uptoBulk d + 1
  | (_, d) => uptoBulk d + 1
 end
def uptoSmall : (H : Type) → List (DataW H) → Bool := fun _ ds => decide (uptoBulkAll ds ≤ 1048576)
def OpenSpec.upto (s : _root_.Go.ChangeSpec) : _root_.Go.OpenSpec := { _root_.Go.OpenSpec.ofChange s with cond := some uptoSmall }

/-- 'affiantlaw20.MpiPut', WHERE WHAT IT READS IS OF BULK AT MOST 1048576: true; the input reads as it did. -/
def mpiPutUptoRow : OpenClaim := { program := "ytcakdlfhmdkocaa", sum := "06ff34736512d3cab07676f01dcecea330d4d614fe54fec031c10bb6be17285d", func := "affiant/affiantlaw20.MpiPut", spec := "mpiPut", unfollowed := true, recurses := true, apart := false, narrowed := true }
def MpiPutUptoSaid : Prop := mpiPutUptoRow.holds Try.pinned (OpenSpec.upto mpiPutSpec)

/-- 'affiantlaw20.MpiOnly', WHERE WHAT IT READS IS OF BULK AT MOST 1048576: true; the input reads as it did. -/
def mpiOnlyUptoRow : OpenClaim := { program := "ytcakdlfhmdkocaa", sum := "06ff34736512d3cab07676f01dcecea330d4d614fe54fec031c10bb6be17285d", func := "affiant/affiantlaw20.MpiOnly", spec := "mpiOnly", unfollowed := true, recurses := true, apart := false, narrowed := true }
def MpiOnlyUptoSaid : Prop := mpiOnlyUptoRow.holds Try.pinned (OpenSpec.upto mpiOnlySpec)

/-- 'affiantlaw18.FrameHead', WHERE WHAT IT READS IS OF BULK AT MOST 1048576: true; the input reads as it did. -/
def frameHeadUptoRow : OpenClaim := { program := "ytcakdlfhmdkocaa", sum := "06ff34736512d3cab07676f01dcecea330d4d614fe54fec031c10bb6be17285d", func := "affiant/affiantlaw18.FrameHead", spec := "frameHead", apart := false, narrowed := true }
def FrameHeadUptoSaid : Prop := frameHeadUptoRow.holds Try.pinned (OpenSpec.upto frameHeadSpec)

/-- 'affiantlaw18.FrameLong', WHERE WHAT IT READS IS OF BULK AT MOST 1048576: true; the input reads as it did. -/
def frameLongUptoRow : OpenClaim := { program := "ytcakdlfhmdkocaa", sum := "06ff34736512d3cab07676f01dcecea330d4d614fe54fec031c10bb6be17285d", func := "affiant/affiantlaw18.FrameLong", spec := "frameLong", apart := false, narrowed := true }
def FrameLongUptoSaid : Prop := frameLongUptoRow.holds Try.pinned (OpenSpec.upto frameLongSpec)

/-- 'affiantlaw20.MpiTake', WHERE WHAT IT READS IS OF BULK AT MOST 1048576: true; the input reads as it did. -/
def mpiTakeUptoRow : OpenClaim := { program := "ytcakdlfhmdkocaa", sum := "06ff34736512d3cab07676f01dcecea330d4d614fe54fec031c10bb6be17285d", func := "affiant/affiantlaw20.MpiTake", spec := "mpiTake", unfollowed := true, recurses := true, apart := false, narrowed := true }
def MpiTakeUptoSaid : Prop := mpiTakeUptoRow.holds Try.pinned (OpenSpec.upto mpiTakeSpec)

/-- 'affiantlaw20.MpiBack', WHERE WHAT IT READS IS OF BULK AT MOST 1048576: true; the input reads as it did. -/
def mpiBackUptoRow : OpenClaim := { program := "ytcakdlfhmdkocaa", sum := "06ff34736512d3cab07676f01dcecea330d4d614fe54fec031c10bb6be17285d", func := "affiant/affiantlaw20.MpiBack", spec := "mpiBack", unfollowed := true, recurses := true, apart := false, narrowed := true }
def MpiBackUptoSaid : Prop := mpiBackUptoRow.holds Try.pinned (OpenSpec.upto mpiBackSpec)

/-- 'affiantlaw18.FrameParts', WHERE WHAT IT READS IS OF BULK AT MOST 1048576: true; the input reads as it did. -/
def framePartsUptoRow : OpenClaim := { program := "ytcakdlfhmdkocaa", sum := "06ff34736512d3cab07676f01dcecea330d4d614fe54fec031c10bb6be17285d", func := "affiant/affiantlaw18.FrameParts", spec := "frameParts", apart := false, narrowed := true }
def FramePartsUptoSaid : Prop := framePartsUptoRow.holds Try.pinned (OpenSpec.upto framePartsSpec)

/-- 'affiantlaw18.FrameBack', WHERE WHAT IT READS IS OF BULK AT MOST 1048576: true; the input reads as it did. -/
def frameBackUptoRow : OpenClaim := { program := "ytcakdlfhmdkocaa", sum := "06ff34736512d3cab07676f01dcecea330d4d614fe54fec031c10bb6be17285d", func := "affiant/affiantlaw18.FrameBack", spec := "frameBack", apart := false, narrowed := true }
def FrameBackUptoSaid : Prop := frameBackUptoRow.holds Try.pinned (OpenSpec.upto frameBackSpec)

/-- 'affiantlaw19.PacketJoin', WHERE WHAT IT READS IS OF BULK AT MOST 1048576: true; the input reads as it did. -/
def packetJoinUptoRow : OpenClaim := { program := "ytcakdlfhmdkocaa", sum := "06ff34736512d3cab07676f01dcecea330d4d614fe54fec031c10bb6be17285d", func := "affiant/affiantlaw19.PacketJoin", spec := "packetJoin", apart := false, narrowed := true }
def PacketJoinUptoSaid : Prop := packetJoinUptoRow.holds Try.pinned (OpenSpec.upto packetJoinSpec)

/-- 'affiantlaw19.PacketBack', WHERE WHAT IT READS IS OF BULK AT MOST 1048576: true; the input reads as it did. -/
def packetBackUptoRow : OpenClaim := { program := "ytcakdlfhmdkocaa", sum := "06ff34736512d3cab07676f01dcecea330d4d614fe54fec031c10bb6be17285d", func := "affiant/affiantlaw19.PacketBack", spec := "packetBack", apart := false, narrowed := true }
def PacketBackUptoSaid : Prop := packetBackUptoRow.holds Try.pinned (OpenSpec.upto packetBackSpec)

/-- 'affiantlaw19.PacketForms', WHERE WHAT IT READS IS OF BULK AT MOST 1048576: true; the input reads as it did. -/
def packetFormsUptoRow : OpenClaim := { program := "ytcakdlfhmdkocaa", sum := "06ff34736512d3cab07676f01dcecea330d4d614fe54fec031c10bb6be17285d", func := "affiant/affiantlaw19.PacketForms", spec := "packetForms", apart := false, narrowed := true }
def PacketFormsUptoSaid : Prop := packetFormsUptoRow.holds Try.pinned (OpenSpec.upto packetFormsSpec)

end Rows
end Go.Proofs.Ytcakdlfhmdkocaa
