/-
  No cell of these rows narrows 'for every input' (looked for: loops, veiled, ifaces, maps, wideKeys, modest, calm, conditions, laid).
  DERIVED. THE GIVEN ROWS OF THIS SEAT. 4 by the template 'for every input the law returns true; each argument reads behind the call as it read before'; 0 by the template 'total and deterministic' (their statements: YtjbnoamoadaknaaTotals.lean).
  GIVEN WITH THE SEED: the statements are not yours to turn. If you find one false, say at which input.
  Laid BY PROGRAM, IN A SANDBOX (cutbox-rows.mjs): the forced cells as the released guide's own fill.sh prints them over the translation 09413a4976193994… (all of the seat's roots in one cut). By AI agents, Wed Nov 11 2026. No macro, syntax, notation, axiom, sorry.
-/
import Derived.Test.YtjbnoamoadaknaaChecked
import GoSem.Claim
import GoSem.ClaimJoined
import GoSem.ClaimMapViews
import Derived.JoinedTies
import Derived.KernelRfl
namespace Go.Proofs.Ytjbnoamoadaknaa
/- THE CELL 'sum', in the pinned program and in every row, IS THE sha256 OF THE DUMP (.gsa) THAT YtjbnoamoadaknaaProg.lean LOADS. Nothing in Lean hashes anything: it is a label: what it is worth is what the hold of that sum in a sandbox is worth. -/
noncomputable def Try.pinned : Pinned := { name := "ytjbnoamoadaknaa", sum := "09413a49761939946c8be5836afb1f1e05c0bb68c31db70819bdc9863e74fa83", checked := Try.checked }
namespace Rows
def none {H : Type} : Left H := { results := [], args := [] }

/-- 'affiantlaw22.SigOnly': WHATEVER THE INPUT: true; the input reads as it did. -/
def sigOnlySpec : ChangeSpec := { name := "sigOnly", fn := fun _ => fun
  | [d] => { results := [.lit (.bool true)], args := [d] }
  | _ => none }
def sigOnlyRow : OpenClaim := { program := "ytjbnoamoadaknaa", sum := "09413a49761939946c8be5836afb1f1e05c0bb68c31db70819bdc9863e74fa83", func := "affiant/affiantlaw22.SigOnly", spec := "sigOnly", unfollowed := true, recurses := true, apart := false }
def SigOnlySaid : Prop := sigOnlyRow.holds Try.pinned (OpenSpec.ofChange sigOnlySpec)

/-- ITS FALSE NEIGHBOUR: 'it returns false'. Refute it at one input. -/
def sigOnlyWrong : ChangeSpec := { name := "sigOnly", fn := fun _ => fun
  | [d] => { results := [.lit (.bool false)], args := [d] }
  | _ => none }
def SigOnlyWrongFalsely : Prop := sigOnlyRow.holds Try.pinned (OpenSpec.ofChange sigOnlyWrong)

/-- 'affiantlaw22.SigEmit': WHATEVER THE INPUT: true; the input reads as it did. -/
def sigEmitSpec : ChangeSpec := { name := "sigEmit", fn := fun _ => fun
  | [d1, d2] => { results := [.lit (.bool true)], args := [d1, d2] }
  | _ => none }
def sigEmitRow : OpenClaim := { program := "ytjbnoamoadaknaa", sum := "09413a49761939946c8be5836afb1f1e05c0bb68c31db70819bdc9863e74fa83", func := "affiant/affiantlaw22.SigEmit", spec := "sigEmit", unfollowed := true, recurses := true, apart := false }
def SigEmitSaid : Prop := sigEmitRow.holds Try.pinned (OpenSpec.ofChange sigEmitSpec)

/-- ITS FALSE NEIGHBOUR: 'it returns false'. Refute it at one input. -/
def sigEmitWrong : ChangeSpec := { name := "sigEmit", fn := fun _ => fun
  | [d1, d2] => { results := [.lit (.bool false)], args := [d1, d2] }
  | _ => none }
def SigEmitWrongFalsely : Prop := sigEmitRow.holds Try.pinned (OpenSpec.ofChange sigEmitWrong)

/-- 'affiantlaw22.SigBack': WHATEVER THE INPUT: true; the input reads as it did. -/
def sigBackSpec : ChangeSpec := { name := "sigBack", fn := fun _ => fun
  | [d] => { results := [.lit (.bool true)], args := [d] }
  | _ => none }
def sigBackRow : OpenClaim := { program := "ytjbnoamoadaknaa", sum := "09413a49761939946c8be5836afb1f1e05c0bb68c31db70819bdc9863e74fa83", func := "affiant/affiantlaw22.SigBack", spec := "sigBack", unfollowed := true, recurses := true, apart := false }
def SigBackSaid : Prop := sigBackRow.holds Try.pinned (OpenSpec.ofChange sigBackSpec)

/-- ITS FALSE NEIGHBOUR: 'it returns false'. Refute it at one input. -/
def sigBackWrong : ChangeSpec := { name := "sigBack", fn := fun _ => fun
  | [d] => { results := [.lit (.bool false)], args := [d] }
  | _ => none }
def SigBackWrongFalsely : Prop := sigBackRow.holds Try.pinned (OpenSpec.ofChange sigBackWrong)

/-- 'affiantlaw22.SigTold': WHATEVER THE INPUT: true; the input reads as it did. -/
def sigToldSpec : ChangeSpec := { name := "sigTold", fn := fun _ => fun
  | [d] => { results := [.lit (.bool true)], args := [d] }
  | _ => none }
def sigToldRow : OpenClaim := { program := "ytjbnoamoadaknaa", sum := "09413a49761939946c8be5836afb1f1e05c0bb68c31db70819bdc9863e74fa83", func := "affiant/affiantlaw22.SigTold", spec := "sigTold", unfollowed := true, recurses := true, apart := false }
def SigToldSaid : Prop := sigToldRow.holds Try.pinned (OpenSpec.ofChange sigToldSpec)

/-- ITS FALSE NEIGHBOUR: 'it returns false'. Refute it at one input. -/
def sigToldWrong : ChangeSpec := { name := "sigTold", fn := fun _ => fun
  | [d] => { results := [.lit (.bool false)], args := [d] }
  | _ => none }
def SigToldWrongFalsely : Prop := sigToldRow.holds Try.pinned (OpenSpec.ofChange sigToldWrong)

/- THE SECOND FORM. 'bulk': how many values and letters a reading holds, each counted each time it is reached (what is shared counts as often as it is met; a slice's spare places count too). A statement '..UptoSaid' is the law's where the arguments, and the package variables that the reading takes, are together of bulk at most 1048576: NARROWER than '..Said'. Prove '..Said' where nothing that the law and all that it calls make is longer than what came in: it says more and counts as full. Else prove '..UptoSaid'. A law counts once. -/
mutual
def uptoBulk {H : Type} : DataW H → Nat
  | .lit (.string bytes) => bytes.length + 1
  | .lit _ => 1
  | .nil => 1
  | .ptr d => uptoBulk d + 1
  | .slice elems spare => uptoBulkAll elems + uptoBulkAll spare + 1
  | .agg parts => uptoBulkAll parts + 1
  | .iface _ d => uptoBulk d + 1
  | .map entries => uptoBulkEntries entries + 1
  | .held _ => 1
def uptoBulkAll {H : Type} : List (DataW H) → Nat
  | [] => 0
  | d :: r => uptoBulk d + uptoBulkAll r
def uptoBulkEntries {H : Type} : List (Lit × DataW H) → Nat
  | [] => 0
  | x :: r => uptoBulkEntry x + uptoBulkEntries r
def uptoBulkEntry {H : Type} : Lit × DataW H → Nat
  | (.string bytes, d) => bytes.length + uptoBulk d + 1
  | (_, d) => uptoBulk d + 1
 end
def uptoSmall : (H : Type) → List (DataW H) → Bool := fun _ ds => decide (uptoBulkAll ds ≤ 1048576)
def OpenSpec.upto (s : _root_.Go.ChangeSpec) : _root_.Go.OpenSpec := { _root_.Go.OpenSpec.ofChange s with cond := some uptoSmall }

/-- 'affiantlaw22.SigOnly', WHERE WHAT IT READS IS OF BULK AT MOST 1048576: true; the input reads as it did. -/
def sigOnlyUptoRow : OpenClaim := { program := "ytjbnoamoadaknaa", sum := "09413a49761939946c8be5836afb1f1e05c0bb68c31db70819bdc9863e74fa83", func := "affiant/affiantlaw22.SigOnly", spec := "sigOnly", unfollowed := true, recurses := true, apart := false, narrowed := true }
def SigOnlyUptoSaid : Prop := sigOnlyUptoRow.holds Try.pinned (OpenSpec.upto sigOnlySpec)

/-- 'affiantlaw22.SigEmit', WHERE WHAT IT READS IS OF BULK AT MOST 1048576: true; the input reads as it did. -/
def sigEmitUptoRow : OpenClaim := { program := "ytjbnoamoadaknaa", sum := "09413a49761939946c8be5836afb1f1e05c0bb68c31db70819bdc9863e74fa83", func := "affiant/affiantlaw22.SigEmit", spec := "sigEmit", unfollowed := true, recurses := true, apart := false, narrowed := true }
def SigEmitUptoSaid : Prop := sigEmitUptoRow.holds Try.pinned (OpenSpec.upto sigEmitSpec)

/-- 'affiantlaw22.SigBack', WHERE WHAT IT READS IS OF BULK AT MOST 1048576: true; the input reads as it did. -/
def sigBackUptoRow : OpenClaim := { program := "ytjbnoamoadaknaa", sum := "09413a49761939946c8be5836afb1f1e05c0bb68c31db70819bdc9863e74fa83", func := "affiant/affiantlaw22.SigBack", spec := "sigBack", unfollowed := true, recurses := true, apart := false, narrowed := true }
def SigBackUptoSaid : Prop := sigBackUptoRow.holds Try.pinned (OpenSpec.upto sigBackSpec)

/-- 'affiantlaw22.SigTold', WHERE WHAT IT READS IS OF BULK AT MOST 1048576: true; the input reads as it did. -/
def sigToldUptoRow : OpenClaim := { program := "ytjbnoamoadaknaa", sum := "09413a49761939946c8be5836afb1f1e05c0bb68c31db70819bdc9863e74fa83", func := "affiant/affiantlaw22.SigTold", spec := "sigTold", unfollowed := true, recurses := true, apart := false, narrowed := true }
def SigToldUptoSaid : Prop := sigToldUptoRow.holds Try.pinned (OpenSpec.upto sigToldSpec)

end Rows
end Go.Proofs.Ytjbnoamoadaknaa
