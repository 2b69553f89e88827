/-
  No cell of these rows narrows 'for every input' (looked for: loops, veiled, ifaces, maps, wideKeys, modest, calm, conditions, laid).
  DERIVED. THE GIVEN ROWS OF THIS SEAT. 9 by the template 'for every input the law returns true; each argument reads behind the call as it read before'; 0 by the template 'total and deterministic' (their statements: YtegbncngencfnaaTotals.lean).
  GIVEN WITH THE SEED: the statements are not yours to turn. If you find one false, say at which input.
  Laid BY PROGRAM, IN A SANDBOX (cutbox-rows.mjs): the forced cells as the released guide's own fill.sh prints them over the translation b267aa14d33af0b6… (all of the seat's roots in one cut). By AI agents, Wed Nov 11 2026. No macro, syntax, notation, axiom, sorry.
-/
import Derived.Test.YtegbncngencfnaaChecked
import GoSem.Claim
import GoSem.ClaimJoined
import GoSem.ClaimMapViews
import Derived.JoinedTies
import Derived.KernelRfl
namespace Go.Proofs.Ytegbncngencfnaa
/- THE CELL 'sum', in the pinned program and in every row, IS THE sha256 OF THE DUMP (.gsa) THAT YtegbncngencfnaaProg.lean LOADS. Nothing in Lean hashes anything: it is a label: what it is worth is what the hold of that sum in a sandbox is worth. -/
noncomputable def Try.pinned : Pinned := { name := "ytegbncngencfnaa", sum := "b267aa14d33af0b6a0f92f6bd89f16a39080411c266fa1e8a5bf96c22daeaa77", checked := Try.checked }
namespace Rows
def none {H : Type} : Left H := { results := [], args := [] }

/-- 'affiantlaw21.SubpktParse': WHATEVER THE INPUT: true; the input reads as it did. -/
def subpktParseSpec : ChangeSpec := { name := "subpktParse", fn := fun _ => fun
  | [d] => { results := [.lit (.bool true)], args := [d] }
  | _ => none }
def subpktParseRow : OpenClaim := { program := "ytegbncngencfnaa", sum := "b267aa14d33af0b6a0f92f6bd89f16a39080411c266fa1e8a5bf96c22daeaa77", func := "affiant/affiantlaw21.SubpktParse", spec := "subpktParse", apart := false }
def SubpktParseSaid : Prop := subpktParseRow.holds Try.pinned (OpenSpec.ofChange subpktParseSpec)

/-- ITS FALSE NEIGHBOUR: 'it returns false'. Refute it at one input. -/
def subpktParseWrong : ChangeSpec := { name := "subpktParse", fn := fun _ => fun
  | [d] => { results := [.lit (.bool false)], args := [d] }
  | _ => none }
def SubpktParseWrongFalsely : Prop := subpktParseRow.holds Try.pinned (OpenSpec.ofChange subpktParseWrong)

/-- 'affiantlaw21.SubpktBack': WHATEVER THE INPUT: true; the input reads as it did. -/
def subpktBackSpec : ChangeSpec := { name := "subpktBack", fn := fun _ => fun
  | [d] => { results := [.lit (.bool true)], args := [d] }
  | _ => none }
def subpktBackRow : OpenClaim := { program := "ytegbncngencfnaa", sum := "b267aa14d33af0b6a0f92f6bd89f16a39080411c266fa1e8a5bf96c22daeaa77", func := "affiant/affiantlaw21.SubpktBack", spec := "subpktBack", apart := false }
def SubpktBackSaid : Prop := subpktBackRow.holds Try.pinned (OpenSpec.ofChange subpktBackSpec)

/-- ITS FALSE NEIGHBOUR: 'it returns false'. Refute it at one input. -/
def subpktBackWrong : ChangeSpec := { name := "subpktBack", fn := fun _ => fun
  | [d] => { results := [.lit (.bool false)], args := [d] }
  | _ => none }
def SubpktBackWrongFalsely : Prop := subpktBackRow.holds Try.pinned (OpenSpec.ofChange subpktBackWrong)

/-- 'affiantlaw24.LiteralParse': WHATEVER THE INPUT: true; the input reads as it did. -/
def literalParseSpec : ChangeSpec := { name := "literalParse", fn := fun _ => fun
  | [d] => { results := [.lit (.bool true)], args := [d] }
  | _ => none }
def literalParseRow : OpenClaim := { program := "ytegbncngencfnaa", sum := "b267aa14d33af0b6a0f92f6bd89f16a39080411c266fa1e8a5bf96c22daeaa77", func := "affiant/affiantlaw24.LiteralParse", spec := "literalParse", apart := false }
def LiteralParseSaid : Prop := literalParseRow.holds Try.pinned (OpenSpec.ofChange literalParseSpec)

/-- ITS FALSE NEIGHBOUR: 'it returns false'. Refute it at one input. -/
def literalParseWrong : ChangeSpec := { name := "literalParse", fn := fun _ => fun
  | [d] => { results := [.lit (.bool false)], args := [d] }
  | _ => none }
def LiteralParseWrongFalsely : Prop := literalParseRow.holds Try.pinned (OpenSpec.ofChange literalParseWrong)

/-- 'affiantlaw24.LiteralEmit': WHATEVER THE INPUT: true; the input reads as it did. -/
def literalEmitSpec : ChangeSpec := { name := "literalEmit", fn := fun _ => fun
  | [d] => { results := [.lit (.bool true)], args := [d] }
  | _ => none }
def literalEmitRow : OpenClaim := { program := "ytegbncngencfnaa", sum := "b267aa14d33af0b6a0f92f6bd89f16a39080411c266fa1e8a5bf96c22daeaa77", func := "affiant/affiantlaw24.LiteralEmit", spec := "literalEmit", apart := false }
def LiteralEmitSaid : Prop := literalEmitRow.holds Try.pinned (OpenSpec.ofChange literalEmitSpec)

/-- ITS FALSE NEIGHBOUR: 'it returns false'. Refute it at one input. -/
def literalEmitWrong : ChangeSpec := { name := "literalEmit", fn := fun _ => fun
  | [d] => { results := [.lit (.bool false)], args := [d] }
  | _ => none }
def LiteralEmitWrongFalsely : Prop := literalEmitRow.holds Try.pinned (OpenSpec.ofChange literalEmitWrong)

/-- 'affiantlaw21.SubpktTold': WHATEVER THE INPUT: true; the input reads as it did. -/
def subpktToldSpec : ChangeSpec := { name := "subpktTold", fn := fun _ => fun
  | [d1, d2] => { results := [.lit (.bool true)], args := [d1, d2] }
  | _ => none }
def subpktToldRow : OpenClaim := { program := "ytegbncngencfnaa", sum := "b267aa14d33af0b6a0f92f6bd89f16a39080411c266fa1e8a5bf96c22daeaa77", func := "affiant/affiantlaw21.SubpktTold", spec := "subpktTold", apart := false }
def SubpktToldSaid : Prop := subpktToldRow.holds Try.pinned (OpenSpec.ofChange subpktToldSpec)

/-- ITS FALSE NEIGHBOUR: 'it returns false'. Refute it at one input. -/
def subpktToldWrong : ChangeSpec := { name := "subpktTold", fn := fun _ => fun
  | [d1, d2] => { results := [.lit (.bool false)], args := [d1, d2] }
  | _ => none }
def SubpktToldWrongFalsely : Prop := subpktToldRow.holds Try.pinned (OpenSpec.ofChange subpktToldWrong)

/-- 'affiantlaw24.LiteralBack': WHATEVER THE INPUT: true; the input reads as it did. -/
def literalBackSpec : ChangeSpec := { name := "literalBack", fn := fun _ => fun
  | [d1, d2] => { results := [.lit (.bool true)], args := [d1, d2] }
  | _ => none }
def literalBackRow : OpenClaim := { program := "ytegbncngencfnaa", sum := "b267aa14d33af0b6a0f92f6bd89f16a39080411c266fa1e8a5bf96c22daeaa77", func := "affiant/affiantlaw24.LiteralBack", spec := "literalBack", apart := false }
def LiteralBackSaid : Prop := literalBackRow.holds Try.pinned (OpenSpec.ofChange literalBackSpec)

/-- ITS FALSE NEIGHBOUR: 'it returns false'. Refute it at one input. -/
def literalBackWrong : ChangeSpec := { name := "literalBack", fn := fun _ => fun
  | [d1, d2] => { results := [.lit (.bool false)], args := [d1, d2] }
  | _ => none }
def LiteralBackWrongFalsely : Prop := literalBackRow.holds Try.pinned (OpenSpec.ofChange literalBackWrong)

/-- 'affiantlaw24.LiteralOnly': WHATEVER THE INPUT: true; the input reads as it did. -/
def literalOnlySpec : ChangeSpec := { name := "literalOnly", fn := fun _ => fun
  | [d] => { results := [.lit (.bool true)], args := [d] }
  | _ => none }
def literalOnlyRow : OpenClaim := { program := "ytegbncngencfnaa", sum := "b267aa14d33af0b6a0f92f6bd89f16a39080411c266fa1e8a5bf96c22daeaa77", func := "affiant/affiantlaw24.LiteralOnly", spec := "literalOnly", apart := false }
def LiteralOnlySaid : Prop := literalOnlyRow.holds Try.pinned (OpenSpec.ofChange literalOnlySpec)

/-- ITS FALSE NEIGHBOUR: 'it returns false'. Refute it at one input. -/
def literalOnlyWrong : ChangeSpec := { name := "literalOnly", fn := fun _ => fun
  | [d] => { results := [.lit (.bool false)], args := [d] }
  | _ => none }
def LiteralOnlyWrongFalsely : Prop := literalOnlyRow.holds Try.pinned (OpenSpec.ofChange literalOnlyWrong)

/-- 'affiantlaw21.SubpktEmit': WHATEVER THE INPUT: true; the input reads as it did. -/
def subpktEmitSpec : ChangeSpec := { name := "subpktEmit", fn := fun _ => fun
  | [d] => { results := [.lit (.bool true)], args := [d] }
  | _ => none }
def subpktEmitRow : OpenClaim := { program := "ytegbncngencfnaa", sum := "b267aa14d33af0b6a0f92f6bd89f16a39080411c266fa1e8a5bf96c22daeaa77", func := "affiant/affiantlaw21.SubpktEmit", spec := "subpktEmit", apart := false }
def SubpktEmitSaid : Prop := subpktEmitRow.holds Try.pinned (OpenSpec.ofChange subpktEmitSpec)

/-- ITS FALSE NEIGHBOUR: 'it returns false'. Refute it at one input. -/
def subpktEmitWrong : ChangeSpec := { name := "subpktEmit", fn := fun _ => fun
  | [d] => { results := [.lit (.bool false)], args := [d] }
  | _ => none }
def SubpktEmitWrongFalsely : Prop := subpktEmitRow.holds Try.pinned (OpenSpec.ofChange subpktEmitWrong)

/-- 'affiantlaw24.LiteralPass': WHATEVER THE INPUT: true; the input reads as it did. -/
def literalPassSpec : ChangeSpec := { name := "literalPass", fn := fun _ => fun
  | [d1, d2, d3] => { results := [.lit (.bool true)], args := [d1, d2, d3] }
  | _ => none }
def literalPassRow : OpenClaim := { program := "ytegbncngencfnaa", sum := "b267aa14d33af0b6a0f92f6bd89f16a39080411c266fa1e8a5bf96c22daeaa77", func := "affiant/affiantlaw24.LiteralPass", spec := "literalPass", apart := false }
def LiteralPassSaid : Prop := literalPassRow.holds Try.pinned (OpenSpec.ofChange literalPassSpec)

/-- ITS FALSE NEIGHBOUR: 'it returns false'. Refute it at one input. -/
def literalPassWrong : ChangeSpec := { name := "literalPass", fn := fun _ => fun
  | [d1, d2, d3] => { results := [.lit (.bool false)], args := [d1, d2, d3] }
  | _ => none }
def LiteralPassWrongFalsely : Prop := literalPassRow.holds Try.pinned (OpenSpec.ofChange literalPassWrong)

/- THE SECOND FORM. 'bulk': how many values and letters a reading holds, each counted each time it is reached (what is shared counts as often as it is met; a slice's spare places count too). A statement '..UptoSaid' is the law's where the arguments, and the package variables that the reading takes, are together of bulk at most 1048576: NARROWER than '..Said'. Prove '..Said' where nothing that the law and all that it calls make is longer than what came in: it says more and counts as full. Else prove '..UptoSaid'. A law counts once. -/
mutual
def uptoBulk {H : Type} : DataW H → Nat
  | .lit (.string bytes) => bytes.length + 1
  | .lit _ => 1
  | .nil => 1
  | .ptr d => uptoBulk d + 1
  | .slice elems spare => uptoBulkAll elems + uptoBulkAll spare + 1
  | .agg parts => uptoBulkAll parts + 1
  | .iface _ d => uptoBulk d + 1
  | .map entries => uptoBulkEntries entries + 1
  | .held _ => 1
def uptoBulkAll {H : Type} : List (DataW H) → Nat
  | [] => 0
  | d :: r => uptoBulk d + uptoBulkAll r
def uptoBulkEntries {H : Type} : List (Lit × DataW H) → Nat
  | [] => 0
  | x :: r => uptoBulkEntry x + uptoBulkEntries r
def uptoBulkEntry {H : Type} : Lit × DataW H → Nat
  | (.string bytes, d) => bytes.length + uptoBulk d + 1
  | (_, d) => uptoBulk d + 1
 end
def uptoSmall : (H : Type) → List (DataW H) → Bool := fun _ ds => decide (uptoBulkAll ds ≤ 1048576)
def OpenSpec.upto (s : _root_.Go.ChangeSpec) : _root_.Go.OpenSpec := { _root_.Go.OpenSpec.ofChange s with cond := some uptoSmall }

/-- 'affiantlaw21.SubpktParse', WHERE WHAT IT READS IS OF BULK AT MOST 1048576: true; the input reads as it did. -/
def subpktParseUptoRow : OpenClaim := { program := "ytegbncngencfnaa", sum := "b267aa14d33af0b6a0f92f6bd89f16a39080411c266fa1e8a5bf96c22daeaa77", func := "affiant/affiantlaw21.SubpktParse", spec := "subpktParse", apart := false, narrowed := true }
def SubpktParseUptoSaid : Prop := subpktParseUptoRow.holds Try.pinned (OpenSpec.upto subpktParseSpec)

/-- 'affiantlaw21.SubpktBack', WHERE WHAT IT READS IS OF BULK AT MOST 1048576: true; the input reads as it did. -/
def subpktBackUptoRow : OpenClaim := { program := "ytegbncngencfnaa", sum := "b267aa14d33af0b6a0f92f6bd89f16a39080411c266fa1e8a5bf96c22daeaa77", func := "affiant/affiantlaw21.SubpktBack", spec := "subpktBack", apart := false, narrowed := true }
def SubpktBackUptoSaid : Prop := subpktBackUptoRow.holds Try.pinned (OpenSpec.upto subpktBackSpec)

/-- 'affiantlaw24.LiteralParse', WHERE WHAT IT READS IS OF BULK AT MOST 1048576: true; the input reads as it did. -/
def literalParseUptoRow : OpenClaim := { program := "ytegbncngencfnaa", sum := "b267aa14d33af0b6a0f92f6bd89f16a39080411c266fa1e8a5bf96c22daeaa77", func := "affiant/affiantlaw24.LiteralParse", spec := "literalParse", apart := false, narrowed := true }
def LiteralParseUptoSaid : Prop := literalParseUptoRow.holds Try.pinned (OpenSpec.upto literalParseSpec)

/-- 'affiantlaw24.LiteralEmit', WHERE WHAT IT READS IS OF BULK AT MOST 1048576: true; the input reads as it did. -/
def literalEmitUptoRow : OpenClaim := { program := "ytegbncngencfnaa", sum := "b267aa14d33af0b6a0f92f6bd89f16a39080411c266fa1e8a5bf96c22daeaa77", func := "affiant/affiantlaw24.LiteralEmit", spec := "literalEmit", apart := false, narrowed := true }
def LiteralEmitUptoSaid : Prop := literalEmitUptoRow.holds Try.pinned (OpenSpec.upto literalEmitSpec)

/-- 'affiantlaw21.SubpktTold', WHERE WHAT IT READS IS OF BULK AT MOST 1048576: true; the input reads as it did. -/
def subpktToldUptoRow : OpenClaim := { program := "ytegbncngencfnaa", sum := "b267aa14d33af0b6a0f92f6bd89f16a39080411c266fa1e8a5bf96c22daeaa77", func := "affiant/affiantlaw21.SubpktTold", spec := "subpktTold", apart := false, narrowed := true }
def SubpktToldUptoSaid : Prop := subpktToldUptoRow.holds Try.pinned (OpenSpec.upto subpktToldSpec)

/-- 'affiantlaw24.LiteralBack', WHERE WHAT IT READS IS OF BULK AT MOST 1048576: true; the input reads as it did. -/
def literalBackUptoRow : OpenClaim := { program := "ytegbncngencfnaa", sum := "b267aa14d33af0b6a0f92f6bd89f16a39080411c266fa1e8a5bf96c22daeaa77", func := "affiant/affiantlaw24.LiteralBack", spec := "literalBack", apart := false, narrowed := true }
def LiteralBackUptoSaid : Prop := literalBackUptoRow.holds Try.pinned (OpenSpec.upto literalBackSpec)

/-- 'affiantlaw24.LiteralOnly', WHERE WHAT IT READS IS OF BULK AT MOST 1048576: true; the input reads as it did. -/
def literalOnlyUptoRow : OpenClaim := { program := "ytegbncngencfnaa", sum := "b267aa14d33af0b6a0f92f6bd89f16a39080411c266fa1e8a5bf96c22daeaa77", func := "affiant/affiantlaw24.LiteralOnly", spec := "literalOnly", apart := false, narrowed := true }
def LiteralOnlyUptoSaid : Prop := literalOnlyUptoRow.holds Try.pinned (OpenSpec.upto literalOnlySpec)

/-- 'affiantlaw21.SubpktEmit', WHERE WHAT IT READS IS OF BULK AT MOST 1048576: true; the input reads as it did. -/
def subpktEmitUptoRow : OpenClaim := { program := "ytegbncngencfnaa", sum := "b267aa14d33af0b6a0f92f6bd89f16a39080411c266fa1e8a5bf96c22daeaa77", func := "affiant/affiantlaw21.SubpktEmit", spec := "subpktEmit", apart := false, narrowed := true }
def SubpktEmitUptoSaid : Prop := subpktEmitUptoRow.holds Try.pinned (OpenSpec.upto subpktEmitSpec)

/-- 'affiantlaw24.LiteralPass', WHERE WHAT IT READS IS OF BULK AT MOST 1048576: true; the input reads as it did. -/
def literalPassUptoRow : OpenClaim := { program := "ytegbncngencfnaa", sum := "b267aa14d33af0b6a0f92f6bd89f16a39080411c266fa1e8a5bf96c22daeaa77", func := "affiant/affiantlaw24.LiteralPass", spec := "literalPass", apart := false, narrowed := true }
def LiteralPassUptoSaid : Prop := literalPassUptoRow.holds Try.pinned (OpenSpec.upto literalPassSpec)

end Rows
end Go.Proofs.Ytegbncngencfnaa
