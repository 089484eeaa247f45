/-
  No cell of these rows narrows 'for every input' (looked for: loops, veiled, ifaces, maps, wideKeys, modest, calm, conditions, laid).
  DERIVED. THE GIVEN ROWS OF THIS SEAT. 6 by the template 'for every input the law returns true; each argument reads behind the call as it read before'; 0 by the template 'total and deterministic' (their statements: YtljcodkcmenpaaaTotals.lean).
  GIVEN WITH THE SEED: the statements are not yours to turn. If you find one false, say at which input.
  Laid BY PROGRAM, IN A SANDBOX (cutbox-rows.mjs): the forced cells as the released guide's own fill.sh prints them over the translation 9e4d2e3d8324e002… (all of the seat's roots in one cut). By AI agents, Wed Nov 11 2026. No macro, syntax, notation, axiom, sorry.
-/
import Derived.Test.YtljcodkcmenpaaaChecked
import GoSem.Claim
import GoSem.ClaimJoined
import GoSem.ClaimMapViews
import Derived.JoinedTies
import Derived.KernelRfl
namespace Go.Proofs.Ytljcodkcmenpaaa
/- THE CELL 'sum', in the pinned program and in every row, IS THE sha256 OF THE DUMP (.gsa) THAT YtljcodkcmenpaaaProg.lean LOADS. Nothing in Lean hashes anything: it is a label: what it is worth is what the hold of that sum in a sandbox is worth. -/
noncomputable def Try.pinned : Pinned := { name := "ytljcodkcmenpaaa", sum := "9e4d2e3d8324e002b6b77ea9a93c2cbb911b75da051ddaf2c68c222bab922a3f", checked := Try.checked }
namespace Rows
def none {H : Type} : Left H := { results := [], args := [] }

/-- 'egresslaw19.OpEncodes': WHATEVER THE INPUT: true; the input reads as it did. -/
def opEncodesSpec : ChangeSpec := { name := "opEncodes", fn := fun _ => fun
  | [d] => { results := [.lit (.bool true)], args := [d] }
  | _ => none }
def opEncodesRow : OpenClaim := { program := "ytljcodkcmenpaaa", sum := "9e4d2e3d8324e002b6b77ea9a93c2cbb911b75da051ddaf2c68c222bab922a3f", func := "egress/egresslaw19.OpEncodes", spec := "opEncodes", unfollowed := true, recurses := true, apart := false }
def OpEncodesSaid : Prop := opEncodesRow.holds Try.pinned (OpenSpec.ofChange opEncodesSpec)

/-- ITS FALSE NEIGHBOUR: 'it returns false'. Refute it at one input. -/
def opEncodesWrong : ChangeSpec := { name := "opEncodes", fn := fun _ => fun
  | [d] => { results := [.lit (.bool false)], args := [d] }
  | _ => none }
def OpEncodesWrongFalsely : Prop := opEncodesRow.holds Try.pinned (OpenSpec.ofChange opEncodesWrong)

/-- 'egresslaw19.OpDecodes': WHATEVER THE INPUT: true; the input reads as it did. -/
def opDecodesSpec : ChangeSpec := { name := "opDecodes", fn := fun _ => fun
  | [d1, d2] => { results := [.lit (.bool true)], args := [d1, d2] }
  | _ => none }
def opDecodesRow : OpenClaim := { program := "ytljcodkcmenpaaa", sum := "9e4d2e3d8324e002b6b77ea9a93c2cbb911b75da051ddaf2c68c222bab922a3f", func := "egress/egresslaw19.OpDecodes", spec := "opDecodes", unfollowed := true, recurses := true, apart := false }
def OpDecodesSaid : Prop := opDecodesRow.holds Try.pinned (OpenSpec.ofChange opDecodesSpec)

/-- ITS FALSE NEIGHBOUR: 'it returns false'. Refute it at one input. -/
def opDecodesWrong : ChangeSpec := { name := "opDecodes", fn := fun _ => fun
  | [d1, d2] => { results := [.lit (.bool false)], args := [d1, d2] }
  | _ => none }
def OpDecodesWrongFalsely : Prop := opDecodesRow.holds Try.pinned (OpenSpec.ofChange opDecodesWrong)

/-- 'egresslaw19.OpInverse': WHATEVER THE INPUT: true; the input reads as it did. -/
def opInverseSpec : ChangeSpec := { name := "opInverse", fn := fun _ => fun
  | [d1, d2, d3] => { results := [.lit (.bool true)], args := [d1, d2, d3] }
  | _ => none }
def opInverseRow : OpenClaim := { program := "ytljcodkcmenpaaa", sum := "9e4d2e3d8324e002b6b77ea9a93c2cbb911b75da051ddaf2c68c222bab922a3f", func := "egress/egresslaw19.OpInverse", spec := "opInverse", unfollowed := true, recurses := true, apart := false }
def OpInverseSaid : Prop := opInverseRow.holds Try.pinned (OpenSpec.ofChange opInverseSpec)

/-- ITS FALSE NEIGHBOUR: 'it returns false'. Refute it at one input. -/
def opInverseWrong : ChangeSpec := { name := "opInverse", fn := fun _ => fun
  | [d1, d2, d3] => { results := [.lit (.bool false)], args := [d1, d2, d3] }
  | _ => none }
def OpInverseWrongFalsely : Prop := opInverseRow.holds Try.pinned (OpenSpec.ofChange opInverseWrong)

/-- 'egresslaw19.OpValid': WHATEVER THE INPUT: true; the input reads as it did. -/
def opValidSpec : ChangeSpec := { name := "opValid", fn := fun _ => fun
  | [d] => { results := [.lit (.bool true)], args := [d] }
  | _ => none }
def opValidRow : OpenClaim := { program := "ytljcodkcmenpaaa", sum := "9e4d2e3d8324e002b6b77ea9a93c2cbb911b75da051ddaf2c68c222bab922a3f", func := "egress/egresslaw19.OpValid", spec := "opValid", unfollowed := true, recurses := true, apart := false }
def OpValidSaid : Prop := opValidRow.holds Try.pinned (OpenSpec.ofChange opValidSpec)

/-- ITS FALSE NEIGHBOUR: 'it returns false'. Refute it at one input. -/
def opValidWrong : ChangeSpec := { name := "opValid", fn := fun _ => fun
  | [d] => { results := [.lit (.bool false)], args := [d] }
  | _ => none }
def OpValidWrongFalsely : Prop := opValidRow.holds Try.pinned (OpenSpec.ofChange opValidWrong)

/-- 'egresslaw19.OpCuts': WHATEVER THE INPUT: true; the input reads as it did. -/
def opCutsSpec : ChangeSpec := { name := "opCuts", fn := fun _ => fun
  | [d1, d2] => { results := [.lit (.bool true)], args := [d1, d2] }
  | _ => none }
def opCutsRow : OpenClaim := { program := "ytljcodkcmenpaaa", sum := "9e4d2e3d8324e002b6b77ea9a93c2cbb911b75da051ddaf2c68c222bab922a3f", func := "egress/egresslaw19.OpCuts", spec := "opCuts", unfollowed := true, recurses := true, apart := false }
def OpCutsSaid : Prop := opCutsRow.holds Try.pinned (OpenSpec.ofChange opCutsSpec)

/-- ITS FALSE NEIGHBOUR: 'it returns false'. Refute it at one input. -/
def opCutsWrong : ChangeSpec := { name := "opCuts", fn := fun _ => fun
  | [d1, d2] => { results := [.lit (.bool false)], args := [d1, d2] }
  | _ => none }
def OpCutsWrongFalsely : Prop := opCutsRow.holds Try.pinned (OpenSpec.ofChange opCutsWrong)

/-- 'egresslaw19.OpNames': WHATEVER THE INPUT: true; the input reads as it did. -/
def opNamesSpec : ChangeSpec := { name := "opNames", fn := fun _ => fun
  | [d1, d2] => { results := [.lit (.bool true)], args := [d1, d2] }
  | _ => none }
def opNamesRow : OpenClaim := { program := "ytljcodkcmenpaaa", sum := "9e4d2e3d8324e002b6b77ea9a93c2cbb911b75da051ddaf2c68c222bab922a3f", func := "egress/egresslaw19.OpNames", spec := "opNames", unfollowed := true, recurses := true, apart := false }
def OpNamesSaid : Prop := opNamesRow.holds Try.pinned (OpenSpec.ofChange opNamesSpec)

/-- ITS FALSE NEIGHBOUR: 'it returns false'. Refute it at one input. -/
def opNamesWrong : ChangeSpec := { name := "opNames", fn := fun _ => fun
  | [d1, d2] => { results := [.lit (.bool false)], args := [d1, d2] }
  | _ => none }
def OpNamesWrongFalsely : Prop := opNamesRow.holds Try.pinned (OpenSpec.ofChange opNamesWrong)

/- THE SECOND FORM. 'bulk': how many values and letters a reading holds, each counted each time it is reached (what is shared counts as often as it is met; a slice's spare places count too). A statement '..UptoSaid' is the law's where the arguments, and the package variables that the reading takes, are together of bulk at most 1048576: NARROWER than '..Said'. Prove '..Said' where nothing that the law and all that it calls make is longer than what came in: it says more and counts as full. Else prove '..UptoSaid'. A law counts once. -/
mutual
def uptoBulk {H : Type} : DataW H → Nat
  | .lit (.string bytes) => bytes.length + 1
  | .lit _ => 1
  | .nil => 1
  | .ptr d => uptoBulk d + 1
  | .slice elems spare => uptoBulkAll elems + uptoBulkAll spare + 1
  | .agg parts => uptoBulkAll parts + 1
  | .iface _ d => uptoBulk d + 1
  | .map entries => uptoBulkEntries entries + 1
  | .held _ => 1
def uptoBulkAll {H : Type} : List (DataW H) → Nat
  | [] => 0
  | d :: r => uptoBulk d + uptoBulkAll r
def uptoBulkEntries {H : Type} : List (Lit × DataW H) → Nat
  | [] => 0
  | x :: r => uptoBulkEntry x + uptoBulkEntries r
def uptoBulkEntry {H : Type} : Lit × DataW H → Nat
  | (.string bytes, d) => bytes.length + uptoBulk d + 1
  | (_, d) => uptoBulk d + 1
 end
def uptoSmall : (H : Type) → List (DataW H) → Bool := fun _ ds => decide (uptoBulkAll ds ≤ 1048576)
def OpenSpec.upto (s : _root_.Go.ChangeSpec) : _root_.Go.OpenSpec := { _root_.Go.OpenSpec.ofChange s with cond := some uptoSmall }

/-- 'egresslaw19.OpEncodes', WHERE WHAT IT READS IS OF BULK AT MOST 1048576: true; the input reads as it did. -/
def opEncodesUptoRow : OpenClaim := { program := "ytljcodkcmenpaaa", sum := "9e4d2e3d8324e002b6b77ea9a93c2cbb911b75da051ddaf2c68c222bab922a3f", func := "egress/egresslaw19.OpEncodes", spec := "opEncodes", unfollowed := true, recurses := true, apart := false, narrowed := true }
def OpEncodesUptoSaid : Prop := opEncodesUptoRow.holds Try.pinned (OpenSpec.upto opEncodesSpec)

/-- 'egresslaw19.OpDecodes', WHERE WHAT IT READS IS OF BULK AT MOST 1048576: true; the input reads as it did. -/
def opDecodesUptoRow : OpenClaim := { program := "ytljcodkcmenpaaa", sum := "9e4d2e3d8324e002b6b77ea9a93c2cbb911b75da051ddaf2c68c222bab922a3f", func := "egress/egresslaw19.OpDecodes", spec := "opDecodes", unfollowed := true, recurses := true, apart := false, narrowed := true }
def OpDecodesUptoSaid : Prop := opDecodesUptoRow.holds Try.pinned (OpenSpec.upto opDecodesSpec)

/-- 'egresslaw19.OpInverse', WHERE WHAT IT READS IS OF BULK AT MOST 1048576: true; the input reads as it did. -/
def opInverseUptoRow : OpenClaim := { program := "ytljcodkcmenpaaa", sum := "9e4d2e3d8324e002b6b77ea9a93c2cbb911b75da051ddaf2c68c222bab922a3f", func := "egress/egresslaw19.OpInverse", spec := "opInverse", unfollowed := true, recurses := true, apart := false, narrowed := true }
def OpInverseUptoSaid : Prop := opInverseUptoRow.holds Try.pinned (OpenSpec.upto opInverseSpec)

/-- 'egresslaw19.OpValid', WHERE WHAT IT READS IS OF BULK AT MOST 1048576: true; the input reads as it did. -/
def opValidUptoRow : OpenClaim := { program := "ytljcodkcmenpaaa", sum := "9e4d2e3d8324e002b6b77ea9a93c2cbb911b75da051ddaf2c68c222bab922a3f", func := "egress/egresslaw19.OpValid", spec := "opValid", unfollowed := true, recurses := true, apart := false, narrowed := true }
def OpValidUptoSaid : Prop := opValidUptoRow.holds Try.pinned (OpenSpec.upto opValidSpec)

/-- 'egresslaw19.OpCuts', WHERE WHAT IT READS IS OF BULK AT MOST 1048576: true; the input reads as it did. -/
def opCutsUptoRow : OpenClaim := { program := "ytljcodkcmenpaaa", sum := "9e4d2e3d8324e002b6b77ea9a93c2cbb911b75da051ddaf2c68c222bab922a3f", func := "egress/egresslaw19.OpCuts", spec := "opCuts", unfollowed := true, recurses := true, apart := false, narrowed := true }
def OpCutsUptoSaid : Prop := opCutsUptoRow.holds Try.pinned (OpenSpec.upto opCutsSpec)

/-- 'egresslaw19.OpNames', WHERE WHAT IT READS IS OF BULK AT MOST 1048576: true; the input reads as it did. -/
def opNamesUptoRow : OpenClaim := { program := "ytljcodkcmenpaaa", sum := "9e4d2e3d8324e002b6b77ea9a93c2cbb911b75da051ddaf2c68c222bab922a3f", func := "egress/egresslaw19.OpNames", spec := "opNames", unfollowed := true, recurses := true, apart := false, narrowed := true }
def OpNamesUptoSaid : Prop := opNamesUptoRow.holds Try.pinned (OpenSpec.upto opNamesSpec)

end Rows
end Go.Proofs.Ytljcodkcmenpaaa
