/-
  No cell of these rows narrows 'for every input' (looked for: loops, veiled, ifaces, maps, wideKeys, modest, calm, conditions, laid).
  DERIVED. THE GIVEN ROWS OF THIS SEAT. 6 by the template 'for every input the law returns true; each argument reads behind the call as it read before'; 0 by the template 'total and deterministic' (their statements: YthngncklmkneoaaTotals.lean).
  GIVEN WITH THE SEED: the statements are not yours to turn. If you find one false, say at which input.
  Laid BY PROGRAM, IN A SANDBOX (cutbox-rows.mjs): the forced cells as the released guide's own fill.sh prints them over the translation 5203f7bf4342412b… (all of the seat's roots in one cut). By AI agents, Wed Nov 11 2026. No macro, syntax, notation, axiom, sorry.
-/
import Derived.Test.YthngncklmkneoaaChecked
import GoSem.Claim
import GoSem.ClaimJoined
import GoSem.ClaimMapViews
import Derived.JoinedTies
import Derived.KernelRfl
namespace Go.Proofs.Ythngncklmkneoaa
/- THE CELL 'sum', in the pinned program and in every row, IS THE sha256 OF THE DUMP (.gsa) THAT YthngncklmkneoaaProg.lean LOADS. Nothing in Lean hashes anything: it is a label: what it is worth is what the hold of that sum in a sandbox is worth. -/
noncomputable def Try.pinned : Pinned := { name := "ythngncklmkneoaa", sum := "5203f7bf4342412bdaed30c4bed8561d7059daace31f6ff54690a86e0d28793d", checked := Try.checked }
namespace Rows
def none {H : Type} : Left H := { results := [], args := [] }

/-- 'egresslaw07.RegistryCounts': WHATEVER THE INPUT: true; the input reads as it did. -/
def registryCountsSpec : ChangeSpec := { name := "registryCounts", fn := fun _ => fun
  | [d1, d2, d3] => { results := [.lit (.bool true)], args := [d1, d2, d3] }
  | _ => none }
def registryCountsRow : OpenClaim := { program := "ythngncklmkneoaa", sum := "5203f7bf4342412bdaed30c4bed8561d7059daace31f6ff54690a86e0d28793d", func := "egress/egresslaw07.RegistryCounts", spec := "registryCounts", apart := false }
def RegistryCountsSaid : Prop := registryCountsRow.holds Try.pinned (OpenSpec.ofChange registryCountsSpec)

/-- ITS FALSE NEIGHBOUR: 'it returns false'. Refute it at one input. -/
def registryCountsWrong : ChangeSpec := { name := "registryCounts", fn := fun _ => fun
  | [d1, d2, d3] => { results := [.lit (.bool false)], args := [d1, d2, d3] }
  | _ => none }
def RegistryCountsWrongFalsely : Prop := registryCountsRow.holds Try.pinned (OpenSpec.ofChange registryCountsWrong)

/-- 'egresslaw07.RegistryGets': WHATEVER THE INPUT: true; the input reads as it did. -/
def registryGetsSpec : ChangeSpec := { name := "registryGets", fn := fun _ => fun
  | [d1, d2, d3] => { results := [.lit (.bool true)], args := [d1, d2, d3] }
  | _ => none }
def registryGetsRow : OpenClaim := { program := "ythngncklmkneoaa", sum := "5203f7bf4342412bdaed30c4bed8561d7059daace31f6ff54690a86e0d28793d", func := "egress/egresslaw07.RegistryGets", spec := "registryGets", apart := false }
def RegistryGetsSaid : Prop := registryGetsRow.holds Try.pinned (OpenSpec.ofChange registryGetsSpec)

/-- ITS FALSE NEIGHBOUR: 'it returns false'. Refute it at one input. -/
def registryGetsWrong : ChangeSpec := { name := "registryGets", fn := fun _ => fun
  | [d1, d2, d3] => { results := [.lit (.bool false)], args := [d1, d2, d3] }
  | _ => none }
def RegistryGetsWrongFalsely : Prop := registryGetsRow.holds Try.pinned (OpenSpec.ofChange registryGetsWrong)

/-- 'egresslaw07.RegistryOverflow': WHATEVER THE INPUT: true; the input reads as it did. -/
def registryOverflowSpec : ChangeSpec := { name := "registryOverflow", fn := fun _ => fun
  | [d1, d2, d3] => { results := [.lit (.bool true)], args := [d1, d2, d3] }
  | _ => none }
def registryOverflowRow : OpenClaim := { program := "ythngncklmkneoaa", sum := "5203f7bf4342412bdaed30c4bed8561d7059daace31f6ff54690a86e0d28793d", func := "egress/egresslaw07.RegistryOverflow", spec := "registryOverflow", apart := false }
def RegistryOverflowSaid : Prop := registryOverflowRow.holds Try.pinned (OpenSpec.ofChange registryOverflowSpec)

/-- ITS FALSE NEIGHBOUR: 'it returns false'. Refute it at one input. -/
def registryOverflowWrong : ChangeSpec := { name := "registryOverflow", fn := fun _ => fun
  | [d1, d2, d3] => { results := [.lit (.bool false)], args := [d1, d2, d3] }
  | _ => none }
def RegistryOverflowWrongFalsely : Prop := registryOverflowRow.holds Try.pinned (OpenSpec.ofChange registryOverflowWrong)

/-- 'egresslaw07.RegistryPlays': WHATEVER THE INPUT: true; the input reads as it did. -/
def registryPlaysSpec : ChangeSpec := { name := "registryPlays", fn := fun _ => fun
  | [d1, d2] => { results := [.lit (.bool true)], args := [d1, d2] }
  | _ => none }
def registryPlaysRow : OpenClaim := { program := "ythngncklmkneoaa", sum := "5203f7bf4342412bdaed30c4bed8561d7059daace31f6ff54690a86e0d28793d", func := "egress/egresslaw07.RegistryPlays", spec := "registryPlays", apart := false }
def RegistryPlaysSaid : Prop := registryPlaysRow.holds Try.pinned (OpenSpec.ofChange registryPlaysSpec)

/-- ITS FALSE NEIGHBOUR: 'it returns false'. Refute it at one input. -/
def registryPlaysWrong : ChangeSpec := { name := "registryPlays", fn := fun _ => fun
  | [d1, d2] => { results := [.lit (.bool false)], args := [d1, d2] }
  | _ => none }
def RegistryPlaysWrongFalsely : Prop := registryPlaysRow.holds Try.pinned (OpenSpec.ofChange registryPlaysWrong)

/-- 'egresslaw07.RegistryIndices': WHATEVER THE INPUT: true; the input reads as it did. -/
def registryIndicesSpec : ChangeSpec := { name := "registryIndices", fn := fun _ => fun
  | [d1, d2, d3] => { results := [.lit (.bool true)], args := [d1, d2, d3] }
  | _ => none }
def registryIndicesRow : OpenClaim := { program := "ythngncklmkneoaa", sum := "5203f7bf4342412bdaed30c4bed8561d7059daace31f6ff54690a86e0d28793d", func := "egress/egresslaw07.RegistryIndices", spec := "registryIndices", apart := false }
def RegistryIndicesSaid : Prop := registryIndicesRow.holds Try.pinned (OpenSpec.ofChange registryIndicesSpec)

/-- ITS FALSE NEIGHBOUR: 'it returns false'. Refute it at one input. -/
def registryIndicesWrong : ChangeSpec := { name := "registryIndices", fn := fun _ => fun
  | [d1, d2, d3] => { results := [.lit (.bool false)], args := [d1, d2, d3] }
  | _ => none }
def RegistryIndicesWrongFalsely : Prop := registryIndicesRow.holds Try.pinned (OpenSpec.ofChange registryIndicesWrong)

/-- 'egresslaw07.RegistryNil': WHATEVER THE INPUT: true; the input reads as it did. -/
def registryNilSpec : ChangeSpec := { name := "registryNil", fn := fun _ => fun
  | [d] => { results := [.lit (.bool true)], args := [d] }
  | _ => none }
def registryNilRow : OpenClaim := { program := "ythngncklmkneoaa", sum := "5203f7bf4342412bdaed30c4bed8561d7059daace31f6ff54690a86e0d28793d", func := "egress/egresslaw07.RegistryNil", spec := "registryNil", apart := false }
def RegistryNilSaid : Prop := registryNilRow.holds Try.pinned (OpenSpec.ofChange registryNilSpec)

/-- ITS FALSE NEIGHBOUR: 'it returns false'. Refute it at one input. -/
def registryNilWrong : ChangeSpec := { name := "registryNil", fn := fun _ => fun
  | [d] => { results := [.lit (.bool false)], args := [d] }
  | _ => none }
def RegistryNilWrongFalsely : Prop := registryNilRow.holds Try.pinned (OpenSpec.ofChange registryNilWrong)

/- THE SECOND FORM. 'bulk': how many values and letters a reading holds, each counted each time it is reached (what is shared counts as often as it is met; a slice's spare places count too). A statement '..UptoSaid' is the law's where the arguments, and the package variables that the reading takes, are together of bulk at most 1048576: NARROWER than '..Said'. Prove '..Said' where nothing that the law and all that it calls make is longer than what came in: it says more and counts as full. Else prove '..UptoSaid'. A law counts once. -/
mutual
def uptoBulk {H : Type} : DataW H → Nat
  | .lit (.string bytes) => bytes.length + 1
  | .lit _ => 1
  | .nil => 1
  | .ptr d => uptoBulk d + 1
  | .slice elems spare => uptoBulkAll elems + uptoBulkAll spare + 1
  | .agg parts => uptoBulkAll parts + 1
  | .iface _ d => uptoBulk d + 1
  | .map entries => uptoBulkEntries entries + 1
  | .held _ => 1
def uptoBulkAll {H : Type} : List (DataW H) → Nat
  | [] => 0
  | d :: r => uptoBulk d + uptoBulkAll r
def uptoBulkEntries {H : Type} : List (Lit × DataW H) → Nat
  | [] => 0
  | x :: r => uptoBulkEntry x + uptoBulkEntries r
def uptoBulkEntry {H : Type} : Lit × DataW H → Nat
  | (.string bytes, d) => bytes.length + uptoBulk d + 1
  | (_, d) => uptoBulk d + 1
 end
def uptoSmall : (H : Type) → List (DataW H) → Bool := fun _ ds => decide (uptoBulkAll ds ≤ 1048576)
def OpenSpec.upto (s : _root_.Go.ChangeSpec) : _root_.Go.OpenSpec := { _root_.Go.OpenSpec.ofChange s with cond := some uptoSmall }

/-- 'egresslaw07.RegistryCounts', WHERE WHAT IT READS IS OF BULK AT MOST 1048576: true; the input reads as it did. -/
def registryCountsUptoRow : OpenClaim := { program := "ythngncklmkneoaa", sum := "5203f7bf4342412bdaed30c4bed8561d7059daace31f6ff54690a86e0d28793d", func := "egress/egresslaw07.RegistryCounts", spec := "registryCounts", apart := false, narrowed := true }
def RegistryCountsUptoSaid : Prop := registryCountsUptoRow.holds Try.pinned (OpenSpec.upto registryCountsSpec)

/-- 'egresslaw07.RegistryGets', WHERE WHAT IT READS IS OF BULK AT MOST 1048576: true; the input reads as it did. -/
def registryGetsUptoRow : OpenClaim := { program := "ythngncklmkneoaa", sum := "5203f7bf4342412bdaed30c4bed8561d7059daace31f6ff54690a86e0d28793d", func := "egress/egresslaw07.RegistryGets", spec := "registryGets", apart := false, narrowed := true }
def RegistryGetsUptoSaid : Prop := registryGetsUptoRow.holds Try.pinned (OpenSpec.upto registryGetsSpec)

/-- 'egresslaw07.RegistryOverflow', WHERE WHAT IT READS IS OF BULK AT MOST 1048576: true; the input reads as it did. -/
def registryOverflowUptoRow : OpenClaim := { program := "ythngncklmkneoaa", sum := "5203f7bf4342412bdaed30c4bed8561d7059daace31f6ff54690a86e0d28793d", func := "egress/egresslaw07.RegistryOverflow", spec := "registryOverflow", apart := false, narrowed := true }
def RegistryOverflowUptoSaid : Prop := registryOverflowUptoRow.holds Try.pinned (OpenSpec.upto registryOverflowSpec)

/-- 'egresslaw07.RegistryPlays', WHERE WHAT IT READS IS OF BULK AT MOST 1048576: true; the input reads as it did. -/
def registryPlaysUptoRow : OpenClaim := { program := "ythngncklmkneoaa", sum := "5203f7bf4342412bdaed30c4bed8561d7059daace31f6ff54690a86e0d28793d", func := "egress/egresslaw07.RegistryPlays", spec := "registryPlays", apart := false, narrowed := true }
def RegistryPlaysUptoSaid : Prop := registryPlaysUptoRow.holds Try.pinned (OpenSpec.upto registryPlaysSpec)

/-- 'egresslaw07.RegistryIndices', WHERE WHAT IT READS IS OF BULK AT MOST 1048576: true; the input reads as it did. -/
def registryIndicesUptoRow : OpenClaim := { program := "ythngncklmkneoaa", sum := "5203f7bf4342412bdaed30c4bed8561d7059daace31f6ff54690a86e0d28793d", func := "egress/egresslaw07.RegistryIndices", spec := "registryIndices", apart := false, narrowed := true }
def RegistryIndicesUptoSaid : Prop := registryIndicesUptoRow.holds Try.pinned (OpenSpec.upto registryIndicesSpec)

/-- 'egresslaw07.RegistryNil', WHERE WHAT IT READS IS OF BULK AT MOST 1048576: true; the input reads as it did. -/
def registryNilUptoRow : OpenClaim := { program := "ythngncklmkneoaa", sum := "5203f7bf4342412bdaed30c4bed8561d7059daace31f6ff54690a86e0d28793d", func := "egress/egresslaw07.RegistryNil", spec := "registryNil", apart := false, narrowed := true }
def RegistryNilUptoSaid : Prop := registryNilUptoRow.holds Try.pinned (OpenSpec.upto registryNilSpec)

end Rows
end Go.Proofs.Ythngncklmkneoaa
