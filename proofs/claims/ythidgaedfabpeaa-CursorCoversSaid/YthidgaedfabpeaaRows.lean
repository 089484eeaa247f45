/-
  No cell of these rows narrows 'for every input' (looked for: loops, veiled, ifaces, maps, wideKeys, modest, calm, conditions, laid).
  DERIVED. THE GIVEN ROWS OF THIS SEAT. 6 by the template 'for every input the law returns true; each argument reads behind the call as it read before'; 0 by the template 'total and deterministic' (their statements: YthidgaedfabpeaaTotals.lean).
  GIVEN WITH THE SEED: the statements are not yours to turn. If you find one false, say at which input.
  Laid BY PROGRAM, IN A SANDBOX (cutbox-rows.mjs): the forced cells as the released guide's own fill.sh prints them over the translation da814828c85c17b8… (all of the seat's roots in one cut). By AI agents, Wed Nov 11 2026. No macro, syntax, notation, axiom, sorry.
-/
import Derived.Test.YthidgaedfabpeaaChecked
import GoSem.Claim
import GoSem.ClaimJoined
import GoSem.ClaimMapViews
import Derived.JoinedTies
import Derived.KernelRfl
namespace Go.Proofs.Ythidgaedfabpeaa
/- THE CELL 'sum', in the pinned program and in every row, IS THE sha256 OF THE DUMP (.gsa) THAT YthidgaedfabpeaaProg.lean LOADS. Nothing in Lean hashes anything: it is a label: what it is worth is what the hold of that sum in a sandbox is worth. -/
noncomputable def Try.pinned : Pinned := { name := "ythidgaedfabpeaa", sum := "da814828c85c17b8f599f8cb822083f86eab2d9fc6035b0455418dbe1c6b2098", checked := Try.checked }
namespace Rows
def none {H : Type} : Left H := { results := [], args := [] }

/-- 'egresslaw09.CursorSweeps': WHATEVER THE INPUT: true; the input reads as it did. -/
def cursorSweepsSpec : ChangeSpec := { name := "cursorSweeps", fn := fun _ => fun
  | [d] => { results := [.lit (.bool true)], args := [d] }
  | _ => none }
def cursorSweepsRow : OpenClaim := { program := "ythidgaedfabpeaa", sum := "da814828c85c17b8f599f8cb822083f86eab2d9fc6035b0455418dbe1c6b2098", func := "egress/egresslaw09.CursorSweeps", spec := "cursorSweeps", unfollowed := true, recurses := true, apart := false }
def CursorSweepsSaid : Prop := cursorSweepsRow.holds Try.pinned (OpenSpec.ofChange cursorSweepsSpec)

/-- ITS FALSE NEIGHBOUR: 'it returns false'. Refute it at one input. -/
def cursorSweepsWrong : ChangeSpec := { name := "cursorSweeps", fn := fun _ => fun
  | [d] => { results := [.lit (.bool false)], args := [d] }
  | _ => none }
def CursorSweepsWrongFalsely : Prop := cursorSweepsRow.holds Try.pinned (OpenSpec.ofChange cursorSweepsWrong)

/-- 'egresslaw09.CursorBudget': WHATEVER THE INPUT: true; the input reads as it did. -/
def cursorBudgetSpec : ChangeSpec := { name := "cursorBudget", fn := fun _ => fun
  | [d] => { results := [.lit (.bool true)], args := [d] }
  | _ => none }
def cursorBudgetRow : OpenClaim := { program := "ythidgaedfabpeaa", sum := "da814828c85c17b8f599f8cb822083f86eab2d9fc6035b0455418dbe1c6b2098", func := "egress/egresslaw09.CursorBudget", spec := "cursorBudget", unfollowed := true, recurses := true, apart := false }
def CursorBudgetSaid : Prop := cursorBudgetRow.holds Try.pinned (OpenSpec.ofChange cursorBudgetSpec)

/-- ITS FALSE NEIGHBOUR: 'it returns false'. Refute it at one input. -/
def cursorBudgetWrong : ChangeSpec := { name := "cursorBudget", fn := fun _ => fun
  | [d] => { results := [.lit (.bool false)], args := [d] }
  | _ => none }
def CursorBudgetWrongFalsely : Prop := cursorBudgetRow.holds Try.pinned (OpenSpec.ofChange cursorBudgetWrong)

/-- 'egresslaw09.CursorDistance': WHATEVER THE INPUT: true; the input reads as it did. -/
def cursorDistanceSpec : ChangeSpec := { name := "cursorDistance", fn := fun _ => fun
  | [d1, d2, d3] => { results := [.lit (.bool true)], args := [d1, d2, d3] }
  | _ => none }
def cursorDistanceRow : OpenClaim := { program := "ythidgaedfabpeaa", sum := "da814828c85c17b8f599f8cb822083f86eab2d9fc6035b0455418dbe1c6b2098", func := "egress/egresslaw09.CursorDistance", spec := "cursorDistance", unfollowed := true, recurses := true, apart := false }
def CursorDistanceSaid : Prop := cursorDistanceRow.holds Try.pinned (OpenSpec.ofChange cursorDistanceSpec)

/-- ITS FALSE NEIGHBOUR: 'it returns false'. Refute it at one input. -/
def cursorDistanceWrong : ChangeSpec := { name := "cursorDistance", fn := fun _ => fun
  | [d1, d2, d3] => { results := [.lit (.bool false)], args := [d1, d2, d3] }
  | _ => none }
def CursorDistanceWrongFalsely : Prop := cursorDistanceRow.holds Try.pinned (OpenSpec.ofChange cursorDistanceWrong)

/-- 'egresslaw09.CursorBlocks': WHATEVER THE INPUT: true; the input reads as it did. -/
def cursorBlocksSpec : ChangeSpec := { name := "cursorBlocks", fn := fun _ => fun
  | [d1, d2, d3] => { results := [.lit (.bool true)], args := [d1, d2, d3] }
  | _ => none }
def cursorBlocksRow : OpenClaim := { program := "ythidgaedfabpeaa", sum := "da814828c85c17b8f599f8cb822083f86eab2d9fc6035b0455418dbe1c6b2098", func := "egress/egresslaw09.CursorBlocks", spec := "cursorBlocks", unfollowed := true, recurses := true, apart := false }
def CursorBlocksSaid : Prop := cursorBlocksRow.holds Try.pinned (OpenSpec.ofChange cursorBlocksSpec)

/-- ITS FALSE NEIGHBOUR: 'it returns false'. Refute it at one input. -/
def cursorBlocksWrong : ChangeSpec := { name := "cursorBlocks", fn := fun _ => fun
  | [d1, d2, d3] => { results := [.lit (.bool false)], args := [d1, d2, d3] }
  | _ => none }
def CursorBlocksWrongFalsely : Prop := cursorBlocksRow.holds Try.pinned (OpenSpec.ofChange cursorBlocksWrong)

/-- 'egresslaw09.CursorNil': WHATEVER THE INPUT: true; the input reads as it did. -/
def cursorNilSpec : ChangeSpec := { name := "cursorNil", fn := fun _ => fun
  | [d1, d2, d3] => { results := [.lit (.bool true)], args := [d1, d2, d3] }
  | _ => none }
def cursorNilRow : OpenClaim := { program := "ythidgaedfabpeaa", sum := "da814828c85c17b8f599f8cb822083f86eab2d9fc6035b0455418dbe1c6b2098", func := "egress/egresslaw09.CursorNil", spec := "cursorNil", unfollowed := true, recurses := true, apart := false }
def CursorNilSaid : Prop := cursorNilRow.holds Try.pinned (OpenSpec.ofChange cursorNilSpec)

/-- ITS FALSE NEIGHBOUR: 'it returns false'. Refute it at one input. -/
def cursorNilWrong : ChangeSpec := { name := "cursorNil", fn := fun _ => fun
  | [d1, d2, d3] => { results := [.lit (.bool false)], args := [d1, d2, d3] }
  | _ => none }
def CursorNilWrongFalsely : Prop := cursorNilRow.holds Try.pinned (OpenSpec.ofChange cursorNilWrong)

/-- 'egresslaw09.CursorCovers': WHATEVER THE INPUT: true; the input reads as it did. -/
def cursorCoversSpec : ChangeSpec := { name := "cursorCovers", fn := fun _ => fun
  | [d1, d2] => { results := [.lit (.bool true)], args := [d1, d2] }
  | _ => none }
def cursorCoversRow : OpenClaim := { program := "ythidgaedfabpeaa", sum := "da814828c85c17b8f599f8cb822083f86eab2d9fc6035b0455418dbe1c6b2098", func := "egress/egresslaw09.CursorCovers", spec := "cursorCovers", unfollowed := true, recurses := true, apart := false }
def CursorCoversSaid : Prop := cursorCoversRow.holds Try.pinned (OpenSpec.ofChange cursorCoversSpec)

/-- ITS FALSE NEIGHBOUR: 'it returns false'. Refute it at one input. -/
def cursorCoversWrong : ChangeSpec := { name := "cursorCovers", fn := fun _ => fun
  | [d1, d2] => { results := [.lit (.bool false)], args := [d1, d2] }
  | _ => none }
def CursorCoversWrongFalsely : Prop := cursorCoversRow.holds Try.pinned (OpenSpec.ofChange cursorCoversWrong)

/- THE SECOND FORM. 'bulk': how many values and letters a reading holds, each counted each time it is reached (what is shared counts as often as it is met; a slice's spare places count too). A statement '..UptoSaid' is the law's where the arguments, and the package variables that the reading takes, are together of bulk at most 1048576: NARROWER than '..Said'. Prove '..Said' where nothing that the law and all that it calls make is longer than what came in: it says more and counts as full. Else prove '..UptoSaid'. A law counts once. -/
mutual
def uptoBulk {H : Type} : DataW H → Nat
  | .lit (.string bytes) => bytes.length + 1
  | .lit _ => 1
  | .nil => 1
  | .ptr d => uptoBulk d + 1
  | .slice elems spare => uptoBulkAll elems + uptoBulkAll spare + 1
  | .agg parts => uptoBulkAll parts + 1
  | .iface _ d => uptoBulk d + 1
  | .map entries => uptoBulkEntries entries + 1
  | .held _ => 1
def uptoBulkAll {H : Type} : List (DataW H) → Nat
  | [] => 0
  | d :: r => uptoBulk d + uptoBulkAll r
def uptoBulkEntries {H : Type} : List (Lit × DataW H) → Nat
  | [] => 0
  | x :: r => uptoBulkEntry x + uptoBulkEntries r
def uptoBulkEntry {H : Type} : Lit × DataW H → Nat
  | (.string bytes, d) => bytes.length + uptoBulk d + 1
  | (_, d) => uptoBulk d + 1
 end
def uptoSmall : (H : Type) → List (DataW H) → Bool := fun _ ds => decide (uptoBulkAll ds ≤ 1048576)
def OpenSpec.upto (s : _root_.Go.ChangeSpec) : _root_.Go.OpenSpec := { _root_.Go.OpenSpec.ofChange s with cond := some uptoSmall }

/-- 'egresslaw09.CursorSweeps', WHERE WHAT IT READS IS OF BULK AT MOST 1048576: true; the input reads as it did. -/
def cursorSweepsUptoRow : OpenClaim := { program := "ythidgaedfabpeaa", sum := "da814828c85c17b8f599f8cb822083f86eab2d9fc6035b0455418dbe1c6b2098", func := "egress/egresslaw09.CursorSweeps", spec := "cursorSweeps", unfollowed := true, recurses := true, apart := false, narrowed := true }
def CursorSweepsUptoSaid : Prop := cursorSweepsUptoRow.holds Try.pinned (OpenSpec.upto cursorSweepsSpec)

/-- 'egresslaw09.CursorBudget', WHERE WHAT IT READS IS OF BULK AT MOST 1048576: true; the input reads as it did. -/
def cursorBudgetUptoRow : OpenClaim := { program := "ythidgaedfabpeaa", sum := "da814828c85c17b8f599f8cb822083f86eab2d9fc6035b0455418dbe1c6b2098", func := "egress/egresslaw09.CursorBudget", spec := "cursorBudget", unfollowed := true, recurses := true, apart := false, narrowed := true }
def CursorBudgetUptoSaid : Prop := cursorBudgetUptoRow.holds Try.pinned (OpenSpec.upto cursorBudgetSpec)

/-- 'egresslaw09.CursorDistance', WHERE WHAT IT READS IS OF BULK AT MOST 1048576: true; the input reads as it did. -/
def cursorDistanceUptoRow : OpenClaim := { program := "ythidgaedfabpeaa", sum := "da814828c85c17b8f599f8cb822083f86eab2d9fc6035b0455418dbe1c6b2098", func := "egress/egresslaw09.CursorDistance", spec := "cursorDistance", unfollowed := true, recurses := true, apart := false, narrowed := true }
def CursorDistanceUptoSaid : Prop := cursorDistanceUptoRow.holds Try.pinned (OpenSpec.upto cursorDistanceSpec)

/-- 'egresslaw09.CursorBlocks', WHERE WHAT IT READS IS OF BULK AT MOST 1048576: true; the input reads as it did. -/
def cursorBlocksUptoRow : OpenClaim := { program := "ythidgaedfabpeaa", sum := "da814828c85c17b8f599f8cb822083f86eab2d9fc6035b0455418dbe1c6b2098", func := "egress/egresslaw09.CursorBlocks", spec := "cursorBlocks", unfollowed := true, recurses := true, apart := false, narrowed := true }
def CursorBlocksUptoSaid : Prop := cursorBlocksUptoRow.holds Try.pinned (OpenSpec.upto cursorBlocksSpec)

/-- 'egresslaw09.CursorNil', WHERE WHAT IT READS IS OF BULK AT MOST 1048576: true; the input reads as it did. -/
def cursorNilUptoRow : OpenClaim := { program := "ythidgaedfabpeaa", sum := "da814828c85c17b8f599f8cb822083f86eab2d9fc6035b0455418dbe1c6b2098", func := "egress/egresslaw09.CursorNil", spec := "cursorNil", unfollowed := true, recurses := true, apart := false, narrowed := true }
def CursorNilUptoSaid : Prop := cursorNilUptoRow.holds Try.pinned (OpenSpec.upto cursorNilSpec)

/-- 'egresslaw09.CursorCovers', WHERE WHAT IT READS IS OF BULK AT MOST 1048576: true; the input reads as it did. -/
def cursorCoversUptoRow : OpenClaim := { program := "ythidgaedfabpeaa", sum := "da814828c85c17b8f599f8cb822083f86eab2d9fc6035b0455418dbe1c6b2098", func := "egress/egresslaw09.CursorCovers", spec := "cursorCovers", unfollowed := true, recurses := true, apart := false, narrowed := true }
def CursorCoversUptoSaid : Prop := cursorCoversUptoRow.holds Try.pinned (OpenSpec.upto cursorCoversSpec)

end Rows
end Go.Proofs.Ythidgaedfabpeaa
