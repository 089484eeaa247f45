/-
  No cell of these rows narrows 'for every input' (looked for: loops, veiled, ifaces, maps, wideKeys, modest, calm, conditions, laid).
  DERIVED. THE GIVEN ROWS OF THIS SEAT. 6 by the template 'for every input the law returns true; each argument reads behind the call as it read before'; 0 by the template 'total and deterministic' (their statements: YtgpglfkdpalmcaaTotals.lean).
  GIVEN WITH THE SEED: the statements are not yours to turn. If you find one false, say at which input.
  Laid BY PROGRAM, IN A SANDBOX (cutbox-rows.mjs): the forced cells as the released guide's own fill.sh prints them over the translation 6d2ac99141a674c0… (all of the seat's roots in one cut). By AI agents, Wed Nov 11 2026. No macro, syntax, notation, axiom, sorry.
-/
import Derived.Test.YtgpglfkdpalmcaaChecked
import GoSem.Claim
import GoSem.ClaimJoined
import GoSem.ClaimMapViews
import Derived.JoinedTies
import Derived.KernelRfl
namespace Go.Proofs.Ytgpglfkdpalmcaa
/- THE CELL 'sum', in the pinned program and in every row, IS THE sha256 OF THE DUMP (.gsa) THAT YtgpglfkdpalmcaaProg.lean LOADS. Nothing in Lean hashes anything: it is a label: what it is worth is what the hold of that sum in a sandbox is worth. -/
noncomputable def Try.pinned : Pinned := { name := "ytgpglfkdpalmcaa", sum := "6d2ac99141a674c02acc581a8cf82e4340989116f23b7a149104c07340b7f051", checked := Try.checked }
namespace Rows
def none {H : Type} : Left H := { results := [], args := [] }

/-- 'egresslaw03.ConfigChecks': WHATEVER THE INPUT: true; the input reads as it did. -/
def configChecksSpec : ChangeSpec := { name := "configChecks", fn := fun _ => fun
  | [d] => { results := [.lit (.bool true)], args := [d] }
  | _ => none }
def configChecksRow : OpenClaim := { program := "ytgpglfkdpalmcaa", sum := "6d2ac99141a674c02acc581a8cf82e4340989116f23b7a149104c07340b7f051", func := "egress/egresslaw03.ConfigChecks", spec := "configChecks", unfollowed := true, recurses := true, apart := false }
def ConfigChecksSaid : Prop := configChecksRow.holds Try.pinned (OpenSpec.ofChange configChecksSpec)

/-- ITS FALSE NEIGHBOUR: 'it returns false'. Refute it at one input. -/
def configChecksWrong : ChangeSpec := { name := "configChecks", fn := fun _ => fun
  | [d] => { results := [.lit (.bool false)], args := [d] }
  | _ => none }
def ConfigChecksWrongFalsely : Prop := configChecksRow.holds Try.pinned (OpenSpec.ofChange configChecksWrong)

/-- 'egresslaw03.ConfigDefault': WHATEVER THE INPUT: true; the input reads as it did. -/
def configDefaultSpec : ChangeSpec := { name := "configDefault", fn := fun _ => fun
  | [d] => { results := [.lit (.bool true)], args := [d] }
  | _ => none }
def configDefaultRow : OpenClaim := { program := "ytgpglfkdpalmcaa", sum := "6d2ac99141a674c02acc581a8cf82e4340989116f23b7a149104c07340b7f051", func := "egress/egresslaw03.ConfigDefault", spec := "configDefault", unfollowed := true, recurses := true, apart := false }
def ConfigDefaultSaid : Prop := configDefaultRow.holds Try.pinned (OpenSpec.ofChange configDefaultSpec)

/-- ITS FALSE NEIGHBOUR: 'it returns false'. Refute it at one input. -/
def configDefaultWrong : ChangeSpec := { name := "configDefault", fn := fun _ => fun
  | [d] => { results := [.lit (.bool false)], args := [d] }
  | _ => none }
def ConfigDefaultWrongFalsely : Prop := configDefaultRow.holds Try.pinned (OpenSpec.ofChange configDefaultWrong)

/-- 'egresslaw03.ConfigSweeps': WHATEVER THE INPUT: true; the input reads as it did. -/
def configSweepsSpec : ChangeSpec := { name := "configSweeps", fn := fun _ => fun
  | [d] => { results := [.lit (.bool true)], args := [d] }
  | _ => none }
def configSweepsRow : OpenClaim := { program := "ytgpglfkdpalmcaa", sum := "6d2ac99141a674c02acc581a8cf82e4340989116f23b7a149104c07340b7f051", func := "egress/egresslaw03.ConfigSweeps", spec := "configSweeps", unfollowed := true, recurses := true, apart := false }
def ConfigSweepsSaid : Prop := configSweepsRow.holds Try.pinned (OpenSpec.ofChange configSweepsSpec)

/-- ITS FALSE NEIGHBOUR: 'it returns false'. Refute it at one input. -/
def configSweepsWrong : ChangeSpec := { name := "configSweeps", fn := fun _ => fun
  | [d] => { results := [.lit (.bool false)], args := [d] }
  | _ => none }
def ConfigSweepsWrongFalsely : Prop := configSweepsRow.holds Try.pinned (OpenSpec.ofChange configSweepsWrong)

/-- 'egresslaw03.ConfigCovers': WHATEVER THE INPUT: true; the input reads as it did. -/
def configCoversSpec : ChangeSpec := { name := "configCovers", fn := fun _ => fun
  | [d] => { results := [.lit (.bool true)], args := [d] }
  | _ => none }
def configCoversRow : OpenClaim := { program := "ytgpglfkdpalmcaa", sum := "6d2ac99141a674c02acc581a8cf82e4340989116f23b7a149104c07340b7f051", func := "egress/egresslaw03.ConfigCovers", spec := "configCovers", unfollowed := true, recurses := true, apart := false }
def ConfigCoversSaid : Prop := configCoversRow.holds Try.pinned (OpenSpec.ofChange configCoversSpec)

/-- ITS FALSE NEIGHBOUR: 'it returns false'. Refute it at one input. -/
def configCoversWrong : ChangeSpec := { name := "configCovers", fn := fun _ => fun
  | [d] => { results := [.lit (.bool false)], args := [d] }
  | _ => none }
def ConfigCoversWrongFalsely : Prop := configCoversRow.holds Try.pinned (OpenSpec.ofChange configCoversWrong)

/-- 'egresslaw03.ConfigFirst': WHATEVER THE INPUT: true; the input reads as it did. -/
def configFirstSpec : ChangeSpec := { name := "configFirst", fn := fun _ => fun
  | [d1, d2, d3] => { results := [.lit (.bool true)], args := [d1, d2, d3] }
  | _ => none }
def configFirstRow : OpenClaim := { program := "ytgpglfkdpalmcaa", sum := "6d2ac99141a674c02acc581a8cf82e4340989116f23b7a149104c07340b7f051", func := "egress/egresslaw03.ConfigFirst", spec := "configFirst", unfollowed := true, recurses := true, apart := false }
def ConfigFirstSaid : Prop := configFirstRow.holds Try.pinned (OpenSpec.ofChange configFirstSpec)

/-- ITS FALSE NEIGHBOUR: 'it returns false'. Refute it at one input. -/
def configFirstWrong : ChangeSpec := { name := "configFirst", fn := fun _ => fun
  | [d1, d2, d3] => { results := [.lit (.bool false)], args := [d1, d2, d3] }
  | _ => none }
def ConfigFirstWrongFalsely : Prop := configFirstRow.holds Try.pinned (OpenSpec.ofChange configFirstWrong)

/-- 'egresslaw03.ConfigSets': WHATEVER THE INPUT: true; the input reads as it did. -/
def configSetsSpec : ChangeSpec := { name := "configSets", fn := fun _ => fun
  | [d1, d2, d3] => { results := [.lit (.bool true)], args := [d1, d2, d3] }
  | _ => none }
def configSetsRow : OpenClaim := { program := "ytgpglfkdpalmcaa", sum := "6d2ac99141a674c02acc581a8cf82e4340989116f23b7a149104c07340b7f051", func := "egress/egresslaw03.ConfigSets", spec := "configSets", unfollowed := true, recurses := true, apart := false }
def ConfigSetsSaid : Prop := configSetsRow.holds Try.pinned (OpenSpec.ofChange configSetsSpec)

/-- ITS FALSE NEIGHBOUR: 'it returns false'. Refute it at one input. -/
def configSetsWrong : ChangeSpec := { name := "configSets", fn := fun _ => fun
  | [d1, d2, d3] => { results := [.lit (.bool false)], args := [d1, d2, d3] }
  | _ => none }
def ConfigSetsWrongFalsely : Prop := configSetsRow.holds Try.pinned (OpenSpec.ofChange configSetsWrong)

/- THE SECOND FORM. 'bulk': how many values and letters a reading holds, each counted each time it is reached (what is shared counts as often as it is met; a slice's spare places count too). A statement '..UptoSaid' is the law's where the arguments, and the package variables that the reading takes, are together of bulk at most 1048576: NARROWER than '..Said'. Prove '..Said' where nothing that the law and all that it calls make is longer than what came in: it says more and counts as full. Else prove '..UptoSaid'. A law counts once. -/
mutual
def uptoBulk {H : Type} : DataW H → Nat
  | .lit (.string bytes) => bytes.length + 1
  | .lit _ => 1
  | .nil => 1
  | .ptr d => uptoBulk d + 1
  | .slice elems spare => uptoBulkAll elems + uptoBulkAll spare + 1
  | .agg parts => uptoBulkAll parts + 1
  | .iface _ d => uptoBulk d + 1
  | .map entries => uptoBulkEntries entries + 1
  | .held _ => 1
def uptoBulkAll {H : Type} : List (DataW H) → Nat
  | [] => 0
  | d :: r => uptoBulk d + uptoBulkAll r
def uptoBulkEntries {H : Type} : List (Lit × DataW H) → Nat
  | [] => 0
  | x :: r => uptoBulkEntry x + uptoBulkEntries r
def uptoBulkEntry {H : Type} : Lit × DataW H → Nat
  | (.string bytes, d) => bytes.length + uptoBulk d + 1
  | (_, d) => uptoBulk d + 1
 end
def uptoSmall : (H : Type) → List (DataW H) → Bool := fun _ ds => decide (uptoBulkAll ds ≤ 1048576)
def OpenSpec.upto (s : _root_.Go.ChangeSpec) : _root_.Go.OpenSpec := { _root_.Go.OpenSpec.ofChange s with cond := some uptoSmall }

/-- 'egresslaw03.ConfigChecks', WHERE WHAT IT READS IS OF BULK AT MOST 1048576: true; the input reads as it did. -/
def configChecksUptoRow : OpenClaim := { program := "ytgpglfkdpalmcaa", sum := "6d2ac99141a674c02acc581a8cf82e4340989116f23b7a149104c07340b7f051", func := "egress/egresslaw03.ConfigChecks", spec := "configChecks", unfollowed := true, recurses := true, apart := false, narrowed := true }
def ConfigChecksUptoSaid : Prop := configChecksUptoRow.holds Try.pinned (OpenSpec.upto configChecksSpec)

/-- 'egresslaw03.ConfigDefault', WHERE WHAT IT READS IS OF BULK AT MOST 1048576: true; the input reads as it did. -/
def configDefaultUptoRow : OpenClaim := { program := "ytgpglfkdpalmcaa", sum := "6d2ac99141a674c02acc581a8cf82e4340989116f23b7a149104c07340b7f051", func := "egress/egresslaw03.ConfigDefault", spec := "configDefault", unfollowed := true, recurses := true, apart := false, narrowed := true }
def ConfigDefaultUptoSaid : Prop := configDefaultUptoRow.holds Try.pinned (OpenSpec.upto configDefaultSpec)

/-- 'egresslaw03.ConfigSweeps', WHERE WHAT IT READS IS OF BULK AT MOST 1048576: true; the input reads as it did. -/
def configSweepsUptoRow : OpenClaim := { program := "ytgpglfkdpalmcaa", sum := "6d2ac99141a674c02acc581a8cf82e4340989116f23b7a149104c07340b7f051", func := "egress/egresslaw03.ConfigSweeps", spec := "configSweeps", unfollowed := true, recurses := true, apart := false, narrowed := true }
def ConfigSweepsUptoSaid : Prop := configSweepsUptoRow.holds Try.pinned (OpenSpec.upto configSweepsSpec)

/-- 'egresslaw03.ConfigCovers', WHERE WHAT IT READS IS OF BULK AT MOST 1048576: true; the input reads as it did. -/
def configCoversUptoRow : OpenClaim := { program := "ytgpglfkdpalmcaa", sum := "6d2ac99141a674c02acc581a8cf82e4340989116f23b7a149104c07340b7f051", func := "egress/egresslaw03.ConfigCovers", spec := "configCovers", unfollowed := true, recurses := true, apart := false, narrowed := true }
def ConfigCoversUptoSaid : Prop := configCoversUptoRow.holds Try.pinned (OpenSpec.upto configCoversSpec)

/-- 'egresslaw03.ConfigFirst', WHERE WHAT IT READS IS OF BULK AT MOST 1048576: true; the input reads as it did. -/
def configFirstUptoRow : OpenClaim := { program := "ytgpglfkdpalmcaa", sum := "6d2ac99141a674c02acc581a8cf82e4340989116f23b7a149104c07340b7f051", func := "egress/egresslaw03.ConfigFirst", spec := "configFirst", unfollowed := true, recurses := true, apart := false, narrowed := true }
def ConfigFirstUptoSaid : Prop := configFirstUptoRow.holds Try.pinned (OpenSpec.upto configFirstSpec)

/-- 'egresslaw03.ConfigSets', WHERE WHAT IT READS IS OF BULK AT MOST 1048576: true; the input reads as it did. -/
def configSetsUptoRow : OpenClaim := { program := "ytgpglfkdpalmcaa", sum := "6d2ac99141a674c02acc581a8cf82e4340989116f23b7a149104c07340b7f051", func := "egress/egresslaw03.ConfigSets", spec := "configSets", unfollowed := true, recurses := true, apart := false, narrowed := true }
def ConfigSetsUptoSaid : Prop := configSetsUptoRow.holds Try.pinned (OpenSpec.upto configSetsSpec)

end Rows
end Go.Proofs.Ytgpglfkdpalmcaa
