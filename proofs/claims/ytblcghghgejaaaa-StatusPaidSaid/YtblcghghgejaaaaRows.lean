/-
  No cell of these rows narrows 'for every input' (looked for: loops, veiled, ifaces, maps, wideKeys, modest, calm, conditions, laid).
  DERIVED. THE GIVEN ROWS OF THIS SEAT. 6 by the template 'for every input the law returns true; each argument reads behind the call as it read before'; 0 by the template 'total and deterministic' (their statements: YtblcghghgejaaaaTotals.lean).
  GIVEN WITH THE SEED: the statements are not yours to turn. If you find one false, say at which input.
  Laid BY PROGRAM, IN A SANDBOX (cutbox-rows.mjs): the forced cells as the released guide's own fill.sh prints them over the translation 7cb46db822288ef4… (all of the seat's roots in one cut). By AI agents, Wed Nov 11 2026. No macro, syntax, notation, axiom, sorry.
-/
import Derived.Test.YtblcghghgejaaaaChecked
import GoSem.Claim
import GoSem.ClaimJoined
import GoSem.ClaimMapViews
import Derived.JoinedTies
import Derived.KernelRfl
namespace Go.Proofs.Ytblcghghgejaaaa
/- THE CELL 'sum', in the pinned program and in every row, IS THE sha256 OF THE DUMP (.gsa) THAT YtblcghghgejaaaaProg.lean LOADS. Nothing in Lean hashes anything: it is a label: what it is worth is what the hold of that sum in a sandbox is worth. -/
noncomputable def Try.pinned : Pinned := { name := "ytblcghghgejaaaa", sum := "7cb46db822288ef4881fc7022274c8ad7c97c86102c6079ad176b5d709030e6f", checked := Try.checked }
namespace Rows
def none {H : Type} : Left H := { results := [], args := [] }

/-- 'egresslaw05.StatusNext': WHATEVER THE INPUT: true; the input reads as it did. -/
def statusNextSpec : ChangeSpec := { name := "statusNext", fn := fun _ => fun
  | [d1, d2] => { results := [.lit (.bool true)], args := [d1, d2] }
  | _ => none }
def statusNextRow : OpenClaim := { program := "ytblcghghgejaaaa", sum := "7cb46db822288ef4881fc7022274c8ad7c97c86102c6079ad176b5d709030e6f", func := "egress/egresslaw05.StatusNext", spec := "statusNext", plainKeys := false, apart := false }
def StatusNextSaid : Prop := statusNextRow.holds Try.pinned (OpenSpec.ofChange statusNextSpec)

/-- ITS FALSE NEIGHBOUR: 'it returns false'. Refute it at one input. -/
def statusNextWrong : ChangeSpec := { name := "statusNext", fn := fun _ => fun
  | [d1, d2] => { results := [.lit (.bool false)], args := [d1, d2] }
  | _ => none }
def StatusNextWrongFalsely : Prop := statusNextRow.holds Try.pinned (OpenSpec.ofChange statusNextWrong)

/-- 'egresslaw05.StatusRuns': WHATEVER THE INPUT: true; the input reads as it did. -/
def statusRunsSpec : ChangeSpec := { name := "statusRuns", fn := fun _ => fun
  | [d1, d2] => { results := [.lit (.bool true)], args := [d1, d2] }
  | _ => none }
def statusRunsRow : OpenClaim := { program := "ytblcghghgejaaaa", sum := "7cb46db822288ef4881fc7022274c8ad7c97c86102c6079ad176b5d709030e6f", func := "egress/egresslaw05.StatusRuns", spec := "statusRuns", plainKeys := false, apart := false }
def StatusRunsSaid : Prop := statusRunsRow.holds Try.pinned (OpenSpec.ofChange statusRunsSpec)

/-- ITS FALSE NEIGHBOUR: 'it returns false'. Refute it at one input. -/
def statusRunsWrong : ChangeSpec := { name := "statusRuns", fn := fun _ => fun
  | [d1, d2] => { results := [.lit (.bool false)], args := [d1, d2] }
  | _ => none }
def StatusRunsWrongFalsely : Prop := statusRunsRow.holds Try.pinned (OpenSpec.ofChange statusRunsWrong)

/-- 'egresslaw05.StatusPaid': WHATEVER THE INPUT: true; the input reads as it did. -/
def statusPaidSpec : ChangeSpec := { name := "statusPaid", fn := fun _ => fun
  | [d] => { results := [.lit (.bool true)], args := [d] }
  | _ => none }
def statusPaidRow : OpenClaim := { program := "ytblcghghgejaaaa", sum := "7cb46db822288ef4881fc7022274c8ad7c97c86102c6079ad176b5d709030e6f", func := "egress/egresslaw05.StatusPaid", spec := "statusPaid", plainKeys := false, apart := false }
def StatusPaidSaid : Prop := statusPaidRow.holds Try.pinned (OpenSpec.ofChange statusPaidSpec)

/-- ITS FALSE NEIGHBOUR: 'it returns false'. Refute it at one input. -/
def statusPaidWrong : ChangeSpec := { name := "statusPaid", fn := fun _ => fun
  | [d] => { results := [.lit (.bool false)], args := [d] }
  | _ => none }
def StatusPaidWrongFalsely : Prop := statusPaidRow.holds Try.pinned (OpenSpec.ofChange statusPaidWrong)

/-- 'egresslaw05.StatusSlash': WHATEVER THE INPUT: true; the input reads as it did. -/
def statusSlashSpec : ChangeSpec := { name := "statusSlash", fn := fun _ => fun
  | [d] => { results := [.lit (.bool true)], args := [d] }
  | _ => none }
def statusSlashRow : OpenClaim := { program := "ytblcghghgejaaaa", sum := "7cb46db822288ef4881fc7022274c8ad7c97c86102c6079ad176b5d709030e6f", func := "egress/egresslaw05.StatusSlash", spec := "statusSlash", plainKeys := false, apart := false }
def StatusSlashSaid : Prop := statusSlashRow.holds Try.pinned (OpenSpec.ofChange statusSlashSpec)

/-- ITS FALSE NEIGHBOUR: 'it returns false'. Refute it at one input. -/
def statusSlashWrong : ChangeSpec := { name := "statusSlash", fn := fun _ => fun
  | [d] => { results := [.lit (.bool false)], args := [d] }
  | _ => none }
def StatusSlashWrongFalsely : Prop := statusSlashRow.holds Try.pinned (OpenSpec.ofChange statusSlashWrong)

/-- 'egresslaw05.StatusKinds': WHATEVER THE INPUT: true; the input reads as it did. -/
def statusKindsSpec : ChangeSpec := { name := "statusKinds", fn := fun _ => fun
  | [d1, d2] => { results := [.lit (.bool true)], args := [d1, d2] }
  | _ => none }
def statusKindsRow : OpenClaim := { program := "ytblcghghgejaaaa", sum := "7cb46db822288ef4881fc7022274c8ad7c97c86102c6079ad176b5d709030e6f", func := "egress/egresslaw05.StatusKinds", spec := "statusKinds", plainKeys := false, apart := false }
def StatusKindsSaid : Prop := statusKindsRow.holds Try.pinned (OpenSpec.ofChange statusKindsSpec)

/-- ITS FALSE NEIGHBOUR: 'it returns false'. Refute it at one input. -/
def statusKindsWrong : ChangeSpec := { name := "statusKinds", fn := fun _ => fun
  | [d1, d2] => { results := [.lit (.bool false)], args := [d1, d2] }
  | _ => none }
def StatusKindsWrongFalsely : Prop := statusKindsRow.holds Try.pinned (OpenSpec.ofChange statusKindsWrong)

/-- 'egresslaw05.StatusNames': WHATEVER THE INPUT: true; the input reads as it did. -/
def statusNamesSpec : ChangeSpec := { name := "statusNames", fn := fun _ => fun
  | [d1, d2] => { results := [.lit (.bool true)], args := [d1, d2] }
  | _ => none }
def statusNamesRow : OpenClaim := { program := "ytblcghghgejaaaa", sum := "7cb46db822288ef4881fc7022274c8ad7c97c86102c6079ad176b5d709030e6f", func := "egress/egresslaw05.StatusNames", spec := "statusNames", plainKeys := false, apart := false }
def StatusNamesSaid : Prop := statusNamesRow.holds Try.pinned (OpenSpec.ofChange statusNamesSpec)

/-- ITS FALSE NEIGHBOUR: 'it returns false'. Refute it at one input. -/
def statusNamesWrong : ChangeSpec := { name := "statusNames", fn := fun _ => fun
  | [d1, d2] => { results := [.lit (.bool false)], args := [d1, d2] }
  | _ => none }
def StatusNamesWrongFalsely : Prop := statusNamesRow.holds Try.pinned (OpenSpec.ofChange statusNamesWrong)

/- THE SECOND FORM. 'bulk': how many values and letters a reading holds, each counted each time it is reached (what is shared counts as often as it is met; a slice's spare places count too). A statement '..UptoSaid' is the law's where the arguments, and the package variables that the reading takes, are together of bulk at most 1048576: NARROWER than '..Said'. Prove '..Said' where nothing that the law and all that it calls make is longer than what came in: it says more and counts as full. Else prove '..UptoSaid'. A law counts once. -/
mutual
def uptoBulk {H : Type} : DataW H → Nat
  | .lit (.string bytes) => bytes.length + 1
  | .lit _ => 1
  | .nil => 1
  | .ptr d => uptoBulk d + 1
  | .slice elems spare => uptoBulkAll elems + uptoBulkAll spare + 1
  | .agg parts => uptoBulkAll parts + 1
  | .iface _ d => uptoBulk d + 1
  | .map entries => uptoBulkEntries entries + 1
  | .held _ => 1
def uptoBulkAll {H : Type} : List (DataW H) → Nat
  | [] => 0
  | d :: r => uptoBulk d + uptoBulkAll r
def uptoBulkEntries {H : Type} : List (Lit × DataW H) → Nat
  | [] => 0
  | x :: r => uptoBulkEntry x + uptoBulkEntries r
def uptoBulkEntry {H : Type} : Lit × DataW H → Nat
  | (.string bytes, d) => bytes.length + uptoBulk d + 1
  | (_, d) => uptoBulk d + 1
 end
def uptoSmall : (H : Type) → List (DataW H) → Bool := fun _ ds => decide (uptoBulkAll ds ≤ 1048576)
def OpenSpec.upto (s : _root_.Go.ChangeSpec) : _root_.Go.OpenSpec := { _root_.Go.OpenSpec.ofChange s with cond := some uptoSmall }

/-- 'egresslaw05.StatusNext', WHERE WHAT IT READS IS OF BULK AT MOST 1048576: true; the input reads as it did. -/
def statusNextUptoRow : OpenClaim := { program := "ytblcghghgejaaaa", sum := "7cb46db822288ef4881fc7022274c8ad7c97c86102c6079ad176b5d709030e6f", func := "egress/egresslaw05.StatusNext", spec := "statusNext", plainKeys := false, apart := false, narrowed := true }
def StatusNextUptoSaid : Prop := statusNextUptoRow.holds Try.pinned (OpenSpec.upto statusNextSpec)

/-- 'egresslaw05.StatusRuns', WHERE WHAT IT READS IS OF BULK AT MOST 1048576: true; the input reads as it did. -/
def statusRunsUptoRow : OpenClaim := { program := "ytblcghghgejaaaa", sum := "7cb46db822288ef4881fc7022274c8ad7c97c86102c6079ad176b5d709030e6f", func := "egress/egresslaw05.StatusRuns", spec := "statusRuns", plainKeys := false, apart := false, narrowed := true }
def StatusRunsUptoSaid : Prop := statusRunsUptoRow.holds Try.pinned (OpenSpec.upto statusRunsSpec)

/-- 'egresslaw05.StatusPaid', WHERE WHAT IT READS IS OF BULK AT MOST 1048576: true; the input reads as it did. -/
def statusPaidUptoRow : OpenClaim := { program := "ytblcghghgejaaaa", sum := "7cb46db822288ef4881fc7022274c8ad7c97c86102c6079ad176b5d709030e6f", func := "egress/egresslaw05.StatusPaid", spec := "statusPaid", plainKeys := false, apart := false, narrowed := true }
def StatusPaidUptoSaid : Prop := statusPaidUptoRow.holds Try.pinned (OpenSpec.upto statusPaidSpec)

/-- 'egresslaw05.StatusSlash', WHERE WHAT IT READS IS OF BULK AT MOST 1048576: true; the input reads as it did. -/
def statusSlashUptoRow : OpenClaim := { program := "ytblcghghgejaaaa", sum := "7cb46db822288ef4881fc7022274c8ad7c97c86102c6079ad176b5d709030e6f", func := "egress/egresslaw05.StatusSlash", spec := "statusSlash", plainKeys := false, apart := false, narrowed := true }
def StatusSlashUptoSaid : Prop := statusSlashUptoRow.holds Try.pinned (OpenSpec.upto statusSlashSpec)

/-- 'egresslaw05.StatusKinds', WHERE WHAT IT READS IS OF BULK AT MOST 1048576: true; the input reads as it did. -/
def statusKindsUptoRow : OpenClaim := { program := "ytblcghghgejaaaa", sum := "7cb46db822288ef4881fc7022274c8ad7c97c86102c6079ad176b5d709030e6f", func := "egress/egresslaw05.StatusKinds", spec := "statusKinds", plainKeys := false, apart := false, narrowed := true }
def StatusKindsUptoSaid : Prop := statusKindsUptoRow.holds Try.pinned (OpenSpec.upto statusKindsSpec)

/-- 'egresslaw05.StatusNames', WHERE WHAT IT READS IS OF BULK AT MOST 1048576: true; the input reads as it did. -/
def statusNamesUptoRow : OpenClaim := { program := "ytblcghghgejaaaa", sum := "7cb46db822288ef4881fc7022274c8ad7c97c86102c6079ad176b5d709030e6f", func := "egress/egresslaw05.StatusNames", spec := "statusNames", plainKeys := false, apart := false, narrowed := true }
def StatusNamesUptoSaid : Prop := statusNamesUptoRow.holds Try.pinned (OpenSpec.upto statusNamesSpec)

end Rows
end Go.Proofs.Ytblcghghgejaaaa
