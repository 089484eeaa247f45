/-
  No cell of these rows narrows 'for every input' (looked for: loops, veiled, ifaces, maps, wideKeys, modest, calm, conditions, laid).
  DERIVED. THE GIVEN ROWS OF THIS SEAT. 6 by the template 'for every input the law returns true; each argument reads behind the call as it read before'; 0 by the template 'total and deterministic' (their statements: YtcipelkomgpngaaTotals.lean).
  GIVEN WITH THE SEED: the statements are not yours to turn. If you find one false, say at which input.
  Laid BY PROGRAM, IN A SANDBOX (cutbox-rows.mjs): the forced cells as the released guide's own fill.sh prints them over the translation 240b8888afd99038… (all of the seat's roots in one cut). By AI agents, Wed Nov 11 2026. No macro, syntax, notation, axiom, sorry.
-/
import Derived.Test.YtcipelkomgpngaaChecked
import GoSem.Claim
import GoSem.ClaimJoined
import GoSem.ClaimMapViews
import Derived.JoinedTies
import Derived.KernelRfl
namespace Go.Proofs.Ytcipelkomgpngaa
/- THE CELL 'sum', in the pinned program and in every row, IS THE sha256 OF THE DUMP (.gsa) THAT YtcipelkomgpngaaProg.lean LOADS. Nothing in Lean hashes anything: it is a label: what it is worth is what the hold of that sum in a sandbox is worth. -/
noncomputable def Try.pinned : Pinned := { name := "ytcipelkomgpngaa", sum := "240b8888afd990384d73744f7af0e6cf9718fb4d3e0155cd53b486d2d0f75287", checked := Try.checked }
namespace Rows
def none {H : Type} : Left H := { results := [], args := [] }

/-- 'egresslaw06.LedgerRoom': WHATEVER THE INPUT: true; the input reads as it did. -/
def ledgerRoomSpec : ChangeSpec := { name := "ledgerRoom", fn := fun _ => fun
  | [d1, d2, d3] => { results := [.lit (.bool true)], args := [d1, d2, d3] }
  | _ => none }
def ledgerRoomRow : OpenClaim := { program := "ytcipelkomgpngaa", sum := "240b8888afd990384d73744f7af0e6cf9718fb4d3e0155cd53b486d2d0f75287", func := "egress/egresslaw06.LedgerRoom", spec := "ledgerRoom", apart := false }
def LedgerRoomSaid : Prop := ledgerRoomRow.holds Try.pinned (OpenSpec.ofChange ledgerRoomSpec)

/-- ITS FALSE NEIGHBOUR: 'it returns false'. Refute it at one input. -/
def ledgerRoomWrong : ChangeSpec := { name := "ledgerRoom", fn := fun _ => fun
  | [d1, d2, d3] => { results := [.lit (.bool false)], args := [d1, d2, d3] }
  | _ => none }
def LedgerRoomWrongFalsely : Prop := ledgerRoomRow.holds Try.pinned (OpenSpec.ofChange ledgerRoomWrong)

/-- 'egresslaw06.LedgerBooks': WHATEVER THE INPUT: true; the input reads as it did. -/
def ledgerBooksSpec : ChangeSpec := { name := "ledgerBooks", fn := fun _ => fun
  | [d1, d2] => { results := [.lit (.bool true)], args := [d1, d2] }
  | _ => none }
def ledgerBooksRow : OpenClaim := { program := "ytcipelkomgpngaa", sum := "240b8888afd990384d73744f7af0e6cf9718fb4d3e0155cd53b486d2d0f75287", func := "egress/egresslaw06.LedgerBooks", spec := "ledgerBooks", apart := false }
def LedgerBooksSaid : Prop := ledgerBooksRow.holds Try.pinned (OpenSpec.ofChange ledgerBooksSpec)

/-- ITS FALSE NEIGHBOUR: 'it returns false'. Refute it at one input. -/
def ledgerBooksWrong : ChangeSpec := { name := "ledgerBooks", fn := fun _ => fun
  | [d1, d2] => { results := [.lit (.bool false)], args := [d1, d2] }
  | _ => none }
def LedgerBooksWrongFalsely : Prop := ledgerBooksRow.holds Try.pinned (OpenSpec.ofChange ledgerBooksWrong)

/-- 'egresslaw06.LedgerBalances': WHATEVER THE INPUT: true; the input reads as it did. -/
def ledgerBalancesSpec : ChangeSpec := { name := "ledgerBalances", fn := fun _ => fun
  | [d1, d2] => { results := [.lit (.bool true)], args := [d1, d2] }
  | _ => none }
def ledgerBalancesRow : OpenClaim := { program := "ytcipelkomgpngaa", sum := "240b8888afd990384d73744f7af0e6cf9718fb4d3e0155cd53b486d2d0f75287", func := "egress/egresslaw06.LedgerBalances", spec := "ledgerBalances", apart := false }
def LedgerBalancesSaid : Prop := ledgerBalancesRow.holds Try.pinned (OpenSpec.ofChange ledgerBalancesSpec)

/-- ITS FALSE NEIGHBOUR: 'it returns false'. Refute it at one input. -/
def ledgerBalancesWrong : ChangeSpec := { name := "ledgerBalances", fn := fun _ => fun
  | [d1, d2] => { results := [.lit (.bool false)], args := [d1, d2] }
  | _ => none }
def LedgerBalancesWrongFalsely : Prop := ledgerBalancesRow.holds Try.pinned (OpenSpec.ofChange ledgerBalancesWrong)

/-- 'egresslaw06.LedgerRejects': WHATEVER THE INPUT: true; the input reads as it did. -/
def ledgerRejectsSpec : ChangeSpec := { name := "ledgerRejects", fn := fun _ => fun
  | [d1, d2] => { results := [.lit (.bool true)], args := [d1, d2] }
  | _ => none }
def ledgerRejectsRow : OpenClaim := { program := "ytcipelkomgpngaa", sum := "240b8888afd990384d73744f7af0e6cf9718fb4d3e0155cd53b486d2d0f75287", func := "egress/egresslaw06.LedgerRejects", spec := "ledgerRejects", apart := false }
def LedgerRejectsSaid : Prop := ledgerRejectsRow.holds Try.pinned (OpenSpec.ofChange ledgerRejectsSpec)

/-- ITS FALSE NEIGHBOUR: 'it returns false'. Refute it at one input. -/
def ledgerRejectsWrong : ChangeSpec := { name := "ledgerRejects", fn := fun _ => fun
  | [d1, d2] => { results := [.lit (.bool false)], args := [d1, d2] }
  | _ => none }
def LedgerRejectsWrongFalsely : Prop := ledgerRejectsRow.holds Try.pinned (OpenSpec.ofChange ledgerRejectsWrong)

/-- 'egresslaw06.LedgerEmpties': WHATEVER THE INPUT: true; the input reads as it did. -/
def ledgerEmptiesSpec : ChangeSpec := { name := "ledgerEmpties", fn := fun _ => fun
  | [d1, d2, d3] => { results := [.lit (.bool true)], args := [d1, d2, d3] }
  | _ => none }
def ledgerEmptiesRow : OpenClaim := { program := "ytcipelkomgpngaa", sum := "240b8888afd990384d73744f7af0e6cf9718fb4d3e0155cd53b486d2d0f75287", func := "egress/egresslaw06.LedgerEmpties", spec := "ledgerEmpties", apart := false }
def LedgerEmptiesSaid : Prop := ledgerEmptiesRow.holds Try.pinned (OpenSpec.ofChange ledgerEmptiesSpec)

/-- ITS FALSE NEIGHBOUR: 'it returns false'. Refute it at one input. -/
def ledgerEmptiesWrong : ChangeSpec := { name := "ledgerEmpties", fn := fun _ => fun
  | [d1, d2, d3] => { results := [.lit (.bool false)], args := [d1, d2, d3] }
  | _ => none }
def LedgerEmptiesWrongFalsely : Prop := ledgerEmptiesRow.holds Try.pinned (OpenSpec.ofChange ledgerEmptiesWrong)

/-- 'egresslaw06.LedgerNil': WHATEVER THE INPUT: true; the input reads as it did. -/
def ledgerNilSpec : ChangeSpec := { name := "ledgerNil", fn := fun _ => fun
  | [d] => { results := [.lit (.bool true)], args := [d] }
  | _ => none }
def ledgerNilRow : OpenClaim := { program := "ytcipelkomgpngaa", sum := "240b8888afd990384d73744f7af0e6cf9718fb4d3e0155cd53b486d2d0f75287", func := "egress/egresslaw06.LedgerNil", spec := "ledgerNil", apart := false }
def LedgerNilSaid : Prop := ledgerNilRow.holds Try.pinned (OpenSpec.ofChange ledgerNilSpec)

/-- ITS FALSE NEIGHBOUR: 'it returns false'. Refute it at one input. -/
def ledgerNilWrong : ChangeSpec := { name := "ledgerNil", fn := fun _ => fun
  | [d] => { results := [.lit (.bool false)], args := [d] }
  | _ => none }
def LedgerNilWrongFalsely : Prop := ledgerNilRow.holds Try.pinned (OpenSpec.ofChange ledgerNilWrong)

/- THE SECOND FORM. 'bulk': how many values and letters a reading holds, each counted each time it is reached (what is shared counts as often as it is met; a slice's spare places count too). A statement '..UptoSaid' is the law's where the arguments, and the package variables that the reading takes, are together of bulk at most 1048576: NARROWER than '..Said'. Prove '..Said' where nothing that the law and all that it calls make is longer than what came in: it says more and counts as full. Else prove '..UptoSaid'. A law counts once. -/
mutual
def uptoBulk {H : Type} : DataW H → Nat
  | .lit (.string bytes) => bytes.length + 1
  | .lit _ => 1
  | .nil => 1
  | .ptr d => uptoBulk d + 1
  | .slice elems spare => uptoBulkAll elems + uptoBulkAll spare + 1
  | .agg parts => uptoBulkAll parts + 1
  | .iface _ d => uptoBulk d + 1
  | .map entries => uptoBulkEntries entries + 1
  | .held _ => 1
def uptoBulkAll {H : Type} : List (DataW H) → Nat
  | [] => 0
  | d :: r => uptoBulk d + uptoBulkAll r
def uptoBulkEntries {H : Type} : List (Lit × DataW H) → Nat
  | [] => 0
  | x :: r => uptoBulkEntry x + uptoBulkEntries r
def uptoBulkEntry {H : Type} : Lit × DataW H → Nat
  | (.string bytes, d) => bytes.length + uptoBulk d + 1
  | (_, d) => uptoBulk d + 1
 end
def uptoSmall : (H : Type) → List (DataW H) → Bool := fun _ ds => decide (uptoBulkAll ds ≤ 1048576)
def OpenSpec.upto (s : _root_.Go.ChangeSpec) : _root_.Go.OpenSpec := { _root_.Go.OpenSpec.ofChange s with cond := some uptoSmall }

/-- 'egresslaw06.LedgerRoom', WHERE WHAT IT READS IS OF BULK AT MOST 1048576: true; the input reads as it did. -/
def ledgerRoomUptoRow : OpenClaim := { program := "ytcipelkomgpngaa", sum := "240b8888afd990384d73744f7af0e6cf9718fb4d3e0155cd53b486d2d0f75287", func := "egress/egresslaw06.LedgerRoom", spec := "ledgerRoom", apart := false, narrowed := true }
def LedgerRoomUptoSaid : Prop := ledgerRoomUptoRow.holds Try.pinned (OpenSpec.upto ledgerRoomSpec)

/-- 'egresslaw06.LedgerBooks', WHERE WHAT IT READS IS OF BULK AT MOST 1048576: true; the input reads as it did. -/
def ledgerBooksUptoRow : OpenClaim := { program := "ytcipelkomgpngaa", sum := "240b8888afd990384d73744f7af0e6cf9718fb4d3e0155cd53b486d2d0f75287", func := "egress/egresslaw06.LedgerBooks", spec := "ledgerBooks", apart := false, narrowed := true }
def LedgerBooksUptoSaid : Prop := ledgerBooksUptoRow.holds Try.pinned (OpenSpec.upto ledgerBooksSpec)

/-- 'egresslaw06.LedgerBalances', WHERE WHAT IT READS IS OF BULK AT MOST 1048576: true; the input reads as it did. -/
def ledgerBalancesUptoRow : OpenClaim := { program := "ytcipelkomgpngaa", sum := "240b8888afd990384d73744f7af0e6cf9718fb4d3e0155cd53b486d2d0f75287", func := "egress/egresslaw06.LedgerBalances", spec := "ledgerBalances", apart := false, narrowed := true }
def LedgerBalancesUptoSaid : Prop := ledgerBalancesUptoRow.holds Try.pinned (OpenSpec.upto ledgerBalancesSpec)

/-- 'egresslaw06.LedgerRejects', WHERE WHAT IT READS IS OF BULK AT MOST 1048576: true; the input reads as it did. -/
def ledgerRejectsUptoRow : OpenClaim := { program := "ytcipelkomgpngaa", sum := "240b8888afd990384d73744f7af0e6cf9718fb4d3e0155cd53b486d2d0f75287", func := "egress/egresslaw06.LedgerRejects", spec := "ledgerRejects", apart := false, narrowed := true }
def LedgerRejectsUptoSaid : Prop := ledgerRejectsUptoRow.holds Try.pinned (OpenSpec.upto ledgerRejectsSpec)

/-- 'egresslaw06.LedgerEmpties', WHERE WHAT IT READS IS OF BULK AT MOST 1048576: true; the input reads as it did. -/
def ledgerEmptiesUptoRow : OpenClaim := { program := "ytcipelkomgpngaa", sum := "240b8888afd990384d73744f7af0e6cf9718fb4d3e0155cd53b486d2d0f75287", func := "egress/egresslaw06.LedgerEmpties", spec := "ledgerEmpties", apart := false, narrowed := true }
def LedgerEmptiesUptoSaid : Prop := ledgerEmptiesUptoRow.holds Try.pinned (OpenSpec.upto ledgerEmptiesSpec)

/-- 'egresslaw06.LedgerNil', WHERE WHAT IT READS IS OF BULK AT MOST 1048576: true; the input reads as it did. -/
def ledgerNilUptoRow : OpenClaim := { program := "ytcipelkomgpngaa", sum := "240b8888afd990384d73744f7af0e6cf9718fb4d3e0155cd53b486d2d0f75287", func := "egress/egresslaw06.LedgerNil", spec := "ledgerNil", apart := false, narrowed := true }
def LedgerNilUptoSaid : Prop := ledgerNilUptoRow.holds Try.pinned (OpenSpec.upto ledgerNilSpec)

end Rows
end Go.Proofs.Ytcipelkomgpngaa
