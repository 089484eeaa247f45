/-
  No cell of these rows narrows 'for every input' (looked for: loops, veiled, ifaces, maps, wideKeys, modest, calm, conditions, laid).
  DERIVED. THE GIVEN ROWS OF THIS SEAT. 4 by the template 'for every input the law returns true; each argument reads behind the call as it read before'; 0 by the template 'total and deterministic' (their statements: YtecapfmmoejikaaGreatTotals.lean).
  GIVEN WITH THE SEED: the statements are not yours to turn. If you find one false, say at which input.
  Laid BY PROGRAM, IN A SANDBOX (cutbox-rows.mjs): the forced cells as the released guide's own fill.sh prints them over the translation ffacbcb8423717a7… (all of the seat's roots in one cut). By AI agents, Wed Nov 11 2026. No macro, syntax, notation, axiom, sorry.
-/
import Derived.Test.YtecapfmmoejikaaGreatChecked
import GoSem.Claim
import GoSem.ClaimJoined
import GoSem.ClaimMapViews
import Derived.JoinedTies
import Derived.KernelRfl
namespace Go.Proofs.YtecapfmmoejikaaGreat
/- THE CELL 'sum', in the pinned program and in every row, IS THE sha256 OF THE DUMP (.gsa) THAT YtecapfmmoejikaaGreatProg.lean LOADS. Nothing in Lean hashes anything: it is a label: what it is worth is what the hold of that sum in a sandbox is worth. -/
noncomputable def Tryz.pinned : Pinned := { name := "ytecapfmmoejikaagreat", sum := "ffacbcb8423717a7647fb2afcf404b6bf10c82f15b3236850600fb7f7bda7217", checked := Tryz.checked }
namespace Rows
def none {H : Type} : Left H := { results := [], args := [] }

/-- 'egresstop.TopChurn': WHATEVER THE INPUT: true; the input reads as it did. -/
def topChurnSpec : ChangeSpec := { name := "topChurn", fn := fun _ => fun
  | [d1, d2] => { results := [.lit (.bool true)], args := [d1, d2] }
  | _ => none }
def topChurnRow : OpenClaim := { program := "ytecapfmmoejikaagreat", sum := "ffacbcb8423717a7647fb2afcf404b6bf10c82f15b3236850600fb7f7bda7217", func := "egress/egresstop.TopChurn", spec := "topChurn", unfollowed := true, recurses := true, named := ["math/bits.divideError", "math/bits.overflowError"], plainKeys := false, apart := false }
def TopChurnSaid : Prop := topChurnRow.holds Tryz.pinned (OpenSpec.ofChange topChurnSpec)

/-- ITS FALSE NEIGHBOUR: 'it returns false'. Refute it at one input. -/
def topChurnWrong : ChangeSpec := { name := "topChurn", fn := fun _ => fun
  | [d1, d2] => { results := [.lit (.bool false)], args := [d1, d2] }
  | _ => none }
def TopChurnWrongFalsely : Prop := topChurnRow.holds Tryz.pinned (OpenSpec.ofChange topChurnWrong)

/-- 'egresstop.TopSums': WHATEVER THE INPUT: true; the input reads as it did. -/
def topSumsSpec : ChangeSpec := { name := "topSums", fn := fun _ => fun
  | [d1, d2] => { results := [.lit (.bool true)], args := [d1, d2] }
  | _ => none }
def topSumsRow : OpenClaim := { program := "ytecapfmmoejikaagreat", sum := "ffacbcb8423717a7647fb2afcf404b6bf10c82f15b3236850600fb7f7bda7217", func := "egress/egresstop.TopSums", spec := "topSums", unfollowed := true, recurses := true, named := ["math/bits.divideError", "math/bits.overflowError"], plainKeys := false, apart := false }
def TopSumsSaid : Prop := topSumsRow.holds Tryz.pinned (OpenSpec.ofChange topSumsSpec)

/-- ITS FALSE NEIGHBOUR: 'it returns false'. Refute it at one input. -/
def topSumsWrong : ChangeSpec := { name := "topSums", fn := fun _ => fun
  | [d1, d2] => { results := [.lit (.bool false)], args := [d1, d2] }
  | _ => none }
def TopSumsWrongFalsely : Prop := topSumsRow.holds Tryz.pinned (OpenSpec.ofChange topSumsWrong)

/-- 'egresstop.TopMinimum': WHATEVER THE INPUT: true; the input reads as it did. -/
def topMinimumSpec : ChangeSpec := { name := "topMinimum", fn := fun _ => fun
  | [d1, d2] => { results := [.lit (.bool true)], args := [d1, d2] }
  | _ => none }
def topMinimumRow : OpenClaim := { program := "ytecapfmmoejikaagreat", sum := "ffacbcb8423717a7647fb2afcf404b6bf10c82f15b3236850600fb7f7bda7217", func := "egress/egresstop.TopMinimum", spec := "topMinimum", unfollowed := true, recurses := true, named := ["math/bits.divideError", "math/bits.overflowError"], plainKeys := false, apart := false }
def TopMinimumSaid : Prop := topMinimumRow.holds Tryz.pinned (OpenSpec.ofChange topMinimumSpec)

/-- ITS FALSE NEIGHBOUR: 'it returns false'. Refute it at one input. -/
def topMinimumWrong : ChangeSpec := { name := "topMinimum", fn := fun _ => fun
  | [d1, d2] => { results := [.lit (.bool false)], args := [d1, d2] }
  | _ => none }
def TopMinimumWrongFalsely : Prop := topMinimumRow.holds Tryz.pinned (OpenSpec.ofChange topMinimumWrong)

/-- 'egresstop.TopWork': WHATEVER THE INPUT: true; the input reads as it did. -/
def topWorkSpec : ChangeSpec := { name := "topWork", fn := fun _ => fun
  | [d1, d2] => { results := [.lit (.bool true)], args := [d1, d2] }
  | _ => none }
def topWorkRow : OpenClaim := { program := "ytecapfmmoejikaagreat", sum := "ffacbcb8423717a7647fb2afcf404b6bf10c82f15b3236850600fb7f7bda7217", func := "egress/egresstop.TopWork", spec := "topWork", unfollowed := true, recurses := true, named := ["math/bits.divideError", "math/bits.overflowError"], plainKeys := false, apart := false }
def TopWorkSaid : Prop := topWorkRow.holds Tryz.pinned (OpenSpec.ofChange topWorkSpec)

/-- ITS FALSE NEIGHBOUR: 'it returns false'. Refute it at one input. -/
def topWorkWrong : ChangeSpec := { name := "topWork", fn := fun _ => fun
  | [d1, d2] => { results := [.lit (.bool false)], args := [d1, d2] }
  | _ => none }
def TopWorkWrongFalsely : Prop := topWorkRow.holds Tryz.pinned (OpenSpec.ofChange topWorkWrong)

/- THE SECOND FORM. 'bulk': how many values and letters a reading holds, each counted each time it is reached (what is shared counts as often as it is met; a slice's spare places count too). A statement '..UptoSaid' is the law's where the arguments, and the package variables that the reading takes, are together of bulk at most 1048576: NARROWER than '..Said'. Prove '..Said' where nothing that the law and all that it calls make is longer than what came in: it says more and counts as full. Else prove '..UptoSaid'. A law counts once. -/
mutual
def uptoBulk {H : Type} : DataW H → Nat
  | .lit (.string bytes) => bytes.length + 1
  | .lit _ => 1
  | .nil => 1
  | .ptr d => uptoBulk d + 1
  | .slice elems spare => uptoBulkAll elems + uptoBulkAll spare + 1
  | .agg parts => uptoBulkAll parts + 1
  | .iface _ d => uptoBulk d + 1
  | .map entries => uptoBulkEntries entries + 1
  | .held _ => 1
def uptoBulkAll {H : Type} : List (DataW H) → Nat
  | [] => 0
  | d :: r => uptoBulk d + uptoBulkAll r
def uptoBulkEntries {H : Type} : List (Lit × DataW H) → Nat
  | [] => 0
  | x :: r => uptoBulkEntry x + uptoBulkEntries r
def uptoBulkEntry {H : Type} : Lit × DataW H → Nat
  | (.string bytes, d) => bytes.length + uptoBulk d + 1
  | (_, d) => uptoBulk d + 1
 end
def uptoSmall : (H : Type) → List (DataW H) → Bool := fun _ ds => decide (uptoBulkAll ds ≤ 1048576)
def OpenSpec.upto (s : _root_.Go.ChangeSpec) : _root_.Go.OpenSpec := { _root_.Go.OpenSpec.ofChange s with cond := some uptoSmall }

/-- 'egresstop.TopChurn', WHERE WHAT IT READS IS OF BULK AT MOST 1048576: true; the input reads as it did. -/
def topChurnUptoRow : OpenClaim := { program := "ytecapfmmoejikaagreat", sum := "ffacbcb8423717a7647fb2afcf404b6bf10c82f15b3236850600fb7f7bda7217", func := "egress/egresstop.TopChurn", spec := "topChurn", unfollowed := true, recurses := true, named := ["math/bits.divideError", "math/bits.overflowError"], plainKeys := false, apart := false, narrowed := true }
def TopChurnUptoSaid : Prop := topChurnUptoRow.holds Tryz.pinned (OpenSpec.upto topChurnSpec)

/-- 'egresstop.TopSums', WHERE WHAT IT READS IS OF BULK AT MOST 1048576: true; the input reads as it did. -/
def topSumsUptoRow : OpenClaim := { program := "ytecapfmmoejikaagreat", sum := "ffacbcb8423717a7647fb2afcf404b6bf10c82f15b3236850600fb7f7bda7217", func := "egress/egresstop.TopSums", spec := "topSums", unfollowed := true, recurses := true, named := ["math/bits.divideError", "math/bits.overflowError"], plainKeys := false, apart := false, narrowed := true }
def TopSumsUptoSaid : Prop := topSumsUptoRow.holds Tryz.pinned (OpenSpec.upto topSumsSpec)

/-- 'egresstop.TopMinimum', WHERE WHAT IT READS IS OF BULK AT MOST 1048576: true; the input reads as it did. -/
def topMinimumUptoRow : OpenClaim := { program := "ytecapfmmoejikaagreat", sum := "ffacbcb8423717a7647fb2afcf404b6bf10c82f15b3236850600fb7f7bda7217", func := "egress/egresstop.TopMinimum", spec := "topMinimum", unfollowed := true, recurses := true, named := ["math/bits.divideError", "math/bits.overflowError"], plainKeys := false, apart := false, narrowed := true }
def TopMinimumUptoSaid : Prop := topMinimumUptoRow.holds Tryz.pinned (OpenSpec.upto topMinimumSpec)

/-- 'egresstop.TopWork', WHERE WHAT IT READS IS OF BULK AT MOST 1048576: true; the input reads as it did. -/
def topWorkUptoRow : OpenClaim := { program := "ytecapfmmoejikaagreat", sum := "ffacbcb8423717a7647fb2afcf404b6bf10c82f15b3236850600fb7f7bda7217", func := "egress/egresstop.TopWork", spec := "topWork", unfollowed := true, recurses := true, named := ["math/bits.divideError", "math/bits.overflowError"], plainKeys := false, apart := false, narrowed := true }
def TopWorkUptoSaid : Prop := topWorkUptoRow.holds Tryz.pinned (OpenSpec.upto topWorkSpec)

end Rows
end Go.Proofs.YtecapfmmoejikaaGreat
