/-
  No cell of these rows narrows 'for every input' (looked for: loops, veiled, ifaces, maps, wideKeys, modest, calm, conditions, laid).
  DERIVED. THE GIVEN ROWS OF THIS SEAT. 6 by the template 'for every input the law returns true; each argument reads behind the call as it read before'; 0 by the template 'total and deterministic' (their statements: YtmbppeancpipiaaTotals.lean).
  GIVEN WITH THE SEED: the statements are not yours to turn. If you find one false, say at which input.
  Laid BY PROGRAM, IN A SANDBOX (cutbox-rows.mjs): the forced cells as the released guide's own fill.sh prints them over the translation 317fda3ec961b9a1… (all of the seat's roots in one cut). By AI agents, Wed Nov 11 2026. No macro, syntax, notation, axiom, sorry.
-/
import Derived.Test.YtmbppeancpipiaaChecked
import GoSem.Claim
import GoSem.ClaimJoined
import GoSem.ClaimMapViews
import Derived.JoinedTies
import Derived.KernelRfl
namespace Go.Proofs.Ytmbppeancpipiaa
/- THE CELL 'sum', in the pinned program and in every row, IS THE sha256 OF THE DUMP (.gsa) THAT YtmbppeancpipiaaProg.lean LOADS. Nothing in Lean hashes anything: it is a label: what it is worth is what the hold of that sum in a sandbox is worth. -/
noncomputable def Try.pinned : Pinned := { name := "ytmbppeancpipiaa", sum := "317fda3ec961b9a1d0fdf6e0ca7b47f607fa881b4595541e406e1b95cfaaa977", checked := Try.checked }
namespace Rows
def none {H : Type} : Left H := { results := [], args := [] }

/-- 'humpyardlaw35.BrakeMisses': WHATEVER THE INPUT: true; the input reads as it did. -/
def brakeMissesSpec : ChangeSpec := { name := "brakeMisses", fn := fun _ => fun
  | [d1, d2, d3] => { results := [.lit (.bool true)], args := [d1, d2, d3] }
  | _ => none }
def brakeMissesRow : OpenClaim := { program := "ytmbppeancpipiaa", sum := "317fda3ec961b9a1d0fdf6e0ca7b47f607fa881b4595541e406e1b95cfaaa977", func := "humpyard/humpyardlaw35.BrakeMisses", spec := "brakeMisses", apart := false }
def BrakeMissesSaid : Prop := brakeMissesRow.holds Try.pinned (OpenSpec.ofChange brakeMissesSpec)

/-- ITS FALSE NEIGHBOUR: 'it returns false'. Refute it at one input. -/
def brakeMissesWrong : ChangeSpec := { name := "brakeMisses", fn := fun _ => fun
  | [d1, d2, d3] => { results := [.lit (.bool false)], args := [d1, d2, d3] }
  | _ => none }
def BrakeMissesWrongFalsely : Prop := brakeMissesRow.holds Try.pinned (OpenSpec.ofChange brakeMissesWrong)

/-- 'humpyardlaw35.BrakeGrows': WHATEVER THE INPUT: true; the input reads as it did. -/
def brakeGrowsSpec : ChangeSpec := { name := "brakeGrows", fn := fun _ => fun
  | [d1, d2, d3, d4] => { results := [.lit (.bool true)], args := [d1, d2, d3, d4] }
  | _ => none }
def brakeGrowsRow : OpenClaim := { program := "ytmbppeancpipiaa", sum := "317fda3ec961b9a1d0fdf6e0ca7b47f607fa881b4595541e406e1b95cfaaa977", func := "humpyard/humpyardlaw35.BrakeGrows", spec := "brakeGrows", apart := false }
def BrakeGrowsSaid : Prop := brakeGrowsRow.holds Try.pinned (OpenSpec.ofChange brakeGrowsSpec)

/-- ITS FALSE NEIGHBOUR: 'it returns false'. Refute it at one input. -/
def brakeGrowsWrong : ChangeSpec := { name := "brakeGrows", fn := fun _ => fun
  | [d1, d2, d3, d4] => { results := [.lit (.bool false)], args := [d1, d2, d3, d4] }
  | _ => none }
def BrakeGrowsWrongFalsely : Prop := brakeGrowsRow.holds Try.pinned (OpenSpec.ofChange brakeGrowsWrong)

/-- 'humpyardlaw35.BrakeOffs': WHATEVER THE INPUT: true; the input reads as it did. -/
def brakeOffsSpec : ChangeSpec := { name := "brakeOffs", fn := fun _ => fun
  | [d1, d2] => { results := [.lit (.bool true)], args := [d1, d2] }
  | _ => none }
def brakeOffsRow : OpenClaim := { program := "ytmbppeancpipiaa", sum := "317fda3ec961b9a1d0fdf6e0ca7b47f607fa881b4595541e406e1b95cfaaa977", func := "humpyard/humpyardlaw35.BrakeOffs", spec := "brakeOffs", apart := false }
def BrakeOffsSaid : Prop := brakeOffsRow.holds Try.pinned (OpenSpec.ofChange brakeOffsSpec)

/-- ITS FALSE NEIGHBOUR: 'it returns false'. Refute it at one input. -/
def brakeOffsWrong : ChangeSpec := { name := "brakeOffs", fn := fun _ => fun
  | [d1, d2] => { results := [.lit (.bool false)], args := [d1, d2] }
  | _ => none }
def BrakeOffsWrongFalsely : Prop := brakeOffsRow.holds Try.pinned (OpenSpec.ofChange brakeOffsWrong)

/-- 'humpyardlaw35.BrakeTurns': WHATEVER THE INPUT: true; the input reads as it did. -/
def brakeTurnsSpec : ChangeSpec := { name := "brakeTurns", fn := fun _ => fun
  | [d1, d2] => { results := [.lit (.bool true)], args := [d1, d2] }
  | _ => none }
def brakeTurnsRow : OpenClaim := { program := "ytmbppeancpipiaa", sum := "317fda3ec961b9a1d0fdf6e0ca7b47f607fa881b4595541e406e1b95cfaaa977", func := "humpyard/humpyardlaw35.BrakeTurns", spec := "brakeTurns", apart := false }
def BrakeTurnsSaid : Prop := brakeTurnsRow.holds Try.pinned (OpenSpec.ofChange brakeTurnsSpec)

/-- ITS FALSE NEIGHBOUR: 'it returns false'. Refute it at one input. -/
def brakeTurnsWrong : ChangeSpec := { name := "brakeTurns", fn := fun _ => fun
  | [d1, d2] => { results := [.lit (.bool false)], args := [d1, d2] }
  | _ => none }
def BrakeTurnsWrongFalsely : Prop := brakeTurnsRow.holds Try.pinned (OpenSpec.ofChange brakeTurnsWrong)

/-- 'humpyardlaw35.BrakeExact': WHATEVER THE INPUT: true; the input reads as it did. -/
def brakeExactSpec : ChangeSpec := { name := "brakeExact", fn := fun _ => fun
  | [d1, d2, d3, d4, d5, d6] => { results := [.lit (.bool true)], args := [d1, d2, d3, d4, d5, d6] }
  | _ => none }
def brakeExactRow : OpenClaim := { program := "ytmbppeancpipiaa", sum := "317fda3ec961b9a1d0fdf6e0ca7b47f607fa881b4595541e406e1b95cfaaa977", func := "humpyard/humpyardlaw35.BrakeExact", spec := "brakeExact", apart := false }
def BrakeExactSaid : Prop := brakeExactRow.holds Try.pinned (OpenSpec.ofChange brakeExactSpec)

/-- ITS FALSE NEIGHBOUR: 'it returns false'. Refute it at one input. -/
def brakeExactWrong : ChangeSpec := { name := "brakeExact", fn := fun _ => fun
  | [d1, d2, d3, d4, d5, d6] => { results := [.lit (.bool false)], args := [d1, d2, d3, d4, d5, d6] }
  | _ => none }
def BrakeExactWrongFalsely : Prop := brakeExactRow.holds Try.pinned (OpenSpec.ofChange brakeExactWrong)

/-- 'humpyardlaw35.BrakeRuns': WHATEVER THE INPUT: true; the input reads as it did. -/
def brakeRunsSpec : ChangeSpec := { name := "brakeRuns", fn := fun _ => fun
  | [d1, d2] => { results := [.lit (.bool true)], args := [d1, d2] }
  | _ => none }
def brakeRunsRow : OpenClaim := { program := "ytmbppeancpipiaa", sum := "317fda3ec961b9a1d0fdf6e0ca7b47f607fa881b4595541e406e1b95cfaaa977", func := "humpyard/humpyardlaw35.BrakeRuns", spec := "brakeRuns", apart := false }
def BrakeRunsSaid : Prop := brakeRunsRow.holds Try.pinned (OpenSpec.ofChange brakeRunsSpec)

/-- ITS FALSE NEIGHBOUR: 'it returns false'. Refute it at one input. -/
def brakeRunsWrong : ChangeSpec := { name := "brakeRuns", fn := fun _ => fun
  | [d1, d2] => { results := [.lit (.bool false)], args := [d1, d2] }
  | _ => none }
def BrakeRunsWrongFalsely : Prop := brakeRunsRow.holds Try.pinned (OpenSpec.ofChange brakeRunsWrong)

/- THE SECOND FORM. 'bulk': how many values and letters a reading holds, each counted each time it is reached (what is shared counts as often as it is met; a slice's spare places count too). A statement '..UptoSaid' is the law's where the arguments, and the package variables that the reading takes, are together of bulk at most 1048576: NARROWER than '..Said'. Prove '..Said' where nothing that the law and all that it calls make is longer than what came in: it says more and counts as full. Else prove '..UptoSaid'. A law counts once. -/
mutual
def uptoBulk {H : Type} : DataW H → Nat
  | .lit (.string bytes) => bytes.length + 1
  | .lit _ => 1
  | .nil => 1
  | .ptr d => uptoBulk d + 1
  | .slice elems spare => uptoBulkAll elems + uptoBulkAll spare + 1
  | .agg parts => uptoBulkAll parts + 1
  | .iface _ d => uptoBulk d + 1
  | .map entries => uptoBulkEntries entries + 1
  | .held _ => 1
def uptoBulkAll {H : Type} : List (DataW H) → Nat
  | [] => 0
  | d :: r => uptoBulk d + uptoBulkAll r
def uptoBulkEntries {H : Type} : List (Lit × DataW H) → Nat
  | [] => 0
  | x :: r => uptoBulkEntry x + uptoBulkEntries r
def uptoBulkEntry {H : Type} : Lit × DataW H → Nat
  | (.string bytes, d) => bytes.length + uptoBulk d + 1
  | (_, d) => uptoBulk d + 1
 end
def uptoSmall : (H : Type) → List (DataW H) → Bool := fun _ ds => decide (uptoBulkAll ds ≤ 1048576)
def OpenSpec.upto (s : _root_.Go.ChangeSpec) : _root_.Go.OpenSpec := { _root_.Go.OpenSpec.ofChange s with cond := some uptoSmall }

/-- 'humpyardlaw35.BrakeMisses', WHERE WHAT IT READS IS OF BULK AT MOST 1048576: true; the input reads as it did. -/
def brakeMissesUptoRow : OpenClaim := { program := "ytmbppeancpipiaa", sum := "317fda3ec961b9a1d0fdf6e0ca7b47f607fa881b4595541e406e1b95cfaaa977", func := "humpyard/humpyardlaw35.BrakeMisses", spec := "brakeMisses", apart := false, narrowed := true }
def BrakeMissesUptoSaid : Prop := brakeMissesUptoRow.holds Try.pinned (OpenSpec.upto brakeMissesSpec)

/-- 'humpyardlaw35.BrakeGrows', WHERE WHAT IT READS IS OF BULK AT MOST 1048576: true; the input reads as it did. -/
def brakeGrowsUptoRow : OpenClaim := { program := "ytmbppeancpipiaa", sum := "317fda3ec961b9a1d0fdf6e0ca7b47f607fa881b4595541e406e1b95cfaaa977", func := "humpyard/humpyardlaw35.BrakeGrows", spec := "brakeGrows", apart := false, narrowed := true }
def BrakeGrowsUptoSaid : Prop := brakeGrowsUptoRow.holds Try.pinned (OpenSpec.upto brakeGrowsSpec)

/-- 'humpyardlaw35.BrakeOffs', WHERE WHAT IT READS IS OF BULK AT MOST 1048576: true; the input reads as it did. -/
def brakeOffsUptoRow : OpenClaim := { program := "ytmbppeancpipiaa", sum := "317fda3ec961b9a1d0fdf6e0ca7b47f607fa881b4595541e406e1b95cfaaa977", func := "humpyard/humpyardlaw35.BrakeOffs", spec := "brakeOffs", apart := false, narrowed := true }
def BrakeOffsUptoSaid : Prop := brakeOffsUptoRow.holds Try.pinned (OpenSpec.upto brakeOffsSpec)

/-- 'humpyardlaw35.BrakeTurns', WHERE WHAT IT READS IS OF BULK AT MOST 1048576: true; the input reads as it did. -/
def brakeTurnsUptoRow : OpenClaim := { program := "ytmbppeancpipiaa", sum := "317fda3ec961b9a1d0fdf6e0ca7b47f607fa881b4595541e406e1b95cfaaa977", func := "humpyard/humpyardlaw35.BrakeTurns", spec := "brakeTurns", apart := false, narrowed := true }
def BrakeTurnsUptoSaid : Prop := brakeTurnsUptoRow.holds Try.pinned (OpenSpec.upto brakeTurnsSpec)

/-- 'humpyardlaw35.BrakeExact', WHERE WHAT IT READS IS OF BULK AT MOST 1048576: true; the input reads as it did. -/
def brakeExactUptoRow : OpenClaim := { program := "ytmbppeancpipiaa", sum := "317fda3ec961b9a1d0fdf6e0ca7b47f607fa881b4595541e406e1b95cfaaa977", func := "humpyard/humpyardlaw35.BrakeExact", spec := "brakeExact", apart := false, narrowed := true }
def BrakeExactUptoSaid : Prop := brakeExactUptoRow.holds Try.pinned (OpenSpec.upto brakeExactSpec)

/-- 'humpyardlaw35.BrakeRuns', WHERE WHAT IT READS IS OF BULK AT MOST 1048576: true; the input reads as it did. -/
def brakeRunsUptoRow : OpenClaim := { program := "ytmbppeancpipiaa", sum := "317fda3ec961b9a1d0fdf6e0ca7b47f607fa881b4595541e406e1b95cfaaa977", func := "humpyard/humpyardlaw35.BrakeRuns", spec := "brakeRuns", apart := false, narrowed := true }
def BrakeRunsUptoSaid : Prop := brakeRunsUptoRow.holds Try.pinned (OpenSpec.upto brakeRunsSpec)

end Rows
end Go.Proofs.Ytmbppeancpipiaa
