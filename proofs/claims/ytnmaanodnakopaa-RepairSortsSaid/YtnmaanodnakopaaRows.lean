/-
  No cell of these rows narrows 'for every input' (looked for: loops, veiled, ifaces, maps, wideKeys, modest, calm, conditions, laid).
  DERIVED. THE GIVEN ROWS OF THIS SEAT. 5 by the template 'for every input the law returns true; each argument reads behind the call as it read before'; 0 by the template 'total and deterministic' (their statements: YtnmaanodnakopaaTotals.lean).
  GIVEN WITH THE SEED: the statements are not yours to turn. If you find one false, say at which input.
  Laid BY PROGRAM, IN A SANDBOX (cutbox-rows.mjs): the forced cells as the released guide's own fill.sh prints them over the translation f79732965e65fac5… (all of the seat's roots in one cut). By AI agents, Wed Nov 11 2026. No macro, syntax, notation, axiom, sorry.
-/
import Derived.Test.YtnmaanodnakopaaChecked
import GoSem.Claim
import GoSem.ClaimJoined
import GoSem.ClaimMapViews
import Derived.JoinedTies
import Derived.KernelRfl
namespace Go.Proofs.Ytnmaanodnakopaa
/- THE CELL 'sum', in the pinned program and in every row, IS THE sha256 OF THE DUMP (.gsa) THAT YtnmaanodnakopaaProg.lean LOADS. Nothing in Lean hashes anything: it is a label: what it is worth is what the hold of that sum in a sandbox is worth. -/
noncomputable def Try.pinned : Pinned := { name := "ytnmaanodnakopaa", sum := "f79732965e65fac59e1f403d81c558b8e2c594eae4ed57682ef6e693f13d57c7", checked := Try.checked }
namespace Rows
def none {H : Type} : Left H := { results := [], args := [] }

/-- 'humpyardlaw33.RepairProves': WHATEVER THE INPUT: true; the input reads as it did. -/
def repairProvesSpec : ChangeSpec := { name := "repairProves", fn := fun _ => fun
  | [d1, d2] => { results := [.lit (.bool true)], args := [d1, d2] }
  | _ => none }
def repairProvesRow : OpenClaim := { program := "ytnmaanodnakopaa", sum := "f79732965e65fac59e1f403d81c558b8e2c594eae4ed57682ef6e693f13d57c7", func := "humpyard/humpyardlaw33.RepairProves", spec := "repairProves", unfollowed := true, recurses := true, apart := false }
def RepairProvesSaid : Prop := repairProvesRow.holds Try.pinned (OpenSpec.ofChange repairProvesSpec)

/-- ITS FALSE NEIGHBOUR: 'it returns false'. Refute it at one input. -/
def repairProvesWrong : ChangeSpec := { name := "repairProves", fn := fun _ => fun
  | [d1, d2] => { results := [.lit (.bool false)], args := [d1, d2] }
  | _ => none }
def RepairProvesWrongFalsely : Prop := repairProvesRow.holds Try.pinned (OpenSpec.ofChange repairProvesWrong)

/-- 'humpyardlaw33.RepairLeast': WHATEVER THE INPUT: true; the input reads as it did. -/
def repairLeastSpec : ChangeSpec := { name := "repairLeast", fn := fun _ => fun
  | [d1, d2] => { results := [.lit (.bool true)], args := [d1, d2] }
  | _ => none }
def repairLeastRow : OpenClaim := { program := "ytnmaanodnakopaa", sum := "f79732965e65fac59e1f403d81c558b8e2c594eae4ed57682ef6e693f13d57c7", func := "humpyard/humpyardlaw33.RepairLeast", spec := "repairLeast", unfollowed := true, recurses := true, apart := false }
def RepairLeastSaid : Prop := repairLeastRow.holds Try.pinned (OpenSpec.ofChange repairLeastSpec)

/-- ITS FALSE NEIGHBOUR: 'it returns false'. Refute it at one input. -/
def repairLeastWrong : ChangeSpec := { name := "repairLeast", fn := fun _ => fun
  | [d1, d2] => { results := [.lit (.bool false)], args := [d1, d2] }
  | _ => none }
def RepairLeastWrongFalsely : Prop := repairLeastRow.holds Try.pinned (OpenSpec.ofChange repairLeastWrong)

/-- 'humpyardlaw33.RepairStays': WHATEVER THE INPUT: true; the input reads as it did. -/
def repairStaysSpec : ChangeSpec := { name := "repairStays", fn := fun _ => fun
  | [d] => { results := [.lit (.bool true)], args := [d] }
  | _ => none }
def repairStaysRow : OpenClaim := { program := "ytnmaanodnakopaa", sum := "f79732965e65fac59e1f403d81c558b8e2c594eae4ed57682ef6e693f13d57c7", func := "humpyard/humpyardlaw33.RepairStays", spec := "repairStays", unfollowed := true, recurses := true, apart := false }
def RepairStaysSaid : Prop := repairStaysRow.holds Try.pinned (OpenSpec.ofChange repairStaysSpec)

/-- ITS FALSE NEIGHBOUR: 'it returns false'. Refute it at one input. -/
def repairStaysWrong : ChangeSpec := { name := "repairStays", fn := fun _ => fun
  | [d] => { results := [.lit (.bool false)], args := [d] }
  | _ => none }
def RepairStaysWrongFalsely : Prop := repairStaysRow.holds Try.pinned (OpenSpec.ofChange repairStaysWrong)

/-- 'humpyardlaw33.RepairExact': WHATEVER THE INPUT: true; the input reads as it did. -/
def repairExactSpec : ChangeSpec := { name := "repairExact", fn := fun _ => fun
  | [d1, d2, d3, d4] => { results := [.lit (.bool true)], args := [d1, d2, d3, d4] }
  | _ => none }
def repairExactRow : OpenClaim := { program := "ytnmaanodnakopaa", sum := "f79732965e65fac59e1f403d81c558b8e2c594eae4ed57682ef6e693f13d57c7", func := "humpyard/humpyardlaw33.RepairExact", spec := "repairExact", unfollowed := true, recurses := true, apart := false }
def RepairExactSaid : Prop := repairExactRow.holds Try.pinned (OpenSpec.ofChange repairExactSpec)

/-- ITS FALSE NEIGHBOUR: 'it returns false'. Refute it at one input. -/
def repairExactWrong : ChangeSpec := { name := "repairExact", fn := fun _ => fun
  | [d1, d2, d3, d4] => { results := [.lit (.bool false)], args := [d1, d2, d3, d4] }
  | _ => none }
def RepairExactWrongFalsely : Prop := repairExactRow.holds Try.pinned (OpenSpec.ofChange repairExactWrong)

/-- 'humpyardlaw33.RepairSorts': WHATEVER THE INPUT: true; the input reads as it did. -/
def repairSortsSpec : ChangeSpec := { name := "repairSorts", fn := fun _ => fun
  | [d] => { results := [.lit (.bool true)], args := [d] }
  | _ => none }
def repairSortsRow : OpenClaim := { program := "ytnmaanodnakopaa", sum := "f79732965e65fac59e1f403d81c558b8e2c594eae4ed57682ef6e693f13d57c7", func := "humpyard/humpyardlaw33.RepairSorts", spec := "repairSorts", unfollowed := true, recurses := true, apart := false }
def RepairSortsSaid : Prop := repairSortsRow.holds Try.pinned (OpenSpec.ofChange repairSortsSpec)

/-- ITS FALSE NEIGHBOUR: 'it returns false'. Refute it at one input. -/
def repairSortsWrong : ChangeSpec := { name := "repairSorts", fn := fun _ => fun
  | [d] => { results := [.lit (.bool false)], args := [d] }
  | _ => none }
def RepairSortsWrongFalsely : Prop := repairSortsRow.holds Try.pinned (OpenSpec.ofChange repairSortsWrong)

/- THE SECOND FORM. 'bulk': how many values and letters a reading holds, each counted each time it is reached (what is shared counts as often as it is met; a slice's spare places count too). A statement '..UptoSaid' is the law's where the arguments, and the package variables that the reading takes, are together of bulk at most 1048576: NARROWER than '..Said'. Prove '..Said' where nothing that the law and all that it calls make is longer than what came in: it says more and counts as full. Else prove '..UptoSaid'. A law counts once. -/
mutual
def uptoBulk {H : Type} : DataW H → Nat
  | .lit (.string bytes) => bytes.length + 1
  | .lit _ => 1
  | .nil => 1
  | .ptr d => uptoBulk d + 1
  | .slice elems spare => uptoBulkAll elems + uptoBulkAll spare + 1
  | .agg parts => uptoBulkAll parts + 1
  | .iface _ d => uptoBulk d + 1
  | .map entries => uptoBulkEntries entries + 1
  | .held _ => 1
def uptoBulkAll {H : Type} : List (DataW H) → Nat
  | [] => 0
  | d :: r => uptoBulk d + uptoBulkAll r
def uptoBulkEntries {H : Type} : List (Lit × DataW H) → Nat
  | [] => 0
  | x :: r => uptoBulkEntry x + uptoBulkEntries r
def uptoBulkEntry {H : Type} : Lit × DataW H → Nat
  | (.string bytes, d) => bytes.length + uptoBulk d + 1
  | (_, d) => uptoBulk d + 1
 end
def uptoSmall : (H : Type) → List (DataW H) → Bool := fun _ ds => decide (uptoBulkAll ds ≤ 1048576)
def OpenSpec.upto (s : _root_.Go.ChangeSpec) : _root_.Go.OpenSpec := { _root_.Go.OpenSpec.ofChange s with cond := some uptoSmall }

/-- 'humpyardlaw33.RepairProves', WHERE WHAT IT READS IS OF BULK AT MOST 1048576: true; the input reads as it did. -/
def repairProvesUptoRow : OpenClaim := { program := "ytnmaanodnakopaa", sum := "f79732965e65fac59e1f403d81c558b8e2c594eae4ed57682ef6e693f13d57c7", func := "humpyard/humpyardlaw33.RepairProves", spec := "repairProves", unfollowed := true, recurses := true, apart := false, narrowed := true }
def RepairProvesUptoSaid : Prop := repairProvesUptoRow.holds Try.pinned (OpenSpec.upto repairProvesSpec)

/-- 'humpyardlaw33.RepairLeast', WHERE WHAT IT READS IS OF BULK AT MOST 1048576: true; the input reads as it did. -/
def repairLeastUptoRow : OpenClaim := { program := "ytnmaanodnakopaa", sum := "f79732965e65fac59e1f403d81c558b8e2c594eae4ed57682ef6e693f13d57c7", func := "humpyard/humpyardlaw33.RepairLeast", spec := "repairLeast", unfollowed := true, recurses := true, apart := false, narrowed := true }
def RepairLeastUptoSaid : Prop := repairLeastUptoRow.holds Try.pinned (OpenSpec.upto repairLeastSpec)

/-- 'humpyardlaw33.RepairStays', WHERE WHAT IT READS IS OF BULK AT MOST 1048576: true; the input reads as it did. -/
def repairStaysUptoRow : OpenClaim := { program := "ytnmaanodnakopaa", sum := "f79732965e65fac59e1f403d81c558b8e2c594eae4ed57682ef6e693f13d57c7", func := "humpyard/humpyardlaw33.RepairStays", spec := "repairStays", unfollowed := true, recurses := true, apart := false, narrowed := true }
def RepairStaysUptoSaid : Prop := repairStaysUptoRow.holds Try.pinned (OpenSpec.upto repairStaysSpec)

/-- 'humpyardlaw33.RepairExact', WHERE WHAT IT READS IS OF BULK AT MOST 1048576: true; the input reads as it did. -/
def repairExactUptoRow : OpenClaim := { program := "ytnmaanodnakopaa", sum := "f79732965e65fac59e1f403d81c558b8e2c594eae4ed57682ef6e693f13d57c7", func := "humpyard/humpyardlaw33.RepairExact", spec := "repairExact", unfollowed := true, recurses := true, apart := false, narrowed := true }
def RepairExactUptoSaid : Prop := repairExactUptoRow.holds Try.pinned (OpenSpec.upto repairExactSpec)

/-- 'humpyardlaw33.RepairSorts', WHERE WHAT IT READS IS OF BULK AT MOST 1048576: true; the input reads as it did. -/
def repairSortsUptoRow : OpenClaim := { program := "ytnmaanodnakopaa", sum := "f79732965e65fac59e1f403d81c558b8e2c594eae4ed57682ef6e693f13d57c7", func := "humpyard/humpyardlaw33.RepairSorts", spec := "repairSorts", unfollowed := true, recurses := true, apart := false, narrowed := true }
def RepairSortsUptoSaid : Prop := repairSortsUptoRow.holds Try.pinned (OpenSpec.upto repairSortsSpec)

end Rows
end Go.Proofs.Ytnmaanodnakopaa
