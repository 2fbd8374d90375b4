/-
  No cell of these rows narrows 'for every input' (looked for: loops, veiled, ifaces, maps, wideKeys, modest, calm, conditions, laid).
  DERIVED. THE GIVEN ROWS OF THIS SEAT. 5 by the template 'for every input the law returns true; each argument reads behind the call as it read before'; 0 by the template 'total and deterministic' (their statements: YtkbomolgmgeogaaTotals.lean).
  GIVEN WITH THE SEED: the statements are not yours to turn. If you find one false, say at which input.
  Laid BY PROGRAM, IN A SANDBOX (cutbox-rows.mjs): the forced cells as the released guide's own fill.sh prints them over the translation 74f9159669bcab0b… (all of the seat's roots in one cut). By AI agents, Wed Nov 11 2026. No macro, syntax, notation, axiom, sorry.
-/
import Derived.Test.YtkbomolgmgeogaaChecked
import GoSem.Claim
import GoSem.ClaimJoined
import GoSem.ClaimMapViews
import Derived.JoinedTies
import Derived.KernelRfl
namespace Go.Proofs.Ytkbomolgmgeogaa
/- THE CELL 'sum', in the pinned program and in every row, IS THE sha256 OF THE DUMP (.gsa) THAT YtkbomolgmgeogaaProg.lean LOADS. Nothing in Lean hashes anything: it is a label: what it is worth is what the hold of that sum in a sandbox is worth. -/
noncomputable def Try.pinned : Pinned := { name := "ytkbomolgmgeogaa", sum := "74f9159669bcab0b0ac0975f44a46090eea2e0bb8e6d4636733bfa87f318c04a", checked := Try.checked }
namespace Rows
def none {H : Type} : Left H := { results := [], args := [] }

/-- 'humpyardlaw27.RouteExact': WHATEVER THE INPUT: true; the input reads as it did. -/
def routeExactSpec : ChangeSpec := { name := "routeExact", fn := fun _ => fun
  | [d1, d2, d3, d4, d5] => { results := [.lit (.bool true)], args := [d1, d2, d3, d4, d5] }
  | _ => none }
def routeExactRow : OpenClaim := { program := "ytkbomolgmgeogaa", sum := "74f9159669bcab0b0ac0975f44a46090eea2e0bb8e6d4636733bfa87f318c04a", func := "humpyard/humpyardlaw27.RouteExact", spec := "routeExact", unfollowed := true, recurses := true, plainKeys := false, apart := false }
def RouteExactSaid : Prop := routeExactRow.holds Try.pinned (OpenSpec.ofChange routeExactSpec)

/-- ITS FALSE NEIGHBOUR: 'it returns false'. Refute it at one input. -/
def routeExactWrong : ChangeSpec := { name := "routeExact", fn := fun _ => fun
  | [d1, d2, d3, d4, d5] => { results := [.lit (.bool false)], args := [d1, d2, d3, d4, d5] }
  | _ => none }
def RouteExactWrongFalsely : Prop := routeExactRow.holds Try.pinned (OpenSpec.ofChange routeExactWrong)

/-- 'humpyardlaw27.RouteFinds': WHATEVER THE INPUT: true; the input reads as it did. -/
def routeFindsSpec : ChangeSpec := { name := "routeFinds", fn := fun _ => fun
  | [d] => { results := [.lit (.bool true)], args := [d] }
  | _ => none }
def routeFindsRow : OpenClaim := { program := "ytkbomolgmgeogaa", sum := "74f9159669bcab0b0ac0975f44a46090eea2e0bb8e6d4636733bfa87f318c04a", func := "humpyard/humpyardlaw27.RouteFinds", spec := "routeFinds", unfollowed := true, recurses := true, plainKeys := false, apart := false }
def RouteFindsSaid : Prop := routeFindsRow.holds Try.pinned (OpenSpec.ofChange routeFindsSpec)

/-- ITS FALSE NEIGHBOUR: 'it returns false'. Refute it at one input. -/
def routeFindsWrong : ChangeSpec := { name := "routeFinds", fn := fun _ => fun
  | [d] => { results := [.lit (.bool false)], args := [d] }
  | _ => none }
def RouteFindsWrongFalsely : Prop := routeFindsRow.holds Try.pinned (OpenSpec.ofChange routeFindsWrong)

/-- 'humpyardlaw27.RouteShortest': WHATEVER THE INPUT: true; the input reads as it did. -/
def routeShortestSpec : ChangeSpec := { name := "routeShortest", fn := fun _ => fun
  | [d] => { results := [.lit (.bool true)], args := [d] }
  | _ => none }
def routeShortestRow : OpenClaim := { program := "ytkbomolgmgeogaa", sum := "74f9159669bcab0b0ac0975f44a46090eea2e0bb8e6d4636733bfa87f318c04a", func := "humpyard/humpyardlaw27.RouteShortest", spec := "routeShortest", unfollowed := true, recurses := true, plainKeys := false, apart := false }
def RouteShortestSaid : Prop := routeShortestRow.holds Try.pinned (OpenSpec.ofChange routeShortestSpec)

/-- ITS FALSE NEIGHBOUR: 'it returns false'. Refute it at one input. -/
def routeShortestWrong : ChangeSpec := { name := "routeShortest", fn := fun _ => fun
  | [d] => { results := [.lit (.bool false)], args := [d] }
  | _ => none }
def RouteShortestWrongFalsely : Prop := routeShortestRow.holds Try.pinned (OpenSpec.ofChange routeShortestWrong)

/-- 'humpyardlaw27.RouteReverses': WHATEVER THE INPUT: true; the input reads as it did. -/
def routeReversesSpec : ChangeSpec := { name := "routeReverses", fn := fun _ => fun
  | [d] => { results := [.lit (.bool true)], args := [d] }
  | _ => none }
def routeReversesRow : OpenClaim := { program := "ytkbomolgmgeogaa", sum := "74f9159669bcab0b0ac0975f44a46090eea2e0bb8e6d4636733bfa87f318c04a", func := "humpyard/humpyardlaw27.RouteReverses", spec := "routeReverses", unfollowed := true, recurses := true, plainKeys := false, apart := false }
def RouteReversesSaid : Prop := routeReversesRow.holds Try.pinned (OpenSpec.ofChange routeReversesSpec)

/-- ITS FALSE NEIGHBOUR: 'it returns false'. Refute it at one input. -/
def routeReversesWrong : ChangeSpec := { name := "routeReverses", fn := fun _ => fun
  | [d] => { results := [.lit (.bool false)], args := [d] }
  | _ => none }
def RouteReversesWrongFalsely : Prop := routeReversesRow.holds Try.pinned (OpenSpec.ofChange routeReversesWrong)

/-- 'humpyardlaw27.RouteSets': WHATEVER THE INPUT: true; the input reads as it did. -/
def routeSetsSpec : ChangeSpec := { name := "routeSets", fn := fun _ => fun
  | [d] => { results := [.lit (.bool true)], args := [d] }
  | _ => none }
def routeSetsRow : OpenClaim := { program := "ytkbomolgmgeogaa", sum := "74f9159669bcab0b0ac0975f44a46090eea2e0bb8e6d4636733bfa87f318c04a", func := "humpyard/humpyardlaw27.RouteSets", spec := "routeSets", unfollowed := true, recurses := true, plainKeys := false, apart := false }
def RouteSetsSaid : Prop := routeSetsRow.holds Try.pinned (OpenSpec.ofChange routeSetsSpec)

/-- ITS FALSE NEIGHBOUR: 'it returns false'. Refute it at one input. -/
def routeSetsWrong : ChangeSpec := { name := "routeSets", fn := fun _ => fun
  | [d] => { results := [.lit (.bool false)], args := [d] }
  | _ => none }
def RouteSetsWrongFalsely : Prop := routeSetsRow.holds Try.pinned (OpenSpec.ofChange routeSetsWrong)

/- THE SECOND FORM. 'bulk': how many values and letters a reading holds, each counted each time it is reached (what is shared counts as often as it is met; a slice's spare places count too). A statement '..UptoSaid' is the law's where the arguments, and the package variables that the reading takes, are together of bulk at most 1048576: NARROWER than '..Said'. Prove '..Said' where nothing that the law and all that it calls make is longer than what came in: it says more and counts as full. Else prove '..UptoSaid'. A law counts once. -/
mutual
def uptoBulk {H : Type} : DataW H → Nat
  | .lit (.string bytes) => bytes.length + 1
  | .lit _ => 1
  | .nil => 1
  | .ptr d => uptoBulk d + 1
  | .slice elems spare => uptoBulkAll elems + uptoBulkAll spare + 1
  | .agg parts => uptoBulkAll parts + 1
  | .iface _ d => uptoBulk d + 1
  | .map entries => uptoBulkEntries entries + 1
  | .held _ => 1
def uptoBulkAll {H : Type} : List (DataW H) → Nat
  | [] => 0
  | d :: r => uptoBulk d + uptoBulkAll r
def uptoBulkEntries {H : Type} : List (Lit × DataW H) → Nat
  | [] => 0
  | x :: r => uptoBulkEntry x + uptoBulkEntries r
def uptoBulkEntry {H : Type} : Lit × DataW H → Nat
  | (.string bytes, d) => bytes.length + uptoBulk d + 1
  | (_, d) => uptoBulk d + 1
 end
def uptoSmall : (H : Type) → List (DataW H) → Bool := fun _ ds => decide (uptoBulkAll ds ≤ 1048576)
def OpenSpec.upto (s : _root_.Go.ChangeSpec) : _root_.Go.OpenSpec := { _root_.Go.OpenSpec.ofChange s with cond := some uptoSmall }

/-- 'humpyardlaw27.RouteExact', WHERE WHAT IT READS IS OF BULK AT MOST 1048576: true; the input reads as it did. -/
def routeExactUptoRow : OpenClaim := { program := "ytkbomolgmgeogaa", sum := "74f9159669bcab0b0ac0975f44a46090eea2e0bb8e6d4636733bfa87f318c04a", func := "humpyard/humpyardlaw27.RouteExact", spec := "routeExact", unfollowed := true, recurses := true, plainKeys := false, apart := false, narrowed := true }
def RouteExactUptoSaid : Prop := routeExactUptoRow.holds Try.pinned (OpenSpec.upto routeExactSpec)

/-- 'humpyardlaw27.RouteFinds', WHERE WHAT IT READS IS OF BULK AT MOST 1048576: true; the input reads as it did. -/
def routeFindsUptoRow : OpenClaim := { program := "ytkbomolgmgeogaa", sum := "74f9159669bcab0b0ac0975f44a46090eea2e0bb8e6d4636733bfa87f318c04a", func := "humpyard/humpyardlaw27.RouteFinds", spec := "routeFinds", unfollowed := true, recurses := true, plainKeys := false, apart := false, narrowed := true }
def RouteFindsUptoSaid : Prop := routeFindsUptoRow.holds Try.pinned (OpenSpec.upto routeFindsSpec)

/-- 'humpyardlaw27.RouteShortest', WHERE WHAT IT READS IS OF BULK AT MOST 1048576: true; the input reads as it did. -/
def routeShortestUptoRow : OpenClaim := { program := "ytkbomolgmgeogaa", sum := "74f9159669bcab0b0ac0975f44a46090eea2e0bb8e6d4636733bfa87f318c04a", func := "humpyard/humpyardlaw27.RouteShortest", spec := "routeShortest", unfollowed := true, recurses := true, plainKeys := false, apart := false, narrowed := true }
def RouteShortestUptoSaid : Prop := routeShortestUptoRow.holds Try.pinned (OpenSpec.upto routeShortestSpec)

/-- 'humpyardlaw27.RouteReverses', WHERE WHAT IT READS IS OF BULK AT MOST 1048576: true; the input reads as it did. -/
def routeReversesUptoRow : OpenClaim := { program := "ytkbomolgmgeogaa", sum := "74f9159669bcab0b0ac0975f44a46090eea2e0bb8e6d4636733bfa87f318c04a", func := "humpyard/humpyardlaw27.RouteReverses", spec := "routeReverses", unfollowed := true, recurses := true, plainKeys := false, apart := false, narrowed := true }
def RouteReversesUptoSaid : Prop := routeReversesUptoRow.holds Try.pinned (OpenSpec.upto routeReversesSpec)

/-- 'humpyardlaw27.RouteSets', WHERE WHAT IT READS IS OF BULK AT MOST 1048576: true; the input reads as it did. -/
def routeSetsUptoRow : OpenClaim := { program := "ytkbomolgmgeogaa", sum := "74f9159669bcab0b0ac0975f44a46090eea2e0bb8e6d4636733bfa87f318c04a", func := "humpyard/humpyardlaw27.RouteSets", spec := "routeSets", unfollowed := true, recurses := true, plainKeys := false, apart := false, narrowed := true }
def RouteSetsUptoSaid : Prop := routeSetsUptoRow.holds Try.pinned (OpenSpec.upto routeSetsSpec)

end Rows
end Go.Proofs.Ytkbomolgmgeogaa
