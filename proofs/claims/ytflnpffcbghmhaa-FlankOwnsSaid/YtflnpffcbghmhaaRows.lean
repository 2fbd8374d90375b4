/-
  No cell of these rows narrows 'for every input' (looked for: loops, veiled, ifaces, maps, wideKeys, modest, calm, conditions, laid).
  DERIVED. THE GIVEN ROWS OF THIS SEAT. 4 by the template 'for every input the law returns true; each argument reads behind the call as it read before'; 0 by the template 'total and deterministic' (their statements: YtflnpffcbghmhaaTotals.lean).
  GIVEN WITH THE SEED: the statements are not yours to turn. If you find one false, say at which input.
  Laid BY PROGRAM, IN A SANDBOX (cutbox-rows.mjs): the forced cells as the released guide's own fill.sh prints them over the translation 6a9241db071f9527… (all of the seat's roots in one cut). By AI agents, Wed Nov 11 2026. No macro, syntax, notation, axiom, sorry.
-/
import Derived.Test.YtflnpffcbghmhaaChecked
import GoSem.Claim
import GoSem.ClaimJoined
import GoSem.ClaimMapViews
import Derived.JoinedTies
import Derived.KernelRfl
namespace Go.Proofs.Ytflnpffcbghmhaa
/- THE CELL 'sum', in the pinned program and in every row, IS THE sha256 OF THE DUMP (.gsa) THAT YtflnpffcbghmhaaProg.lean LOADS. Nothing in Lean hashes anything: it is a label: what it is worth is what the hold of that sum in a sandbox is worth. -/
noncomputable def Try.pinned : Pinned := { name := "ytflnpffcbghmhaa", sum := "6a9241db071f95274d4aea39f2fc25bcfa24bda9c162092b4eaa49e793069ea6", checked := Try.checked }
namespace Rows
def none {H : Type} : Left H := { results := [], args := [] }

/-- 'humpyardlaw28.FlankExact': WHATEVER THE INPUT: true; the input reads as it did. -/
def flankExactSpec : ChangeSpec := { name := "flankExact", fn := fun _ => fun
  | [d1, d2, d3, d4] => { results := [.lit (.bool true)], args := [d1, d2, d3, d4] }
  | _ => none }
def flankExactRow : OpenClaim := { program := "ytflnpffcbghmhaa", sum := "6a9241db071f95274d4aea39f2fc25bcfa24bda9c162092b4eaa49e793069ea6", func := "humpyard/humpyardlaw28.FlankExact", spec := "flankExact", unfollowed := true, recurses := true, plainKeys := false, apart := false }
def FlankExactSaid : Prop := flankExactRow.holds Try.pinned (OpenSpec.ofChange flankExactSpec)

/-- ITS FALSE NEIGHBOUR: 'it returns false'. Refute it at one input. -/
def flankExactWrong : ChangeSpec := { name := "flankExact", fn := fun _ => fun
  | [d1, d2, d3, d4] => { results := [.lit (.bool false)], args := [d1, d2, d3, d4] }
  | _ => none }
def FlankExactWrongFalsely : Prop := flankExactRow.holds Try.pinned (OpenSpec.ofChange flankExactWrong)

/-- 'humpyardlaw28.FlankProtects': WHATEVER THE INPUT: true; the input reads as it did. -/
def flankProtectsSpec : ChangeSpec := { name := "flankProtects", fn := fun _ => fun
  | [d] => { results := [.lit (.bool true)], args := [d] }
  | _ => none }
def flankProtectsRow : OpenClaim := { program := "ytflnpffcbghmhaa", sum := "6a9241db071f95274d4aea39f2fc25bcfa24bda9c162092b4eaa49e793069ea6", func := "humpyard/humpyardlaw28.FlankProtects", spec := "flankProtects", unfollowed := true, recurses := true, plainKeys := false, apart := false }
def FlankProtectsSaid : Prop := flankProtectsRow.holds Try.pinned (OpenSpec.ofChange flankProtectsSpec)

/-- ITS FALSE NEIGHBOUR: 'it returns false'. Refute it at one input. -/
def flankProtectsWrong : ChangeSpec := { name := "flankProtects", fn := fun _ => fun
  | [d] => { results := [.lit (.bool false)], args := [d] }
  | _ => none }
def FlankProtectsWrongFalsely : Prop := flankProtectsRow.holds Try.pinned (OpenSpec.ofChange flankProtectsWrong)

/-- 'humpyardlaw28.FlankOwns': WHATEVER THE INPUT: true; the input reads as it did. -/
def flankOwnsSpec : ChangeSpec := { name := "flankOwns", fn := fun _ => fun
  | [d] => { results := [.lit (.bool true)], args := [d] }
  | _ => none }
def flankOwnsRow : OpenClaim := { program := "ytflnpffcbghmhaa", sum := "6a9241db071f95274d4aea39f2fc25bcfa24bda9c162092b4eaa49e793069ea6", func := "humpyard/humpyardlaw28.FlankOwns", spec := "flankOwns", unfollowed := true, recurses := true, plainKeys := false, apart := false }
def FlankOwnsSaid : Prop := flankOwnsRow.holds Try.pinned (OpenSpec.ofChange flankOwnsSpec)

/-- ITS FALSE NEIGHBOUR: 'it returns false'. Refute it at one input. -/
def flankOwnsWrong : ChangeSpec := { name := "flankOwns", fn := fun _ => fun
  | [d] => { results := [.lit (.bool false)], args := [d] }
  | _ => none }
def FlankOwnsWrongFalsely : Prop := flankOwnsRow.holds Try.pinned (OpenSpec.ofChange flankOwnsWrong)

/-- 'humpyardlaw28.FlankKnows': WHATEVER THE INPUT: true; the input reads as it did. -/
def flankKnowsSpec : ChangeSpec := { name := "flankKnows", fn := fun _ => fun
  | [d1, d2] => { results := [.lit (.bool true)], args := [d1, d2] }
  | _ => none }
def flankKnowsRow : OpenClaim := { program := "ytflnpffcbghmhaa", sum := "6a9241db071f95274d4aea39f2fc25bcfa24bda9c162092b4eaa49e793069ea6", func := "humpyard/humpyardlaw28.FlankKnows", spec := "flankKnows", unfollowed := true, recurses := true, plainKeys := false, apart := false }
def FlankKnowsSaid : Prop := flankKnowsRow.holds Try.pinned (OpenSpec.ofChange flankKnowsSpec)

/-- ITS FALSE NEIGHBOUR: 'it returns false'. Refute it at one input. -/
def flankKnowsWrong : ChangeSpec := { name := "flankKnows", fn := fun _ => fun
  | [d1, d2] => { results := [.lit (.bool false)], args := [d1, d2] }
  | _ => none }
def FlankKnowsWrongFalsely : Prop := flankKnowsRow.holds Try.pinned (OpenSpec.ofChange flankKnowsWrong)

/- THE SECOND FORM. 'bulk': how many values and letters a reading holds, each counted each time it is reached (what is shared counts as often as it is met; a slice's spare places count too). A statement '..UptoSaid' is the law's where the arguments, and the package variables that the reading takes, are together of bulk at most 1048576: NARROWER than '..Said'. Prove '..Said' where nothing that the law and all that it calls make is longer than what came in: it says more and counts as full. Else prove '..UptoSaid'. A law counts once. -/
mutual
def uptoBulk {H : Type} : DataW H → Nat
  | .lit (.string bytes) => bytes.length + 1
  | .lit _ => 1
  | .nil => 1
  | .ptr d => uptoBulk d + 1
  | .slice elems spare => uptoBulkAll elems + uptoBulkAll spare + 1
  | .agg parts => uptoBulkAll parts + 1
  | .iface _ d => uptoBulk d + 1
  | .map entries => uptoBulkEntries entries + 1
  | .held _ => 1
def uptoBulkAll {H : Type} : List (DataW H) → Nat
  | [] => 0
  | d :: r => uptoBulk d + uptoBulkAll r
def uptoBulkEntries {H : Type} : List (Lit × DataW H) → Nat
  | [] => 0
  | x :: r => uptoBulkEntry x + uptoBulkEntries r
def uptoBulkEntry {H : Type} : Lit × DataW H → Nat
  | (.string bytes, d) => bytes.length + uptoBulk d + 1
  | (_, d) => uptoBulk d + 1
 end
def uptoSmall : (H : Type) → List (DataW H) → Bool := fun _ ds => decide (uptoBulkAll ds ≤ 1048576)
def OpenSpec.upto (s : _root_.Go.ChangeSpec) : _root_.Go.OpenSpec := { _root_.Go.OpenSpec.ofChange s with cond := some uptoSmall }

/-- 'humpyardlaw28.FlankExact', WHERE WHAT IT READS IS OF BULK AT MOST 1048576: true; the input reads as it did. -/
def flankExactUptoRow : OpenClaim := { program := "ytflnpffcbghmhaa", sum := "6a9241db071f95274d4aea39f2fc25bcfa24bda9c162092b4eaa49e793069ea6", func := "humpyard/humpyardlaw28.FlankExact", spec := "flankExact", unfollowed := true, recurses := true, plainKeys := false, apart := false, narrowed := true }
def FlankExactUptoSaid : Prop := flankExactUptoRow.holds Try.pinned (OpenSpec.upto flankExactSpec)

/-- 'humpyardlaw28.FlankProtects', WHERE WHAT IT READS IS OF BULK AT MOST 1048576: true; the input reads as it did. -/
def flankProtectsUptoRow : OpenClaim := { program := "ytflnpffcbghmhaa", sum := "6a9241db071f95274d4aea39f2fc25bcfa24bda9c162092b4eaa49e793069ea6", func := "humpyard/humpyardlaw28.FlankProtects", spec := "flankProtects", unfollowed := true, recurses := true, plainKeys := false, apart := false, narrowed := true }
def FlankProtectsUptoSaid : Prop := flankProtectsUptoRow.holds Try.pinned (OpenSpec.upto flankProtectsSpec)

/-- 'humpyardlaw28.FlankOwns', WHERE WHAT IT READS IS OF BULK AT MOST 1048576: true; the input reads as it did. -/
def flankOwnsUptoRow : OpenClaim := { program := "ytflnpffcbghmhaa", sum := "6a9241db071f95274d4aea39f2fc25bcfa24bda9c162092b4eaa49e793069ea6", func := "humpyard/humpyardlaw28.FlankOwns", spec := "flankOwns", unfollowed := true, recurses := true, plainKeys := false, apart := false, narrowed := true }
def FlankOwnsUptoSaid : Prop := flankOwnsUptoRow.holds Try.pinned (OpenSpec.upto flankOwnsSpec)

/-- 'humpyardlaw28.FlankKnows', WHERE WHAT IT READS IS OF BULK AT MOST 1048576: true; the input reads as it did. -/
def flankKnowsUptoRow : OpenClaim := { program := "ytflnpffcbghmhaa", sum := "6a9241db071f95274d4aea39f2fc25bcfa24bda9c162092b4eaa49e793069ea6", func := "humpyard/humpyardlaw28.FlankKnows", spec := "flankKnows", unfollowed := true, recurses := true, plainKeys := false, apart := false, narrowed := true }
def FlankKnowsUptoSaid : Prop := flankKnowsUptoRow.holds Try.pinned (OpenSpec.upto flankKnowsSpec)

end Rows
end Go.Proofs.Ytflnpffcbghmhaa
