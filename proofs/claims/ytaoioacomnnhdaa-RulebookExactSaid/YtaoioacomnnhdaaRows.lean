/-
  No cell of these rows narrows 'for every input' (looked for: loops, veiled, ifaces, maps, wideKeys, modest, calm, conditions, laid).
  DERIVED. THE GIVEN ROWS OF THIS SEAT. 6 by the template 'for every input the law returns true; each argument reads behind the call as it read before'; 0 by the template 'total and deterministic' (their statements: YtaoioacomnnhdaaTotals.lean).
  GIVEN WITH THE SEED: the statements are not yours to turn. If you find one false, say at which input.
  Laid BY PROGRAM, IN A SANDBOX (cutbox-rows.mjs): the forced cells as the released guide's own fill.sh prints them over the translation 3d9e740f26ac05d6… (all of the seat's roots in one cut). By AI agents, Wed Nov 11 2026. No macro, syntax, notation, axiom, sorry.
-/
import Derived.Test.YtaoioacomnnhdaaChecked
import GoSem.Claim
import GoSem.ClaimJoined
import GoSem.ClaimMapViews
import Derived.JoinedTies
import Derived.KernelRfl
namespace Go.Proofs.Ytaoioacomnnhdaa
/- THE CELL 'sum', in the pinned program and in every row, IS THE sha256 OF THE DUMP (.gsa) THAT YtaoioacomnnhdaaProg.lean LOADS. Nothing in Lean hashes anything: it is a label: what it is worth is what the hold of that sum in a sandbox is worth. -/
noncomputable def Try.pinned : Pinned := { name := "ytaoioacomnnhdaa", sum := "3d9e740f26ac05d6b558e05e4bd77da8085a7a86de37932d8ad7d6bc110f3677", checked := Try.checked }
namespace Rows
def none {H : Type} : Left H := { results := [], args := [] }

/-- 'humpyardlaw36.RulebookExact': WHATEVER THE INPUT: true; the input reads as it did. -/
def rulebookExactSpec : ChangeSpec := { name := "rulebookExact", fn := fun _ => fun
  | [d1, d2, d3, d4] => { results := [.lit (.bool true)], args := [d1, d2, d3, d4] }
  | _ => none }
def rulebookExactRow : OpenClaim := { program := "ytaoioacomnnhdaa", sum := "3d9e740f26ac05d6b558e05e4bd77da8085a7a86de37932d8ad7d6bc110f3677", func := "humpyard/humpyardlaw36.RulebookExact", spec := "rulebookExact", unfollowed := true, recurses := true, apart := false }
def RulebookExactSaid : Prop := rulebookExactRow.holds Try.pinned (OpenSpec.ofChange rulebookExactSpec)

/-- ITS FALSE NEIGHBOUR: 'it returns false'. Refute it at one input. -/
def rulebookExactWrong : ChangeSpec := { name := "rulebookExact", fn := fun _ => fun
  | [d1, d2, d3, d4] => { results := [.lit (.bool false)], args := [d1, d2, d3, d4] }
  | _ => none }
def RulebookExactWrongFalsely : Prop := rulebookExactRow.holds Try.pinned (OpenSpec.ofChange rulebookExactWrong)

/-- 'humpyardlaw36.RulebookFirst': WHATEVER THE INPUT: true; the input reads as it did. -/
def rulebookFirstSpec : ChangeSpec := { name := "rulebookFirst", fn := fun _ => fun
  | [d] => { results := [.lit (.bool true)], args := [d] }
  | _ => none }
def rulebookFirstRow : OpenClaim := { program := "ytaoioacomnnhdaa", sum := "3d9e740f26ac05d6b558e05e4bd77da8085a7a86de37932d8ad7d6bc110f3677", func := "humpyard/humpyardlaw36.RulebookFirst", spec := "rulebookFirst", unfollowed := true, recurses := true, apart := false }
def RulebookFirstSaid : Prop := rulebookFirstRow.holds Try.pinned (OpenSpec.ofChange rulebookFirstSpec)

/-- ITS FALSE NEIGHBOUR: 'it returns false'. Refute it at one input. -/
def rulebookFirstWrong : ChangeSpec := { name := "rulebookFirst", fn := fun _ => fun
  | [d] => { results := [.lit (.bool false)], args := [d] }
  | _ => none }
def RulebookFirstWrongFalsely : Prop := rulebookFirstRow.holds Try.pinned (OpenSpec.ofChange rulebookFirstWrong)

/-- 'humpyardlaw36.RulebookShortens': WHATEVER THE INPUT: true; the input reads as it did. -/
def rulebookShortensSpec : ChangeSpec := { name := "rulebookShortens", fn := fun _ => fun
  | [d1, d2] => { results := [.lit (.bool true)], args := [d1, d2] }
  | _ => none }
def rulebookShortensRow : OpenClaim := { program := "ytaoioacomnnhdaa", sum := "3d9e740f26ac05d6b558e05e4bd77da8085a7a86de37932d8ad7d6bc110f3677", func := "humpyard/humpyardlaw36.RulebookShortens", spec := "rulebookShortens", unfollowed := true, recurses := true, apart := false }
def RulebookShortensSaid : Prop := rulebookShortensRow.holds Try.pinned (OpenSpec.ofChange rulebookShortensSpec)

/-- ITS FALSE NEIGHBOUR: 'it returns false'. Refute it at one input. -/
def rulebookShortensWrong : ChangeSpec := { name := "rulebookShortens", fn := fun _ => fun
  | [d1, d2] => { results := [.lit (.bool false)], args := [d1, d2] }
  | _ => none }
def RulebookShortensWrongFalsely : Prop := rulebookShortensRow.holds Try.pinned (OpenSpec.ofChange rulebookShortensWrong)

/-- 'humpyardlaw36.RulebookSeparates': WHATEVER THE INPUT: true; the input reads as it did. -/
def rulebookSeparatesSpec : ChangeSpec := { name := "rulebookSeparates", fn := fun _ => fun
  | [d] => { results := [.lit (.bool true)], args := [d] }
  | _ => none }
def rulebookSeparatesRow : OpenClaim := { program := "ytaoioacomnnhdaa", sum := "3d9e740f26ac05d6b558e05e4bd77da8085a7a86de37932d8ad7d6bc110f3677", func := "humpyard/humpyardlaw36.RulebookSeparates", spec := "rulebookSeparates", unfollowed := true, recurses := true, apart := false }
def RulebookSeparatesSaid : Prop := rulebookSeparatesRow.holds Try.pinned (OpenSpec.ofChange rulebookSeparatesSpec)

/-- ITS FALSE NEIGHBOUR: 'it returns false'. Refute it at one input. -/
def rulebookSeparatesWrong : ChangeSpec := { name := "rulebookSeparates", fn := fun _ => fun
  | [d] => { results := [.lit (.bool false)], args := [d] }
  | _ => none }
def RulebookSeparatesWrongFalsely : Prop := rulebookSeparatesRow.holds Try.pinned (OpenSpec.ofChange rulebookSeparatesWrong)

/-- 'humpyardlaw36.RulebookLimits': WHATEVER THE INPUT: true; the input reads as it did. -/
def rulebookLimitsSpec : ChangeSpec := { name := "rulebookLimits", fn := fun _ => fun
  | [d] => { results := [.lit (.bool true)], args := [d] }
  | _ => none }
def rulebookLimitsRow : OpenClaim := { program := "ytaoioacomnnhdaa", sum := "3d9e740f26ac05d6b558e05e4bd77da8085a7a86de37932d8ad7d6bc110f3677", func := "humpyard/humpyardlaw36.RulebookLimits", spec := "rulebookLimits", unfollowed := true, recurses := true, apart := false }
def RulebookLimitsSaid : Prop := rulebookLimitsRow.holds Try.pinned (OpenSpec.ofChange rulebookLimitsSpec)

/-- ITS FALSE NEIGHBOUR: 'it returns false'. Refute it at one input. -/
def rulebookLimitsWrong : ChangeSpec := { name := "rulebookLimits", fn := fun _ => fun
  | [d] => { results := [.lit (.bool false)], args := [d] }
  | _ => none }
def RulebookLimitsWrongFalsely : Prop := rulebookLimitsRow.holds Try.pinned (OpenSpec.ofChange rulebookLimitsWrong)

/-- 'humpyardlaw36.RulebookTails': WHATEVER THE INPUT: true; the input reads as it did. -/
def rulebookTailsSpec : ChangeSpec := { name := "rulebookTails", fn := fun _ => fun
  | [d1, d2] => { results := [.lit (.bool true)], args := [d1, d2] }
  | _ => none }
def rulebookTailsRow : OpenClaim := { program := "ytaoioacomnnhdaa", sum := "3d9e740f26ac05d6b558e05e4bd77da8085a7a86de37932d8ad7d6bc110f3677", func := "humpyard/humpyardlaw36.RulebookTails", spec := "rulebookTails", unfollowed := true, recurses := true, apart := false }
def RulebookTailsSaid : Prop := rulebookTailsRow.holds Try.pinned (OpenSpec.ofChange rulebookTailsSpec)

/-- ITS FALSE NEIGHBOUR: 'it returns false'. Refute it at one input. -/
def rulebookTailsWrong : ChangeSpec := { name := "rulebookTails", fn := fun _ => fun
  | [d1, d2] => { results := [.lit (.bool false)], args := [d1, d2] }
  | _ => none }
def RulebookTailsWrongFalsely : Prop := rulebookTailsRow.holds Try.pinned (OpenSpec.ofChange rulebookTailsWrong)

/- THE SECOND FORM. 'bulk': how many values and letters a reading holds, each counted each time it is reached (what is shared counts as often as it is met; a slice's spare places count too). A statement '..UptoSaid' is the law's where the arguments, and the package variables that the reading takes, are together of bulk at most 1048576: NARROWER than '..Said'. Prove '..Said' where nothing that the law and all that it calls make is longer than what came in: it says more and counts as full. Else prove '..UptoSaid'. A law counts once. -/
mutual
def uptoBulk {H : Type} : DataW H → Nat
  | .lit (.string bytes) => bytes.length + 1
  | .lit _ => 1
  | .nil => 1
  | .ptr d => uptoBulk d + 1
  | .slice elems spare => uptoBulkAll elems + uptoBulkAll spare + 1
  | .agg parts => uptoBulkAll parts + 1
  | .iface _ d => uptoBulk d + 1
  | .map entries => uptoBulkEntries entries + 1
  | .held _ => 1
def uptoBulkAll {H : Type} : List (DataW H) → Nat
  | [] => 0
  | d :: r => uptoBulk d + uptoBulkAll r
def uptoBulkEntries {H : Type} : List (Lit × DataW H) → Nat
  | [] => 0
  | x :: r => uptoBulkEntry x + uptoBulkEntries r
def uptoBulkEntry {H : Type} : Lit × DataW H → Nat
  | (.string bytes, d) => bytes.length + uptoBulk d + 1
  | (_, d) => uptoBulk d + 1
 end
def uptoSmall : (H : Type) → List (DataW H) → Bool := fun _ ds => decide (uptoBulkAll ds ≤ 1048576)
def OpenSpec.upto (s : _root_.Go.ChangeSpec) : _root_.Go.OpenSpec := { _root_.Go.OpenSpec.ofChange s with cond := some uptoSmall }

/-- 'humpyardlaw36.RulebookExact', WHERE WHAT IT READS IS OF BULK AT MOST 1048576: true; the input reads as it did. -/
def rulebookExactUptoRow : OpenClaim := { program := "ytaoioacomnnhdaa", sum := "3d9e740f26ac05d6b558e05e4bd77da8085a7a86de37932d8ad7d6bc110f3677", func := "humpyard/humpyardlaw36.RulebookExact", spec := "rulebookExact", unfollowed := true, recurses := true, apart := false, narrowed := true }
def RulebookExactUptoSaid : Prop := rulebookExactUptoRow.holds Try.pinned (OpenSpec.upto rulebookExactSpec)

/-- 'humpyardlaw36.RulebookFirst', WHERE WHAT IT READS IS OF BULK AT MOST 1048576: true; the input reads as it did. -/
def rulebookFirstUptoRow : OpenClaim := { program := "ytaoioacomnnhdaa", sum := "3d9e740f26ac05d6b558e05e4bd77da8085a7a86de37932d8ad7d6bc110f3677", func := "humpyard/humpyardlaw36.RulebookFirst", spec := "rulebookFirst", unfollowed := true, recurses := true, apart := false, narrowed := true }
def RulebookFirstUptoSaid : Prop := rulebookFirstUptoRow.holds Try.pinned (OpenSpec.upto rulebookFirstSpec)

/-- 'humpyardlaw36.RulebookShortens', WHERE WHAT IT READS IS OF BULK AT MOST 1048576: true; the input reads as it did. -/
def rulebookShortensUptoRow : OpenClaim := { program := "ytaoioacomnnhdaa", sum := "3d9e740f26ac05d6b558e05e4bd77da8085a7a86de37932d8ad7d6bc110f3677", func := "humpyard/humpyardlaw36.RulebookShortens", spec := "rulebookShortens", unfollowed := true, recurses := true, apart := false, narrowed := true }
def RulebookShortensUptoSaid : Prop := rulebookShortensUptoRow.holds Try.pinned (OpenSpec.upto rulebookShortensSpec)

/-- 'humpyardlaw36.RulebookSeparates', WHERE WHAT IT READS IS OF BULK AT MOST 1048576: true; the input reads as it did. -/
def rulebookSeparatesUptoRow : OpenClaim := { program := "ytaoioacomnnhdaa", sum := "3d9e740f26ac05d6b558e05e4bd77da8085a7a86de37932d8ad7d6bc110f3677", func := "humpyard/humpyardlaw36.RulebookSeparates", spec := "rulebookSeparates", unfollowed := true, recurses := true, apart := false, narrowed := true }
def RulebookSeparatesUptoSaid : Prop := rulebookSeparatesUptoRow.holds Try.pinned (OpenSpec.upto rulebookSeparatesSpec)

/-- 'humpyardlaw36.RulebookLimits', WHERE WHAT IT READS IS OF BULK AT MOST 1048576: true; the input reads as it did. -/
def rulebookLimitsUptoRow : OpenClaim := { program := "ytaoioacomnnhdaa", sum := "3d9e740f26ac05d6b558e05e4bd77da8085a7a86de37932d8ad7d6bc110f3677", func := "humpyard/humpyardlaw36.RulebookLimits", spec := "rulebookLimits", unfollowed := true, recurses := true, apart := false, narrowed := true }
def RulebookLimitsUptoSaid : Prop := rulebookLimitsUptoRow.holds Try.pinned (OpenSpec.upto rulebookLimitsSpec)

/-- 'humpyardlaw36.RulebookTails', WHERE WHAT IT READS IS OF BULK AT MOST 1048576: true; the input reads as it did. -/
def rulebookTailsUptoRow : OpenClaim := { program := "ytaoioacomnnhdaa", sum := "3d9e740f26ac05d6b558e05e4bd77da8085a7a86de37932d8ad7d6bc110f3677", func := "humpyard/humpyardlaw36.RulebookTails", spec := "rulebookTails", unfollowed := true, recurses := true, apart := false, narrowed := true }
def RulebookTailsUptoSaid : Prop := rulebookTailsUptoRow.holds Try.pinned (OpenSpec.upto rulebookTailsSpec)

end Rows
end Go.Proofs.Ytaoioacomnnhdaa
