/-
  NARROWER THAN 'FOR EVERY INPUT', by the rows' own cells (each row's printed sentence says how): ScriptCodes: laid · ScriptRoundTrips: laid.
  DERIVED. THE GIVEN ROWS OF THIS SEAT. 2 by the template 'for every input the law returns true; each argument reads behind the call as it read before'; 0 by the template 'total and deterministic' (their statements: YtfmpkhcaifbonaaGreatDoorTotals.lean).
  GIVEN WITH THE SEED: the statements are not yours to turn. If you find one false, say at which input.
  Laid BY PROGRAM, IN A SANDBOX (cutbox-rows.mjs): the forced cells as the released guide's own fill.sh prints them over the translation 0fa69d17b54b7f7e… (all of the seat's roots in one cut). By AI agents, Wed Nov 11 2026. No macro, syntax, notation, axiom, sorry.
-/
import Derived.Test.YtfmpkhcaifbonaaGreatDoorChecked
import GoSem.Claim
import GoSem.ClaimJoined
import GoSem.ClaimMapViews
import Derived.JoinedTies
import Derived.KernelRfl
namespace Go.Proofs.YtfmpkhcaifbonaaGreatDoor
/- THE CELL 'sum', in the pinned program and in every row, IS THE sha256 OF THE DUMP (.gsa) THAT YtfmpkhcaifbonaaGreatDoorProg.lean LOADS. Nothing in Lean hashes anything: it is a label: what it is worth is what the hold of that sum in a sandbox is worth. -/
noncomputable def Tryz.pinned : Pinned := { name := "ytfmpkhcaifbonaagreatdoor", sum := "0fa69d17b54b7f7ecbc5c6b3ca8a45b7d13742d98f466cdb3ba46abe1f6a1b52", checked := Tryz.checked }
namespace Rows
def none {H : Type} : Left H := { results := [], args := [] }

/- WHAT THE LISTED PACKAGE-LEVEL VARIABLES READ AS WHEN THE CALL BEGINS. Each datum BY PROGRAM (the guide's laid-datum.mjs) off the statement by which the dump's own 'gosem.cut.vars' lays the variable. In a bare row this is a premise. The card (YtfmpkhcaifbonaaGreatDoorCards.lean) ties it to the program's text. -/
def laid_humpyard_yardgen_dests {H : Type} : DataW H := .agg [.lit (.string [97]), .lit (.string [98]), .lit (.string [99]), .lit (.string [100]), .lit (.string [101]), .lit (.string [102, 97, 114])]

/-- 'humpyardlaw46.ScriptCodes': WHATEVER THE INPUT: true; the input reads as it did. -/
def scriptCodesSpec : ChangeSpec := { name := "scriptCodes", fn := fun _ => fun
  | [d1, d2, d3] => { results := [.lit (.bool true)], args := [d1, d2, d3] }
  | _ => none }
def scriptCodesRow : OpenClaim := { program := "ytfmpkhcaifbonaagreatdoor", sum := "0fa69d17b54b7f7ecbc5c6b3ca8a45b7d13742d98f466cdb3ba46abe1f6a1b52", func := "humpyard/humpyardlaw46.ScriptCodes", spec := "scriptCodes", inPlace := ["slices.overlaps[int]"], unfollowed := true, recurses := true, named := ["humpyard/yardgen.dests"], apart := false, laid := [("humpyard/yardgen.dests", laid_humpyard_yardgen_dests)] }
def ScriptCodesSaid : Prop := scriptCodesRow.holds Tryz.pinned (OpenSpec.ofChange scriptCodesSpec)

/-- ITS FALSE NEIGHBOUR: 'it returns false'. Refute it at one input. -/
def scriptCodesWrong : ChangeSpec := { name := "scriptCodes", fn := fun _ => fun
  | [d1, d2, d3] => { results := [.lit (.bool false)], args := [d1, d2, d3] }
  | _ => none }
def ScriptCodesWrongFalsely : Prop := scriptCodesRow.holds Tryz.pinned (OpenSpec.ofChange scriptCodesWrong)

/-- 'humpyardlaw46.ScriptRoundTrips': WHATEVER THE INPUT: true; the input reads as it did. -/
def scriptRoundTripsSpec : ChangeSpec := { name := "scriptRoundTrips", fn := fun _ => fun
  | [d1, d2, d3] => { results := [.lit (.bool true)], args := [d1, d2, d3] }
  | _ => none }
def scriptRoundTripsRow : OpenClaim := { program := "ytfmpkhcaifbonaagreatdoor", sum := "0fa69d17b54b7f7ecbc5c6b3ca8a45b7d13742d98f466cdb3ba46abe1f6a1b52", func := "humpyard/humpyardlaw46.ScriptRoundTrips", spec := "scriptRoundTrips", inPlace := ["slices.overlaps[int]"], unfollowed := true, recurses := true, named := ["humpyard/yardgen.dests"], apart := false, laid := [("humpyard/yardgen.dests", laid_humpyard_yardgen_dests)] }
def ScriptRoundTripsSaid : Prop := scriptRoundTripsRow.holds Tryz.pinned (OpenSpec.ofChange scriptRoundTripsSpec)

/-- ITS FALSE NEIGHBOUR: 'it returns false'. Refute it at one input. -/
def scriptRoundTripsWrong : ChangeSpec := { name := "scriptRoundTrips", fn := fun _ => fun
  | [d1, d2, d3] => { results := [.lit (.bool false)], args := [d1, d2, d3] }
  | _ => none }
def ScriptRoundTripsWrongFalsely : Prop := scriptRoundTripsRow.holds Tryz.pinned (OpenSpec.ofChange scriptRoundTripsWrong)

/- THE SECOND FORM. 'bulk': how many values and letters a reading holds, each counted each time it is reached (what is shared counts as often as it is met; a slice's spare places count too). A statement '..UptoSaid' is the law's where the arguments, and the package variables that the reading takes, are together of bulk at most 1048576: NARROWER than '..Said'. Prove '..Said' where nothing that the law and all that it calls make is longer than what came in: it says more and counts as full. Else prove '..UptoSaid'. A law counts once. -/
mutual
def uptoBulk {H : Type} : DataW H → Nat
  | .lit (.string bytes) => bytes.length + 1
  | .lit _ => 1
  | .nil => 1
  | .ptr d => uptoBulk d + 1
  | .slice elems spare => uptoBulkAll elems + uptoBulkAll spare + 1
  | .agg parts => uptoBulkAll parts + 1
  | .iface _ d => uptoBulk d + 1
  | .map entries => uptoBulkEntries entries + 1
  | .held _ => 1
def uptoBulkAll {H : Type} : List (DataW H) → Nat
  | [] => 0
  | d :: r => uptoBulk d + uptoBulkAll r
def uptoBulkEntries {H : Type} : List (Lit × DataW H) → Nat
  | [] => 0
  | x :: r => uptoBulkEntry x + uptoBulkEntries r
def uptoBulkEntry {H : Type} : Lit × DataW H → Nat
  | (.string bytes, d) => bytes.length + uptoBulk d + 1
  | (_, d) => uptoBulk d + 1
 end
def uptoSmall : (H : Type) → List (DataW H) → Bool := fun _ ds => decide (uptoBulkAll ds ≤ 1048576)
def OpenSpec.upto (s : _root_.Go.ChangeSpec) : _root_.Go.OpenSpec := { _root_.Go.OpenSpec.ofChange s with cond := some uptoSmall }

/-- 'humpyardlaw46.ScriptCodes', WHERE WHAT IT READS IS OF BULK AT MOST 1048576: true; the input reads as it did. -/
def scriptCodesUptoRow : OpenClaim := { program := "ytfmpkhcaifbonaagreatdoor", sum := "0fa69d17b54b7f7ecbc5c6b3ca8a45b7d13742d98f466cdb3ba46abe1f6a1b52", func := "humpyard/humpyardlaw46.ScriptCodes", spec := "scriptCodes", inPlace := ["slices.overlaps[int]"], unfollowed := true, recurses := true, named := ["humpyard/yardgen.dests"], apart := false, laid := [("humpyard/yardgen.dests", laid_humpyard_yardgen_dests)], narrowed := true }
def ScriptCodesUptoSaid : Prop := scriptCodesUptoRow.holds Tryz.pinned (OpenSpec.upto scriptCodesSpec)

/-- 'humpyardlaw46.ScriptRoundTrips', WHERE WHAT IT READS IS OF BULK AT MOST 1048576: true; the input reads as it did. -/
def scriptRoundTripsUptoRow : OpenClaim := { program := "ytfmpkhcaifbonaagreatdoor", sum := "0fa69d17b54b7f7ecbc5c6b3ca8a45b7d13742d98f466cdb3ba46abe1f6a1b52", func := "humpyard/humpyardlaw46.ScriptRoundTrips", spec := "scriptRoundTrips", inPlace := ["slices.overlaps[int]"], unfollowed := true, recurses := true, named := ["humpyard/yardgen.dests"], apart := false, laid := [("humpyard/yardgen.dests", laid_humpyard_yardgen_dests)], narrowed := true }
def ScriptRoundTripsUptoSaid : Prop := scriptRoundTripsUptoRow.holds Tryz.pinned (OpenSpec.upto scriptRoundTripsSpec)

end Rows
end Go.Proofs.YtfmpkhcaifbonaaGreatDoor
