/-
  No cell of these rows narrows 'for every input' (looked for: loops, veiled, ifaces, maps, wideKeys, modest, calm, conditions, laid).
  DERIVED. THE GIVEN ROWS OF THIS SEAT. 3 by the template 'for every input the law returns true; each argument reads behind the call as it read before'; 0 by the template 'total and deterministic' (their statements: YtbnnlbjljgampaaTotals.lean).
  GIVEN WITH THE SEED: the statements are not yours to turn. If you find one false, say at which input.
  Laid BY PROGRAM, IN A SANDBOX (cutbox-rows.mjs): the forced cells as the released guide's own fill.sh prints them over the translation 130f19cab941e62f… (all of the seat's roots in one cut). By AI agents, Wed Nov 11 2026. No macro, syntax, notation, axiom, sorry.
-/
import Derived.Test.YtbnnlbjljgampaaChecked
import GoSem.Claim
import GoSem.ClaimJoined
import GoSem.ClaimMapViews
import Derived.JoinedTies
import Derived.KernelRfl
namespace Go.Proofs.Ytbnnlbjljgampaa
/- THE CELL 'sum', in the pinned program and in every row, IS THE sha256 OF THE DUMP (.gsa) THAT YtbnnlbjljgampaaProg.lean LOADS. Nothing in Lean hashes anything: it is a label: what it is worth is what the hold of that sum in a sandbox is worth. -/
noncomputable def Try.pinned : Pinned := { name := "ytbnnlbjljgampaa", sum := "130f19cab941e62f3f953f96414b0677f40c38456b392e23321246cc8adbcf8c", checked := Try.checked }
namespace Rows
def none {H : Type} : Left H := { results := [], args := [] }

/-- 'humpyardlaw37.TrainbuildSheets': WHATEVER THE INPUT: true; the input reads as it did. -/
def trainbuildSheetsSpec : ChangeSpec := { name := "trainbuildSheets", fn := fun _ => fun
  | [d] => { results := [.lit (.bool true)], args := [d] }
  | _ => none }
def trainbuildSheetsRow : OpenClaim := { program := "ytbnnlbjljgampaa", sum := "130f19cab941e62f3f953f96414b0677f40c38456b392e23321246cc8adbcf8c", func := "humpyard/humpyardlaw37.TrainbuildSheets", spec := "trainbuildSheets", unfollowed := true, recurses := true, apart := false }
def TrainbuildSheetsSaid : Prop := trainbuildSheetsRow.holds Try.pinned (OpenSpec.ofChange trainbuildSheetsSpec)

/-- ITS FALSE NEIGHBOUR: 'it returns false'. Refute it at one input. -/
def trainbuildSheetsWrong : ChangeSpec := { name := "trainbuildSheets", fn := fun _ => fun
  | [d] => { results := [.lit (.bool false)], args := [d] }
  | _ => none }
def TrainbuildSheetsWrongFalsely : Prop := trainbuildSheetsRow.holds Try.pinned (OpenSpec.ofChange trainbuildSheetsWrong)

/-- 'humpyardlaw37.TrainbuildRefuses': WHATEVER THE INPUT: true; the input reads as it did. -/
def trainbuildRefusesSpec : ChangeSpec := { name := "trainbuildRefuses", fn := fun _ => fun
  | [d] => { results := [.lit (.bool true)], args := [d] }
  | _ => none }
def trainbuildRefusesRow : OpenClaim := { program := "ytbnnlbjljgampaa", sum := "130f19cab941e62f3f953f96414b0677f40c38456b392e23321246cc8adbcf8c", func := "humpyard/humpyardlaw37.TrainbuildRefuses", spec := "trainbuildRefuses", unfollowed := true, recurses := true, apart := false }
def TrainbuildRefusesSaid : Prop := trainbuildRefusesRow.holds Try.pinned (OpenSpec.ofChange trainbuildRefusesSpec)

/-- ITS FALSE NEIGHBOUR: 'it returns false'. Refute it at one input. -/
def trainbuildRefusesWrong : ChangeSpec := { name := "trainbuildRefuses", fn := fun _ => fun
  | [d] => { results := [.lit (.bool false)], args := [d] }
  | _ => none }
def TrainbuildRefusesWrongFalsely : Prop := trainbuildRefusesRow.holds Try.pinned (OpenSpec.ofChange trainbuildRefusesWrong)

/-- 'humpyardlaw37.TrainbuildLongs': WHATEVER THE INPUT: true; the input reads as it did. -/
def trainbuildLongsSpec : ChangeSpec := { name := "trainbuildLongs", fn := fun _ => fun
  | [d] => { results := [.lit (.bool true)], args := [d] }
  | _ => none }
def trainbuildLongsRow : OpenClaim := { program := "ytbnnlbjljgampaa", sum := "130f19cab941e62f3f953f96414b0677f40c38456b392e23321246cc8adbcf8c", func := "humpyard/humpyardlaw37.TrainbuildLongs", spec := "trainbuildLongs", unfollowed := true, recurses := true, apart := false }
def TrainbuildLongsSaid : Prop := trainbuildLongsRow.holds Try.pinned (OpenSpec.ofChange trainbuildLongsSpec)

/-- ITS FALSE NEIGHBOUR: 'it returns false'. Refute it at one input. -/
def trainbuildLongsWrong : ChangeSpec := { name := "trainbuildLongs", fn := fun _ => fun
  | [d] => { results := [.lit (.bool false)], args := [d] }
  | _ => none }
def TrainbuildLongsWrongFalsely : Prop := trainbuildLongsRow.holds Try.pinned (OpenSpec.ofChange trainbuildLongsWrong)

/- THE SECOND FORM. 'bulk': how many values and letters a reading holds, each counted each time it is reached (what is shared counts as often as it is met; a slice's spare places count too). A statement '..UptoSaid' is the law's where the arguments, and the package variables that the reading takes, are together of bulk at most 1048576: NARROWER than '..Said'. Prove '..Said' where nothing that the law and all that it calls make is longer than what came in: it says more and counts as full. Else prove '..UptoSaid'. A law counts once. -/
mutual
def uptoBulk {H : Type} : DataW H → Nat
  | .lit (.string bytes) => bytes.length + 1
  | .lit _ => 1
  | .nil => 1
  | .ptr d => uptoBulk d + 1
  | .slice elems spare => uptoBulkAll elems + uptoBulkAll spare + 1
  | .agg parts => uptoBulkAll parts + 1
  | .iface _ d => uptoBulk d + 1
  | .map entries => uptoBulkEntries entries + 1
  | .held _ => 1
def uptoBulkAll {H : Type} : List (DataW H) → Nat
  | [] => 0
  | d :: r => uptoBulk d + uptoBulkAll r
def uptoBulkEntries {H : Type} : List (Lit × DataW H) → Nat
  | [] => 0
  | x :: r => uptoBulkEntry x + uptoBulkEntries r
def uptoBulkEntry {H : Type} : Lit × DataW H → Nat
  | (.string bytes, d) => bytes.length + uptoBulk d + 1
  | (_, d) => uptoBulk d + 1
 end
def uptoSmall : (H : Type) → List (DataW H) → Bool := fun _ ds => decide (uptoBulkAll ds ≤ 1048576)
def OpenSpec.upto (s : _root_.Go.ChangeSpec) : _root_.Go.OpenSpec := { _root_.Go.OpenSpec.ofChange s with cond := some uptoSmall }

/-- 'humpyardlaw37.TrainbuildSheets', WHERE WHAT IT READS IS OF BULK AT MOST 1048576: true; the input reads as it did. -/
def trainbuildSheetsUptoRow : OpenClaim := { program := "ytbnnlbjljgampaa", sum := "130f19cab941e62f3f953f96414b0677f40c38456b392e23321246cc8adbcf8c", func := "humpyard/humpyardlaw37.TrainbuildSheets", spec := "trainbuildSheets", unfollowed := true, recurses := true, apart := false, narrowed := true }
def TrainbuildSheetsUptoSaid : Prop := trainbuildSheetsUptoRow.holds Try.pinned (OpenSpec.upto trainbuildSheetsSpec)

/-- 'humpyardlaw37.TrainbuildRefuses', WHERE WHAT IT READS IS OF BULK AT MOST 1048576: true; the input reads as it did. -/
def trainbuildRefusesUptoRow : OpenClaim := { program := "ytbnnlbjljgampaa", sum := "130f19cab941e62f3f953f96414b0677f40c38456b392e23321246cc8adbcf8c", func := "humpyard/humpyardlaw37.TrainbuildRefuses", spec := "trainbuildRefuses", unfollowed := true, recurses := true, apart := false, narrowed := true }
def TrainbuildRefusesUptoSaid : Prop := trainbuildRefusesUptoRow.holds Try.pinned (OpenSpec.upto trainbuildRefusesSpec)

/-- 'humpyardlaw37.TrainbuildLongs', WHERE WHAT IT READS IS OF BULK AT MOST 1048576: true; the input reads as it did. -/
def trainbuildLongsUptoRow : OpenClaim := { program := "ytbnnlbjljgampaa", sum := "130f19cab941e62f3f953f96414b0677f40c38456b392e23321246cc8adbcf8c", func := "humpyard/humpyardlaw37.TrainbuildLongs", spec := "trainbuildLongs", unfollowed := true, recurses := true, apart := false, narrowed := true }
def TrainbuildLongsUptoSaid : Prop := trainbuildLongsUptoRow.holds Try.pinned (OpenSpec.upto trainbuildLongsSpec)

end Rows
end Go.Proofs.Ytbnnlbjljgampaa
