/-
  No cell of these rows narrows 'for every input' (looked for: loops, veiled, ifaces, maps, wideKeys, modest, calm, conditions, laid).
  DERIVED. THE GIVEN ROWS OF THIS SEAT. 3 by the template 'for every input the law returns true; each argument reads behind the call as it read before'; 0 by the template 'total and deterministic' (their statements: YtmkfilkddlfgjaaGreatTotals.lean).
  GIVEN WITH THE SEED: the statements are not yours to turn. If you find one false, say at which input.
  Laid BY PROGRAM, IN A SANDBOX (cutbox-rows.mjs): the forced cells as the released guide's own fill.sh prints them over the translation e518ae5492357499… (all of the seat's roots in one cut). By AI agents, Wed Nov 11 2026. No macro, syntax, notation, axiom, sorry.
-/
import Derived.Test.YtmkfilkddlfgjaaGreatChecked
import GoSem.Claim
import GoSem.ClaimJoined
import GoSem.ClaimMapViews
import Derived.JoinedTies
import Derived.KernelRfl
namespace Go.Proofs.YtmkfilkddlfgjaaGreat
/- THE CELL 'sum', in the pinned program and in every row, IS THE sha256 OF THE DUMP (.gsa) THAT YtmkfilkddlfgjaaGreatProg.lean LOADS. Nothing in Lean hashes anything: it is a label: what it is worth is what the hold of that sum in a sandbox is worth. -/
noncomputable def Tryz.pinned : Pinned := { name := "ytmkfilkddlfgjaagreat", sum := "e518ae549235749941e20692bca8cc581c5098d3179a24724a3825adcda3e0a4", checked := Tryz.checked }
namespace Rows
def none {H : Type} : Left H := { results := [], args := [] }

/-- 'humpyardlaw29.InterlockReleases': WHATEVER THE INPUT: true; the input reads as it did. -/
def interlockReleasesSpec : ChangeSpec := { name := "interlockReleases", fn := fun _ => fun
  | [d] => { results := [.lit (.bool true)], args := [d] }
  | _ => none }
def interlockReleasesRow : OpenClaim := { program := "ytmkfilkddlfgjaagreat", sum := "e518ae549235749941e20692bca8cc581c5098d3179a24724a3825adcda3e0a4", func := "humpyard/humpyardlaw29.InterlockReleases", spec := "interlockReleases", unfollowed := true, recurses := true, plainKeys := false, apart := false }
def InterlockReleasesSaid : Prop := interlockReleasesRow.holds Tryz.pinned (OpenSpec.ofChange interlockReleasesSpec)

/-- ITS FALSE NEIGHBOUR: 'it returns false'. Refute it at one input. -/
def interlockReleasesWrong : ChangeSpec := { name := "interlockReleases", fn := fun _ => fun
  | [d] => { results := [.lit (.bool false)], args := [d] }
  | _ => none }
def InterlockReleasesWrongFalsely : Prop := interlockReleasesRow.holds Tryz.pinned (OpenSpec.ofChange interlockReleasesWrong)

/-- 'humpyardlaw29.InterlockKeeps': WHATEVER THE INPUT: true; the input reads as it did. -/
def interlockKeepsSpec : ChangeSpec := { name := "interlockKeeps", fn := fun _ => fun
  | [d] => { results := [.lit (.bool true)], args := [d] }
  | _ => none }
def interlockKeepsRow : OpenClaim := { program := "ytmkfilkddlfgjaagreat", sum := "e518ae549235749941e20692bca8cc581c5098d3179a24724a3825adcda3e0a4", func := "humpyard/humpyardlaw29.InterlockKeeps", spec := "interlockKeeps", unfollowed := true, recurses := true, plainKeys := false, apart := false }
def InterlockKeepsSaid : Prop := interlockKeepsRow.holds Tryz.pinned (OpenSpec.ofChange interlockKeepsSpec)

/-- ITS FALSE NEIGHBOUR: 'it returns false'. Refute it at one input. -/
def interlockKeepsWrong : ChangeSpec := { name := "interlockKeeps", fn := fun _ => fun
  | [d] => { results := [.lit (.bool false)], args := [d] }
  | _ => none }
def InterlockKeepsWrongFalsely : Prop := interlockKeepsRow.holds Tryz.pinned (OpenSpec.ofChange interlockKeepsWrong)

/-- 'humpyardlaw29.InterlockProtects': WHATEVER THE INPUT: true; the input reads as it did. -/
def interlockProtectsSpec : ChangeSpec := { name := "interlockProtects", fn := fun _ => fun
  | [d] => { results := [.lit (.bool true)], args := [d] }
  | _ => none }
def interlockProtectsRow : OpenClaim := { program := "ytmkfilkddlfgjaagreat", sum := "e518ae549235749941e20692bca8cc581c5098d3179a24724a3825adcda3e0a4", func := "humpyard/humpyardlaw29.InterlockProtects", spec := "interlockProtects", unfollowed := true, recurses := true, plainKeys := false, apart := false }
def InterlockProtectsSaid : Prop := interlockProtectsRow.holds Tryz.pinned (OpenSpec.ofChange interlockProtectsSpec)

/-- ITS FALSE NEIGHBOUR: 'it returns false'. Refute it at one input. -/
def interlockProtectsWrong : ChangeSpec := { name := "interlockProtects", fn := fun _ => fun
  | [d] => { results := [.lit (.bool false)], args := [d] }
  | _ => none }
def InterlockProtectsWrongFalsely : Prop := interlockProtectsRow.holds Tryz.pinned (OpenSpec.ofChange interlockProtectsWrong)

/- THE SECOND FORM. 'bulk': how many values and letters a reading holds, each counted each time it is reached (what is shared counts as often as it is met; a slice's spare places count too). A statement '..UptoSaid' is the law's where the arguments, and the package variables that the reading takes, are together of bulk at most 1048576: NARROWER than '..Said'. Prove '..Said' where nothing that the law and all that it calls make is longer than what came in: it says more and counts as full. Else prove '..UptoSaid'. A law counts once. -/
mutual
def uptoBulk {H : Type} : DataW H → Nat
  | .lit (.string bytes) => bytes.length + 1
  | .lit _ => 1
  | .nil => 1
  | .ptr d => uptoBulk d + 1
  | .slice elems spare => uptoBulkAll elems + uptoBulkAll spare + 1
  | .agg parts => uptoBulkAll parts + 1
  | .iface _ d => uptoBulk d + 1
  | .map entries => uptoBulkEntries entries + 1
  | .held _ => 1
def uptoBulkAll {H : Type} : List (DataW H) → Nat
  | [] => 0
  | d :: r => uptoBulk d + uptoBulkAll r
def uptoBulkEntries {H : Type} : List (Lit × DataW H) → Nat
  | [] => 0
  | x :: r => uptoBulkEntry x + uptoBulkEntries r
def uptoBulkEntry {H : Type} : Lit × DataW H → Nat
  | (.string bytes, d) => bytes.length + uptoBulk d + 1
  | (_, d) => uptoBulk d + 1
 end
def uptoSmall : (H : Type) → List (DataW H) → Bool := fun _ ds => decide (uptoBulkAll ds ≤ 1048576)
def OpenSpec.upto (s : _root_.Go.ChangeSpec) : _root_.Go.OpenSpec := { _root_.Go.OpenSpec.ofChange s with cond := some uptoSmall }

/-- 'humpyardlaw29.InterlockReleases', WHERE WHAT IT READS IS OF BULK AT MOST 1048576: true; the input reads as it did. -/
def interlockReleasesUptoRow : OpenClaim := { program := "ytmkfilkddlfgjaagreat", sum := "e518ae549235749941e20692bca8cc581c5098d3179a24724a3825adcda3e0a4", func := "humpyard/humpyardlaw29.InterlockReleases", spec := "interlockReleases", unfollowed := true, recurses := true, plainKeys := false, apart := false, narrowed := true }
def InterlockReleasesUptoSaid : Prop := interlockReleasesUptoRow.holds Tryz.pinned (OpenSpec.upto interlockReleasesSpec)

/-- 'humpyardlaw29.InterlockKeeps', WHERE WHAT IT READS IS OF BULK AT MOST 1048576: true; the input reads as it did. -/
def interlockKeepsUptoRow : OpenClaim := { program := "ytmkfilkddlfgjaagreat", sum := "e518ae549235749941e20692bca8cc581c5098d3179a24724a3825adcda3e0a4", func := "humpyard/humpyardlaw29.InterlockKeeps", spec := "interlockKeeps", unfollowed := true, recurses := true, plainKeys := false, apart := false, narrowed := true }
def InterlockKeepsUptoSaid : Prop := interlockKeepsUptoRow.holds Tryz.pinned (OpenSpec.upto interlockKeepsSpec)

/-- 'humpyardlaw29.InterlockProtects', WHERE WHAT IT READS IS OF BULK AT MOST 1048576: true; the input reads as it did. -/
def interlockProtectsUptoRow : OpenClaim := { program := "ytmkfilkddlfgjaagreat", sum := "e518ae549235749941e20692bca8cc581c5098d3179a24724a3825adcda3e0a4", func := "humpyard/humpyardlaw29.InterlockProtects", spec := "interlockProtects", unfollowed := true, recurses := true, plainKeys := false, apart := false, narrowed := true }
def InterlockProtectsUptoSaid : Prop := interlockProtectsUptoRow.holds Tryz.pinned (OpenSpec.upto interlockProtectsSpec)

end Rows
end Go.Proofs.YtmkfilkddlfgjaaGreat
