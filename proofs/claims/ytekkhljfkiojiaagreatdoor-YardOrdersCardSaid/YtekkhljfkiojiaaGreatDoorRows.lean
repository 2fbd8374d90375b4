/-
  NARROWER THAN 'FOR EVERY INPUT', by the rows' own cells (each row's printed sentence says how): YardExact: laid · YardConserves: laid · YardShifts: laid · YardProves: laid · YardOrders: laid · YardFinishes: laid.
  DERIVED. THE GIVEN ROWS OF THIS SEAT. 6 by the template 'for every input the law returns true; each argument reads behind the call as it read before'; 0 by the template 'total and deterministic' (their statements: YtekkhljfkiojiaaGreatDoorTotals.lean).
  GIVEN WITH THE SEED: the statements are not yours to turn. If you find one false, say at which input.
  Laid BY PROGRAM, IN A SANDBOX (cutbox-rows.mjs): the forced cells as the released guide's own fill.sh prints them over the translation d6e41732e64f38e0… (all of the seat's roots in one cut). By AI agents, Wed Nov 11 2026. No macro, syntax, notation, axiom, sorry.
-/
import Derived.Test.YtekkhljfkiojiaaGreatDoorChecked
import GoSem.Claim
import GoSem.ClaimJoined
import GoSem.ClaimMapViews
import Derived.JoinedTies
import Derived.KernelRfl
namespace Go.Proofs.YtekkhljfkiojiaaGreatDoor
/- THE CELL 'sum', in the pinned program and in every row, IS THE sha256 OF THE DUMP (.gsa) THAT YtekkhljfkiojiaaGreatDoorProg.lean LOADS. Nothing in Lean hashes anything: it is a label: what it is worth is what the hold of that sum in a sandbox is worth. -/
noncomputable def Tryz.pinned : Pinned := { name := "ytekkhljfkiojiaagreatdoor", sum := "d6e41732e64f38e0c98b48dc09653ee63475488cd1980e14d252cd658011b554", checked := Tryz.checked }
namespace Rows
def none {H : Type} : Left H := { results := [], args := [] }

/- WHAT THE LISTED PACKAGE-LEVEL VARIABLES READ AS WHEN THE CALL BEGINS. Each datum BY PROGRAM (the guide's laid-datum.mjs) off the statement by which the dump's own 'gosem.cut.vars' lays the variable. In a bare row this is a premise. The card (YtekkhljfkiojiaaGreatDoorCards.lean) ties it to the program's text. -/
def laid_humpyard_yardgen_dests {H : Type} : DataW H := .agg [.lit (.string [97]), .lit (.string [98]), .lit (.string [99]), .lit (.string [100]), .lit (.string [101]), .lit (.string [102, 97, 114])]

/-- 'humpyardlaw44.YardExact': WHATEVER THE INPUT: true; the input reads as it did. -/
def yardExactSpec : ChangeSpec := { name := "yardExact", fn := fun _ => fun
  | [d1, d2, d3] => { results := [.lit (.bool true)], args := [d1, d2, d3] }
  | _ => none }
def yardExactRow : OpenClaim := { program := "ytekkhljfkiojiaagreatdoor", sum := "d6e41732e64f38e0c98b48dc09653ee63475488cd1980e14d252cd658011b554", func := "humpyard/humpyardlaw44.YardExact", spec := "yardExact", inPlace := ["slices.overlaps[int]"], unfollowed := true, recurses := true, named := ["humpyard/yardgen.dests"], apart := false, laid := [("humpyard/yardgen.dests", laid_humpyard_yardgen_dests)] }
def YardExactSaid : Prop := yardExactRow.holds Tryz.pinned (OpenSpec.ofChange yardExactSpec)

/-- ITS FALSE NEIGHBOUR: 'it returns false'. Refute it at one input. -/
def yardExactWrong : ChangeSpec := { name := "yardExact", fn := fun _ => fun
  | [d1, d2, d3] => { results := [.lit (.bool false)], args := [d1, d2, d3] }
  | _ => none }
def YardExactWrongFalsely : Prop := yardExactRow.holds Tryz.pinned (OpenSpec.ofChange yardExactWrong)

/-- 'humpyardlaw44.YardConserves': WHATEVER THE INPUT: true; the input reads as it did. -/
def yardConservesSpec : ChangeSpec := { name := "yardConserves", fn := fun _ => fun
  | [d] => { results := [.lit (.bool true)], args := [d] }
  | _ => none }
def yardConservesRow : OpenClaim := { program := "ytekkhljfkiojiaagreatdoor", sum := "d6e41732e64f38e0c98b48dc09653ee63475488cd1980e14d252cd658011b554", func := "humpyard/humpyardlaw44.YardConserves", spec := "yardConserves", inPlace := ["slices.overlaps[int]"], unfollowed := true, recurses := true, named := ["humpyard/yardgen.dests"], apart := false, laid := [("humpyard/yardgen.dests", laid_humpyard_yardgen_dests)] }
def YardConservesSaid : Prop := yardConservesRow.holds Tryz.pinned (OpenSpec.ofChange yardConservesSpec)

/-- ITS FALSE NEIGHBOUR: 'it returns false'. Refute it at one input. -/
def yardConservesWrong : ChangeSpec := { name := "yardConserves", fn := fun _ => fun
  | [d] => { results := [.lit (.bool false)], args := [d] }
  | _ => none }
def YardConservesWrongFalsely : Prop := yardConservesRow.holds Tryz.pinned (OpenSpec.ofChange yardConservesWrong)

/-- 'humpyardlaw44.YardShifts': WHATEVER THE INPUT: true; the input reads as it did. -/
def yardShiftsSpec : ChangeSpec := { name := "yardShifts", fn := fun _ => fun
  | [d] => { results := [.lit (.bool true)], args := [d] }
  | _ => none }
def yardShiftsRow : OpenClaim := { program := "ytekkhljfkiojiaagreatdoor", sum := "d6e41732e64f38e0c98b48dc09653ee63475488cd1980e14d252cd658011b554", func := "humpyard/humpyardlaw44.YardShifts", spec := "yardShifts", inPlace := ["slices.overlaps[int]"], unfollowed := true, recurses := true, named := ["humpyard/yardgen.dests"], apart := false, laid := [("humpyard/yardgen.dests", laid_humpyard_yardgen_dests)] }
def YardShiftsSaid : Prop := yardShiftsRow.holds Tryz.pinned (OpenSpec.ofChange yardShiftsSpec)

/-- ITS FALSE NEIGHBOUR: 'it returns false'. Refute it at one input. -/
def yardShiftsWrong : ChangeSpec := { name := "yardShifts", fn := fun _ => fun
  | [d] => { results := [.lit (.bool false)], args := [d] }
  | _ => none }
def YardShiftsWrongFalsely : Prop := yardShiftsRow.holds Tryz.pinned (OpenSpec.ofChange yardShiftsWrong)

/-- 'humpyardlaw44.YardProves': WHATEVER THE INPUT: true; the input reads as it did. -/
def yardProvesSpec : ChangeSpec := { name := "yardProves", fn := fun _ => fun
  | [d] => { results := [.lit (.bool true)], args := [d] }
  | _ => none }
def yardProvesRow : OpenClaim := { program := "ytekkhljfkiojiaagreatdoor", sum := "d6e41732e64f38e0c98b48dc09653ee63475488cd1980e14d252cd658011b554", func := "humpyard/humpyardlaw44.YardProves", spec := "yardProves", inPlace := ["slices.overlaps[int]"], unfollowed := true, recurses := true, named := ["humpyard/yardgen.dests"], apart := false, laid := [("humpyard/yardgen.dests", laid_humpyard_yardgen_dests)] }
def YardProvesSaid : Prop := yardProvesRow.holds Tryz.pinned (OpenSpec.ofChange yardProvesSpec)

/-- ITS FALSE NEIGHBOUR: 'it returns false'. Refute it at one input. -/
def yardProvesWrong : ChangeSpec := { name := "yardProves", fn := fun _ => fun
  | [d] => { results := [.lit (.bool false)], args := [d] }
  | _ => none }
def YardProvesWrongFalsely : Prop := yardProvesRow.holds Tryz.pinned (OpenSpec.ofChange yardProvesWrong)

/-- 'humpyardlaw44.YardOrders': WHATEVER THE INPUT: true; the input reads as it did. -/
def yardOrdersSpec : ChangeSpec := { name := "yardOrders", fn := fun _ => fun
  | [d] => { results := [.lit (.bool true)], args := [d] }
  | _ => none }
def yardOrdersRow : OpenClaim := { program := "ytekkhljfkiojiaagreatdoor", sum := "d6e41732e64f38e0c98b48dc09653ee63475488cd1980e14d252cd658011b554", func := "humpyard/humpyardlaw44.YardOrders", spec := "yardOrders", inPlace := ["slices.overlaps[int]"], unfollowed := true, recurses := true, named := ["humpyard/yardgen.dests"], apart := false, laid := [("humpyard/yardgen.dests", laid_humpyard_yardgen_dests)] }
def YardOrdersSaid : Prop := yardOrdersRow.holds Tryz.pinned (OpenSpec.ofChange yardOrdersSpec)

/-- ITS FALSE NEIGHBOUR: 'it returns false'. Refute it at one input. -/
def yardOrdersWrong : ChangeSpec := { name := "yardOrders", fn := fun _ => fun
  | [d] => { results := [.lit (.bool false)], args := [d] }
  | _ => none }
def YardOrdersWrongFalsely : Prop := yardOrdersRow.holds Tryz.pinned (OpenSpec.ofChange yardOrdersWrong)

/-- 'humpyardlaw44.YardFinishes': WHATEVER THE INPUT: true; the input reads as it did. -/
def yardFinishesSpec : ChangeSpec := { name := "yardFinishes", fn := fun _ => fun
  | [d] => { results := [.lit (.bool true)], args := [d] }
  | _ => none }
def yardFinishesRow : OpenClaim := { program := "ytekkhljfkiojiaagreatdoor", sum := "d6e41732e64f38e0c98b48dc09653ee63475488cd1980e14d252cd658011b554", func := "humpyard/humpyardlaw44.YardFinishes", spec := "yardFinishes", inPlace := ["slices.overlaps[int]"], unfollowed := true, recurses := true, named := ["humpyard/yardgen.dests"], apart := false, laid := [("humpyard/yardgen.dests", laid_humpyard_yardgen_dests)] }
def YardFinishesSaid : Prop := yardFinishesRow.holds Tryz.pinned (OpenSpec.ofChange yardFinishesSpec)

/-- ITS FALSE NEIGHBOUR: 'it returns false'. Refute it at one input. -/
def yardFinishesWrong : ChangeSpec := { name := "yardFinishes", fn := fun _ => fun
  | [d] => { results := [.lit (.bool false)], args := [d] }
  | _ => none }
def YardFinishesWrongFalsely : Prop := yardFinishesRow.holds Tryz.pinned (OpenSpec.ofChange yardFinishesWrong)

/- THE SECOND FORM. 'bulk': how many values and letters a reading holds, each counted each time it is reached (what is shared counts as often as it is met; a slice's spare places count too). A statement '..UptoSaid' is the law's where the arguments, and the package variables that the reading takes, are together of bulk at most 1048576: NARROWER than '..Said'. Prove '..Said' where nothing that the law and all that it calls make is longer than what came in: it says more and counts as full. Else prove '..UptoSaid'. A law counts once. -/
mutual
def uptoBulk {H : Type} : DataW H → Nat
  | .lit (.string bytes) => bytes.length + 1
  | .lit _ => 1
  | .nil => 1
  | .ptr d => uptoBulk d + 1
  | .slice elems spare => uptoBulkAll elems + uptoBulkAll spare + 1
  | .agg parts => uptoBulkAll parts + 1
  | .iface _ d => uptoBulk d + 1
  | .map entries => uptoBulkEntries entries + 1
  | .held _ => 1
def uptoBulkAll {H : Type} : List (DataW H) → Nat
  | [] => 0
  | d :: r => uptoBulk d + uptoBulkAll r
def uptoBulkEntries {H : Type} : List (Lit × DataW H) → Nat
  | [] => 0
  | x :: r => uptoBulkEntry x + uptoBulkEntries r
def uptoBulkEntry {H : Type} : Lit × DataW H → Nat
  | (.string bytes, d) => bytes.length + uptoBulk d + 1
  | (_, d) => uptoBulk d + 1
 end
def uptoSmall : (H : Type) → List (DataW H) → Bool := fun _ ds => decide (uptoBulkAll ds ≤ 1048576)
def OpenSpec.upto (s : _root_.Go.ChangeSpec) : _root_.Go.OpenSpec := { _root_.Go.OpenSpec.ofChange s with cond := some uptoSmall }

/-- 'humpyardlaw44.YardExact', WHERE WHAT IT READS IS OF BULK AT MOST 1048576: true; the input reads as it did. -/
def yardExactUptoRow : OpenClaim := { program := "ytekkhljfkiojiaagreatdoor", sum := "d6e41732e64f38e0c98b48dc09653ee63475488cd1980e14d252cd658011b554", func := "humpyard/humpyardlaw44.YardExact", spec := "yardExact", inPlace := ["slices.overlaps[int]"], unfollowed := true, recurses := true, named := ["humpyard/yardgen.dests"], apart := false, laid := [("humpyard/yardgen.dests", laid_humpyard_yardgen_dests)], narrowed := true }
def YardExactUptoSaid : Prop := yardExactUptoRow.holds Tryz.pinned (OpenSpec.upto yardExactSpec)

/-- 'humpyardlaw44.YardConserves', WHERE WHAT IT READS IS OF BULK AT MOST 1048576: true; the input reads as it did. -/
def yardConservesUptoRow : OpenClaim := { program := "ytekkhljfkiojiaagreatdoor", sum := "d6e41732e64f38e0c98b48dc09653ee63475488cd1980e14d252cd658011b554", func := "humpyard/humpyardlaw44.YardConserves", spec := "yardConserves", inPlace := ["slices.overlaps[int]"], unfollowed := true, recurses := true, named := ["humpyard/yardgen.dests"], apart := false, laid := [("humpyard/yardgen.dests", laid_humpyard_yardgen_dests)], narrowed := true }
def YardConservesUptoSaid : Prop := yardConservesUptoRow.holds Tryz.pinned (OpenSpec.upto yardConservesSpec)

/-- 'humpyardlaw44.YardShifts', WHERE WHAT IT READS IS OF BULK AT MOST 1048576: true; the input reads as it did. -/
def yardShiftsUptoRow : OpenClaim := { program := "ytekkhljfkiojiaagreatdoor", sum := "d6e41732e64f38e0c98b48dc09653ee63475488cd1980e14d252cd658011b554", func := "humpyard/humpyardlaw44.YardShifts", spec := "yardShifts", inPlace := ["slices.overlaps[int]"], unfollowed := true, recurses := true, named := ["humpyard/yardgen.dests"], apart := false, laid := [("humpyard/yardgen.dests", laid_humpyard_yardgen_dests)], narrowed := true }
def YardShiftsUptoSaid : Prop := yardShiftsUptoRow.holds Tryz.pinned (OpenSpec.upto yardShiftsSpec)

/-- 'humpyardlaw44.YardProves', WHERE WHAT IT READS IS OF BULK AT MOST 1048576: true; the input reads as it did. -/
def yardProvesUptoRow : OpenClaim := { program := "ytekkhljfkiojiaagreatdoor", sum := "d6e41732e64f38e0c98b48dc09653ee63475488cd1980e14d252cd658011b554", func := "humpyard/humpyardlaw44.YardProves", spec := "yardProves", inPlace := ["slices.overlaps[int]"], unfollowed := true, recurses := true, named := ["humpyard/yardgen.dests"], apart := false, laid := [("humpyard/yardgen.dests", laid_humpyard_yardgen_dests)], narrowed := true }
def YardProvesUptoSaid : Prop := yardProvesUptoRow.holds Tryz.pinned (OpenSpec.upto yardProvesSpec)

/-- 'humpyardlaw44.YardOrders', WHERE WHAT IT READS IS OF BULK AT MOST 1048576: true; the input reads as it did. -/
def yardOrdersUptoRow : OpenClaim := { program := "ytekkhljfkiojiaagreatdoor", sum := "d6e41732e64f38e0c98b48dc09653ee63475488cd1980e14d252cd658011b554", func := "humpyard/humpyardlaw44.YardOrders", spec := "yardOrders", inPlace := ["slices.overlaps[int]"], unfollowed := true, recurses := true, named := ["humpyard/yardgen.dests"], apart := false, laid := [("humpyard/yardgen.dests", laid_humpyard_yardgen_dests)], narrowed := true }
def YardOrdersUptoSaid : Prop := yardOrdersUptoRow.holds Tryz.pinned (OpenSpec.upto yardOrdersSpec)

/-- 'humpyardlaw44.YardFinishes', WHERE WHAT IT READS IS OF BULK AT MOST 1048576: true; the input reads as it did. -/
def yardFinishesUptoRow : OpenClaim := { program := "ytekkhljfkiojiaagreatdoor", sum := "d6e41732e64f38e0c98b48dc09653ee63475488cd1980e14d252cd658011b554", func := "humpyard/humpyardlaw44.YardFinishes", spec := "yardFinishes", inPlace := ["slices.overlaps[int]"], unfollowed := true, recurses := true, named := ["humpyard/yardgen.dests"], apart := false, laid := [("humpyard/yardgen.dests", laid_humpyard_yardgen_dests)], narrowed := true }
def YardFinishesUptoSaid : Prop := yardFinishesUptoRow.holds Tryz.pinned (OpenSpec.upto yardFinishesSpec)

end Rows
end Go.Proofs.YtekkhljfkiojiaaGreatDoor
