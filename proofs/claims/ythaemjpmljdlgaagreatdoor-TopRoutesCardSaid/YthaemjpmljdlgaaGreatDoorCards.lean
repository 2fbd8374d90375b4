/-
  DERIVED. GIVEN WITH THE SEED: THE CARDS: each row of YthaemjpmljdlgaaGreatDoorRows.lean that lists a variable, with what it lists TIED to the program's text (the seventh form; the later family's looks); each row that meets fmt, with fmt's text TOLD by the authors' own Lean function (tested against real Go, not proved from fmt's source: count such statements apart). THE CARD IS WHAT COUNTS. Prove the row's statement (the work); the ties are given (YthaemjpmljdlgaaGreatDoorTie.lean); close each card by the builder's one call (the guide's Derived/Test/ToyasCard.lean, 'card_holds'). Laid BY PROGRAM, IN A SANDBOX (cutbox-door.mjs). By AI agents, Wed Nov 11 2026. No macro, syntax, notation, axiom, sorry.
-/
import Derived.Test.YthaemjpmljdlgaaGreatDoorRows
import GoSem.ClaimSeven
namespace Go.Proofs.YthaemjpmljdlgaaGreatDoor
namespace Rows

/-- THE TIED CARD OF 'humpyardtop.TopRoutes'. -/
def topRoutesCard : Claim7 := { stood := { row := topRoutesRow, standIns := [], harness := (true, "06db1455f62da97dab0d7f147c8f4a7b867363df09b659393374dc81b878aa07"), looks := false }, kinds := [], alts := [], laidByText := true, laidKinds := [.data, .data, .data, .data, .pinned], laidTests := true, laidLooks := .later }
def TopRoutesCardSaid : Prop := Claim7.holds Tryz.pinned (.plain (OpenSpec.ofChange topRoutesSpec)) topRoutesCard

/-- THE SECOND FORM's CARD OF 'humpyardtop.TopRoutes'. -/
def topRoutesUptoCard : Claim7 := { stood := { row := topRoutesUptoRow, standIns := [], harness := (true, "06db1455f62da97dab0d7f147c8f4a7b867363df09b659393374dc81b878aa07"), looks := false }, kinds := [], alts := [], laidByText := true, laidKinds := [.data, .data, .data, .data, .pinned], laidTests := true, laidLooks := .later }
def TopRoutesUptoCardSaid : Prop := Claim7.holds Tryz.pinned (.plain (OpenSpec.upto topRoutesSpec)) topRoutesUptoCard
end Rows
end Go.Proofs.YthaemjpmljdlgaaGreatDoor
