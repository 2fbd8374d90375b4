/-
  DERIVED. GIVEN WITH THE SEED: THE CARDS: each row of YtekkhljfkiojiaaGreatDoorRows.lean that lists a variable, with what it lists TIED to the program's text (the seventh form; the later family's looks); each row that meets fmt, with fmt's text TOLD by the authors' own Lean function (tested against real Go, not proved from fmt's source: count such statements apart). THE CARD IS WHAT COUNTS. Prove the row's statement (the work); the ties are given (YtekkhljfkiojiaaGreatDoorTie.lean); close each card by the builder's one call (the guide's Derived/Test/ToyasCard.lean, 'card_holds'). Laid BY PROGRAM, IN A SANDBOX (cutbox-door.mjs). By AI agents, Wed Nov 11 2026. No macro, syntax, notation, axiom, sorry.
-/
import Derived.Test.YtekkhljfkiojiaaGreatDoorRows
import GoSem.ClaimSeven
namespace Go.Proofs.YtekkhljfkiojiaaGreatDoor
namespace Rows

/-- THE TIED CARD OF 'humpyardlaw44.YardExact'. -/
def yardExactCard : Claim7 := { stood := { row := yardExactRow, standIns := [], harness := (true, "06f3265f2d0e07f9e0e4b68bfdef1bf7c9e94e86db540a856e86ffcc31c77a88"), looks := false }, kinds := [], alts := [], laidByText := true, laidKinds := [.data], laidTests := true, laidLooks := .later }
def YardExactCardSaid : Prop := Claim7.holds Tryz.pinned (.plain (OpenSpec.ofChange yardExactSpec)) yardExactCard

/-- THE TIED CARD OF 'humpyardlaw44.YardConserves'. -/
def yardConservesCard : Claim7 := { stood := { row := yardConservesRow, standIns := [], harness := (true, "06f3265f2d0e07f9e0e4b68bfdef1bf7c9e94e86db540a856e86ffcc31c77a88"), looks := false }, kinds := [], alts := [], laidByText := true, laidKinds := [.data], laidTests := true, laidLooks := .later }
def YardConservesCardSaid : Prop := Claim7.holds Tryz.pinned (.plain (OpenSpec.ofChange yardConservesSpec)) yardConservesCard

/-- THE TIED CARD OF 'humpyardlaw44.YardShifts'. -/
def yardShiftsCard : Claim7 := { stood := { row := yardShiftsRow, standIns := [], harness := (true, "06f3265f2d0e07f9e0e4b68bfdef1bf7c9e94e86db540a856e86ffcc31c77a88"), looks := false }, kinds := [], alts := [], laidByText := true, laidKinds := [.data], laidTests := true, laidLooks := .later }
def YardShiftsCardSaid : Prop := Claim7.holds Tryz.pinned (.plain (OpenSpec.ofChange yardShiftsSpec)) yardShiftsCard

/-- THE TIED CARD OF 'humpyardlaw44.YardProves'. -/
def yardProvesCard : Claim7 := { stood := { row := yardProvesRow, standIns := [], harness := (true, "06f3265f2d0e07f9e0e4b68bfdef1bf7c9e94e86db540a856e86ffcc31c77a88"), looks := false }, kinds := [], alts := [], laidByText := true, laidKinds := [.data], laidTests := true, laidLooks := .later }
def YardProvesCardSaid : Prop := Claim7.holds Tryz.pinned (.plain (OpenSpec.ofChange yardProvesSpec)) yardProvesCard

/-- THE TIED CARD OF 'humpyardlaw44.YardOrders'. -/
def yardOrdersCard : Claim7 := { stood := { row := yardOrdersRow, standIns := [], harness := (true, "06f3265f2d0e07f9e0e4b68bfdef1bf7c9e94e86db540a856e86ffcc31c77a88"), looks := false }, kinds := [], alts := [], laidByText := true, laidKinds := [.data], laidTests := true, laidLooks := .later }
def YardOrdersCardSaid : Prop := Claim7.holds Tryz.pinned (.plain (OpenSpec.ofChange yardOrdersSpec)) yardOrdersCard

/-- THE TIED CARD OF 'humpyardlaw44.YardFinishes'. -/
def yardFinishesCard : Claim7 := { stood := { row := yardFinishesRow, standIns := [], harness := (true, "06f3265f2d0e07f9e0e4b68bfdef1bf7c9e94e86db540a856e86ffcc31c77a88"), looks := false }, kinds := [], alts := [], laidByText := true, laidKinds := [.data], laidTests := true, laidLooks := .later }
def YardFinishesCardSaid : Prop := Claim7.holds Tryz.pinned (.plain (OpenSpec.ofChange yardFinishesSpec)) yardFinishesCard

/-- THE SECOND FORM's CARD OF 'humpyardlaw44.YardExact'. -/
def yardExactUptoCard : Claim7 := { stood := { row := yardExactUptoRow, standIns := [], harness := (true, "06f3265f2d0e07f9e0e4b68bfdef1bf7c9e94e86db540a856e86ffcc31c77a88"), looks := false }, kinds := [], alts := [], laidByText := true, laidKinds := [.data], laidTests := true, laidLooks := .later }
def YardExactUptoCardSaid : Prop := Claim7.holds Tryz.pinned (.plain (OpenSpec.upto yardExactSpec)) yardExactUptoCard

/-- THE SECOND FORM's CARD OF 'humpyardlaw44.YardConserves'. -/
def yardConservesUptoCard : Claim7 := { stood := { row := yardConservesUptoRow, standIns := [], harness := (true, "06f3265f2d0e07f9e0e4b68bfdef1bf7c9e94e86db540a856e86ffcc31c77a88"), looks := false }, kinds := [], alts := [], laidByText := true, laidKinds := [.data], laidTests := true, laidLooks := .later }
def YardConservesUptoCardSaid : Prop := Claim7.holds Tryz.pinned (.plain (OpenSpec.upto yardConservesSpec)) yardConservesUptoCard

/-- THE SECOND FORM's CARD OF 'humpyardlaw44.YardShifts'. -/
def yardShiftsUptoCard : Claim7 := { stood := { row := yardShiftsUptoRow, standIns := [], harness := (true, "06f3265f2d0e07f9e0e4b68bfdef1bf7c9e94e86db540a856e86ffcc31c77a88"), looks := false }, kinds := [], alts := [], laidByText := true, laidKinds := [.data], laidTests := true, laidLooks := .later }
def YardShiftsUptoCardSaid : Prop := Claim7.holds Tryz.pinned (.plain (OpenSpec.upto yardShiftsSpec)) yardShiftsUptoCard

/-- THE SECOND FORM's CARD OF 'humpyardlaw44.YardProves'. -/
def yardProvesUptoCard : Claim7 := { stood := { row := yardProvesUptoRow, standIns := [], harness := (true, "06f3265f2d0e07f9e0e4b68bfdef1bf7c9e94e86db540a856e86ffcc31c77a88"), looks := false }, kinds := [], alts := [], laidByText := true, laidKinds := [.data], laidTests := true, laidLooks := .later }
def YardProvesUptoCardSaid : Prop := Claim7.holds Tryz.pinned (.plain (OpenSpec.upto yardProvesSpec)) yardProvesUptoCard

/-- THE SECOND FORM's CARD OF 'humpyardlaw44.YardOrders'. -/
def yardOrdersUptoCard : Claim7 := { stood := { row := yardOrdersUptoRow, standIns := [], harness := (true, "06f3265f2d0e07f9e0e4b68bfdef1bf7c9e94e86db540a856e86ffcc31c77a88"), looks := false }, kinds := [], alts := [], laidByText := true, laidKinds := [.data], laidTests := true, laidLooks := .later }
def YardOrdersUptoCardSaid : Prop := Claim7.holds Tryz.pinned (.plain (OpenSpec.upto yardOrdersSpec)) yardOrdersUptoCard

/-- THE SECOND FORM's CARD OF 'humpyardlaw44.YardFinishes'. -/
def yardFinishesUptoCard : Claim7 := { stood := { row := yardFinishesUptoRow, standIns := [], harness := (true, "06f3265f2d0e07f9e0e4b68bfdef1bf7c9e94e86db540a856e86ffcc31c77a88"), looks := false }, kinds := [], alts := [], laidByText := true, laidKinds := [.data], laidTests := true, laidLooks := .later }
def YardFinishesUptoCardSaid : Prop := Claim7.holds Tryz.pinned (.plain (OpenSpec.upto yardFinishesSpec)) yardFinishesUptoCard
end Rows
end Go.Proofs.YtekkhljfkiojiaaGreatDoor
