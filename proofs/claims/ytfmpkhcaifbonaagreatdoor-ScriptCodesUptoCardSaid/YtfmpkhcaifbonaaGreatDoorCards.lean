/-
  DERIVED. GIVEN WITH THE SEED: THE CARDS: each row of YtfmpkhcaifbonaaGreatDoorRows.lean that lists a variable, with what it lists TIED to the program's text (the seventh form; the later family's looks); each row that meets fmt, with fmt's text TOLD by the authors' own Lean function (tested against real Go, not proved from fmt's source: count such statements apart). THE CARD IS WHAT COUNTS. Prove the row's statement (the work); the ties are given (YtfmpkhcaifbonaaGreatDoorTie.lean); close each card by the builder's one call (the guide's Derived/Test/ToyasCard.lean, 'card_holds'). Laid BY PROGRAM, IN A SANDBOX (cutbox-door.mjs). By AI agents, Wed Nov 11 2026. No macro, syntax, notation, axiom, sorry.
-/
import Derived.Test.YtfmpkhcaifbonaaGreatDoorRows
import GoSem.ClaimSeven
namespace Go.Proofs.YtfmpkhcaifbonaaGreatDoor
namespace Rows

/-- THE TIED CARD OF 'humpyardlaw46.ScriptCodes'. -/
def scriptCodesCard : Claim7 := { stood := { row := scriptCodesRow, standIns := [], harness := (true, "32b606005c15b5eda23fc237cdd7576c7188c999c88d25cf3439dc92e8f87739"), looks := false }, kinds := [], alts := [], laidByText := true, laidKinds := [.data], laidTests := true, laidLooks := .later }
def ScriptCodesCardSaid : Prop := Claim7.holds Tryz.pinned (.plain (OpenSpec.ofChange scriptCodesSpec)) scriptCodesCard

/-- THE TIED CARD OF 'humpyardlaw46.ScriptRoundTrips'. -/
def scriptRoundTripsCard : Claim7 := { stood := { row := scriptRoundTripsRow, standIns := [], harness := (true, "32b606005c15b5eda23fc237cdd7576c7188c999c88d25cf3439dc92e8f87739"), looks := false }, kinds := [], alts := [], laidByText := true, laidKinds := [.data], laidTests := true, laidLooks := .later }
def ScriptRoundTripsCardSaid : Prop := Claim7.holds Tryz.pinned (.plain (OpenSpec.ofChange scriptRoundTripsSpec)) scriptRoundTripsCard

/-- THE SECOND FORM's CARD OF 'humpyardlaw46.ScriptCodes'. -/
def scriptCodesUptoCard : Claim7 := { stood := { row := scriptCodesUptoRow, standIns := [], harness := (true, "32b606005c15b5eda23fc237cdd7576c7188c999c88d25cf3439dc92e8f87739"), looks := false }, kinds := [], alts := [], laidByText := true, laidKinds := [.data], laidTests := true, laidLooks := .later }
def ScriptCodesUptoCardSaid : Prop := Claim7.holds Tryz.pinned (.plain (OpenSpec.upto scriptCodesSpec)) scriptCodesUptoCard

/-- THE SECOND FORM's CARD OF 'humpyardlaw46.ScriptRoundTrips'. -/
def scriptRoundTripsUptoCard : Claim7 := { stood := { row := scriptRoundTripsUptoRow, standIns := [], harness := (true, "32b606005c15b5eda23fc237cdd7576c7188c999c88d25cf3439dc92e8f87739"), looks := false }, kinds := [], alts := [], laidByText := true, laidKinds := [.data], laidTests := true, laidLooks := .later }
def ScriptRoundTripsUptoCardSaid : Prop := Claim7.holds Tryz.pinned (.plain (OpenSpec.upto scriptRoundTripsSpec)) scriptRoundTripsUptoCard
end Rows
end Go.Proofs.YtfmpkhcaifbonaaGreatDoor
