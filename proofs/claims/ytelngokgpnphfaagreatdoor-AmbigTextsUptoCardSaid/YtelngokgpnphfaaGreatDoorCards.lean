/-
  DERIVED. GIVEN WITH THE SEED: THE CARDS: each row of YtelngokgpnphfaaGreatDoorRows.lean that lists a variable, with what it lists TIED to the program's text (the seventh form; the later family's looks); each row that meets fmt, with fmt's text TOLD by the authors' own Lean function (tested against real Go, not proved from fmt's source: count such statements apart). THE CARD IS WHAT COUNTS. Prove the row's statement (the work); the ties are given (YtelngokgpnphfaaGreatDoorTie.lean); close each card by the builder's one call (the guide's Derived/Test/ToyasCard.lean, 'card_holds'). Laid BY PROGRAM, IN A SANDBOX (cutbox-door.mjs). By AI agents, Wed Nov 11 2026. No macro, syntax, notation, axiom, sorry.
-/
import Derived.Test.YtelngokgpnphfaaGreatDoorRows
import GoSem.ClaimSeven
namespace Go.Proofs.YtelngokgpnphfaaGreatDoor
namespace Rows

/-- THE TIED CARD OF 'loupelaw09.AmbigTexts'. -/
def ambigTextsCard : Claim7 := { stood := { row := ambigTextsRow, standIns := [], harness := (true, "6e5f857c256ccbc50da1962a8c40c9e2d7ff806612c6c6928e9928fddfa35172"), looks := true }, kinds := [], alts := [], laidByText := true, laidKinds := [.data, .data, .data, .data], laidTests := true, laidLooks := .later }
def AmbigTextsCardSaid : Prop := Claim7.holds Tryz.pinned (.plain (OpenSpec.ofChange ambigTextsSpec)) ambigTextsCard

/-- THE SECOND FORM's CARD OF 'loupelaw09.AmbigTexts'. -/
def ambigTextsUptoCard : Claim7 := { stood := { row := ambigTextsUptoRow, standIns := [], harness := (true, "6e5f857c256ccbc50da1962a8c40c9e2d7ff806612c6c6928e9928fddfa35172"), looks := true }, kinds := [], alts := [], laidByText := true, laidKinds := [.data, .data, .data, .data], laidTests := true, laidLooks := .later }
def AmbigTextsUptoCardSaid : Prop := Claim7.holds Tryz.pinned (.plain (OpenSpec.upto ambigTextsSpec)) ambigTextsUptoCard
end Rows
end Go.Proofs.YtelngokgpnphfaaGreatDoor
