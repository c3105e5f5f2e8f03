/-
  DERIVED. GIVEN WITH THE SEED: THE CARDS: each row of YtjbnocjgdmnkoaaGreatDoorRows.lean that lists a variable, with what it lists TIED to the program's text (the seventh form; the later family's looks); each row that meets fmt, with fmt's text TOLD by the authors' own Lean function (tested against real Go, not proved from fmt's source: count such statements apart). THE CARD IS WHAT COUNTS. Prove the row's statement (the work); the ties are given (YtjbnocjgdmnkoaaGreatDoorTie.lean); close each card by the builder's one call (the guide's Derived/Test/ToyasCard.lean, 'card_holds'). Laid BY PROGRAM, IN A SANDBOX (cutbox-door.mjs). By AI agents, Wed Nov 11 2026. No macro, syntax, notation, axiom, sorry.
-/
import Derived.Test.YtjbnocjgdmnkoaaGreatDoorRows
import GoSem.ClaimSeven
namespace Go.Proofs.YtjbnocjgdmnkoaaGreatDoor
namespace Rows

/-- THE TIED CARD OF 'loupetop.TopBudgets'. -/
def topBudgetsCard : Claim7 := { stood := { row := topBudgetsRow, standIns := [], harness := (true, "044976a51d7640c2627636f18e759f355c6ae588fd047e3857d430b09d8a8d28"), looks := true }, kinds := [], alts := [], laidByText := true, laidKinds := [.data, .data, .data, .data, .data], laidTests := true, laidLooks := .later }
def TopBudgetsCardSaid : Prop := Claim7.holds Tryz.pinned (.plain (OpenSpec.ofChange topBudgetsSpec)) topBudgetsCard

/-- THE SECOND FORM's CARD OF 'loupetop.TopBudgets'. -/
def topBudgetsUptoCard : Claim7 := { stood := { row := topBudgetsUptoRow, standIns := [], harness := (true, "044976a51d7640c2627636f18e759f355c6ae588fd047e3857d430b09d8a8d28"), looks := true }, kinds := [], alts := [], laidByText := true, laidKinds := [.data, .data, .data, .data, .data], laidTests := true, laidLooks := .later }
def TopBudgetsUptoCardSaid : Prop := Claim7.holds Tryz.pinned (.plain (OpenSpec.upto topBudgetsSpec)) topBudgetsUptoCard
end Rows
end Go.Proofs.YtjbnocjgdmnkoaaGreatDoor
