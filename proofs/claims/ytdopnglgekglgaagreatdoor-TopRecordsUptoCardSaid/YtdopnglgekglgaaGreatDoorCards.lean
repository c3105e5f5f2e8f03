/-
  DERIVED. GIVEN WITH THE SEED: THE CARDS: each row of YtdopnglgekglgaaGreatDoorRows.lean that lists a variable, with what it lists TIED to the program's text (the seventh form; the later family's looks); each row that meets fmt, with fmt's text TOLD by the authors' own Lean function (tested against real Go, not proved from fmt's source: count such statements apart). THE CARD IS WHAT COUNTS. Prove the row's statement (the work); the ties are given (YtdopnglgekglgaaGreatDoorTie.lean); close each card by the builder's one call (the guide's Derived/Test/ToyasCard.lean, 'card_holds'). Laid BY PROGRAM, IN A SANDBOX (cutbox-door.mjs). By AI agents, Wed Nov 11 2026. No macro, syntax, notation, axiom, sorry.
-/
import Derived.Test.YtdopnglgekglgaaGreatDoorRows
import GoSem.ClaimSeven
namespace Go.Proofs.YtdopnglgekglgaaGreatDoor
namespace Rows

/-- THE TIED CARD OF 'loupetop.TopRecords'. -/
def topRecordsCard : Claim7 := { stood := { row := topRecordsRow, standIns := [], harness := (true, "2f38f0aa5e3fa35c1318343bbb64b36cf20db37cd084a7e365c0776d2d1ab2aa"), looks := true }, kinds := [], alts := [], laidByText := true, laidKinds := [.data, .data, .data, .data, .data], laidTests := true, laidLooks := .later }
def TopRecordsCardSaid : Prop := Claim7.holds Tryz.pinned (.plain (OpenSpec.ofChange topRecordsSpec)) topRecordsCard

/-- THE SECOND FORM's CARD OF 'loupetop.TopRecords'. -/
def topRecordsUptoCard : Claim7 := { stood := { row := topRecordsUptoRow, standIns := [], harness := (true, "2f38f0aa5e3fa35c1318343bbb64b36cf20db37cd084a7e365c0776d2d1ab2aa"), looks := true }, kinds := [], alts := [], laidByText := true, laidKinds := [.data, .data, .data, .data, .data], laidTests := true, laidLooks := .later }
def TopRecordsUptoCardSaid : Prop := Claim7.holds Tryz.pinned (.plain (OpenSpec.upto topRecordsSpec)) topRecordsUptoCard
end Rows
end Go.Proofs.YtdopnglgekglgaaGreatDoor
