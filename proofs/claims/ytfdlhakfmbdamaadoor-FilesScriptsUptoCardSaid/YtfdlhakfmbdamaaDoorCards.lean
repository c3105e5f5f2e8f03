/-
  DERIVED. GIVEN WITH THE SEED: THE CARDS: each row of YtfdlhakfmbdamaaDoorRows.lean that lists a variable, with what it lists TIED to the program's text (the seventh form; the later family's looks); each row that meets fmt, with fmt's text TOLD by the authors' own Lean function (tested against real Go, not proved from fmt's source: count such statements apart). THE CARD IS WHAT COUNTS. Prove the row's statement (the work); the ties are given (YtfdlhakfmbdamaaDoorTie.lean); close each card by the builder's one call (the guide's Derived/Test/ToyasCard.lean, 'card_holds'). Laid BY PROGRAM, IN A SANDBOX (cutbox-door.mjs). By AI agents, Wed Nov 11 2026. No macro, syntax, notation, axiom, sorry.
-/
import Derived.Test.YtfdlhakfmbdamaaDoorRows
import GoSem.ClaimSeven
namespace Go.Proofs.YtfdlhakfmbdamaaDoor
namespace Rows

/-- THE TIED CARD OF 'loupelaw25.FilesKept'. -/
def filesKeptCard : Claim7 := { stood := { row := filesKeptRow, standIns := [], harness := (true, "899ad7259425a9bb349a189f15528b9a6d477ac7ca2080e64b50719b0a0f22df"), looks := true }, kinds := [], alts := [], laidByText := true, laidKinds := [.sentinel, .sentinel, .sentinel, .sentinel], laidTests := true, laidLooks := .later }
def FilesKeptCardSaid : Prop := Claim7.holds Tryd.pinned (.plain (OpenSpec.ofChange filesKeptSpec)) filesKeptCard

/-- THE TIED CARD OF 'loupelaw25.FilesScripts'. -/
def filesScriptsCard : Claim7 := { stood := { row := filesScriptsRow, standIns := [], harness := (true, "899ad7259425a9bb349a189f15528b9a6d477ac7ca2080e64b50719b0a0f22df"), looks := true }, kinds := [], alts := [], laidByText := true, laidKinds := [.sentinel, .sentinel, .sentinel, .sentinel], laidTests := true, laidLooks := .later }
def FilesScriptsCardSaid : Prop := Claim7.holds Tryd.pinned (.plain (OpenSpec.ofChange filesScriptsSpec)) filesScriptsCard

/-- THE TIED CARD OF 'loupelaw25.FilesNil'. -/
def filesNilCard : Claim7 := { stood := { row := filesNilRow, standIns := [], harness := (true, "899ad7259425a9bb349a189f15528b9a6d477ac7ca2080e64b50719b0a0f22df"), looks := true }, kinds := [], alts := [], laidByText := true, laidKinds := [.sentinel, .sentinel, .sentinel, .sentinel], laidTests := true, laidLooks := .later }
def FilesNilCardSaid : Prop := Claim7.holds Tryd.pinned (.plain (OpenSpec.ofChange filesNilSpec)) filesNilCard

/-- THE SECOND FORM's CARD OF 'loupelaw25.FilesKept'. -/
def filesKeptUptoCard : Claim7 := { stood := { row := filesKeptUptoRow, standIns := [], harness := (true, "899ad7259425a9bb349a189f15528b9a6d477ac7ca2080e64b50719b0a0f22df"), looks := true }, kinds := [], alts := [], laidByText := true, laidKinds := [.sentinel, .sentinel, .sentinel, .sentinel], laidTests := true, laidLooks := .later }
def FilesKeptUptoCardSaid : Prop := Claim7.holds Tryd.pinned (.plain (OpenSpec.upto filesKeptSpec)) filesKeptUptoCard

/-- THE SECOND FORM's CARD OF 'loupelaw25.FilesScripts'. -/
def filesScriptsUptoCard : Claim7 := { stood := { row := filesScriptsUptoRow, standIns := [], harness := (true, "899ad7259425a9bb349a189f15528b9a6d477ac7ca2080e64b50719b0a0f22df"), looks := true }, kinds := [], alts := [], laidByText := true, laidKinds := [.sentinel, .sentinel, .sentinel, .sentinel], laidTests := true, laidLooks := .later }
def FilesScriptsUptoCardSaid : Prop := Claim7.holds Tryd.pinned (.plain (OpenSpec.upto filesScriptsSpec)) filesScriptsUptoCard

/-- THE SECOND FORM's CARD OF 'loupelaw25.FilesNil'. -/
def filesNilUptoCard : Claim7 := { stood := { row := filesNilUptoRow, standIns := [], harness := (true, "899ad7259425a9bb349a189f15528b9a6d477ac7ca2080e64b50719b0a0f22df"), looks := true }, kinds := [], alts := [], laidByText := true, laidKinds := [.sentinel, .sentinel, .sentinel, .sentinel], laidTests := true, laidLooks := .later }
def FilesNilUptoCardSaid : Prop := Claim7.holds Tryd.pinned (.plain (OpenSpec.upto filesNilSpec)) filesNilUptoCard
end Rows
end Go.Proofs.YtfdlhakfmbdamaaDoor
