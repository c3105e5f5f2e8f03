/-
  DERIVED. GIVEN WITH THE SEED: THE CARDS: each row of YthomdogheamfpaaDoorRows.lean that lists a variable, with what it lists TIED to the program's text (the seventh form; the later family's looks); each row that meets fmt, with fmt's text TOLD by the authors' own Lean function (tested against real Go, not proved from fmt's source: count such statements apart). THE CARD IS WHAT COUNTS. Prove the row's statement (the work); the ties are given (YthomdogheamfpaaDoorTie.lean); close each card by the builder's one call (the guide's Derived/Test/ToyasCard.lean, 'card_holds'). Laid BY PROGRAM, IN A SANDBOX (cutbox-door.mjs). By AI agents, Wed Nov 11 2026. No macro, syntax, notation, axiom, sorry.
-/
import Derived.Test.YthomdogheamfpaaDoorRows
import GoSem.ClaimSeven
namespace Go.Proofs.YthomdogheamfpaaDoor
namespace Rows

/-- THE TIED CARD OF 'loupelaw07.MinimCanons'. -/
def minimCanonsCard : Claim7 := { stood := { row := minimCanonsRow, standIns := [], harness := (true, "db150908616150832bdc993b645031155a16fd468e23a94263f63fe73c0e86e0"), looks := false }, kinds := [], alts := [], laidByText := true, laidKinds := [.data, .data, .data, .data], laidTests := true, laidLooks := .later }
def MinimCanonsCardSaid : Prop := Claim7.holds Tryd.pinned (.plain (OpenSpec.ofChange minimCanonsSpec)) minimCanonsCard

/-- THE TIED CARD OF 'loupelaw07.MinimTables'. -/
def minimTablesCard : Claim7 := { stood := { row := minimTablesRow, standIns := [], harness := (true, "db150908616150832bdc993b645031155a16fd468e23a94263f63fe73c0e86e0"), looks := false }, kinds := [], alts := [], laidByText := true, laidKinds := [.data, .data, .data, .data], laidTests := true, laidLooks := .later }
def MinimTablesCardSaid : Prop := Claim7.holds Tryd.pinned (.plain (OpenSpec.ofChange minimTablesSpec)) minimTablesCard

/-- THE TIED CARD OF 'loupelaw07.MinimOneTable'. -/
def minimOneTableCard : Claim7 := { stood := { row := minimOneTableRow, standIns := [], harness := (true, "db150908616150832bdc993b645031155a16fd468e23a94263f63fe73c0e86e0"), looks := false }, kinds := [], alts := [], laidByText := true, laidKinds := [.data, .data, .data, .data], laidTests := true, laidLooks := .later }
def MinimOneTableCardSaid : Prop := Claim7.holds Tryd.pinned (.plain (OpenSpec.ofChange minimOneTableSpec)) minimOneTableCard

/-- THE TIED CARD OF 'loupelaw07.MinimDiffers'. -/
def minimDiffersCard : Claim7 := { stood := { row := minimDiffersRow, standIns := [], harness := (true, "db150908616150832bdc993b645031155a16fd468e23a94263f63fe73c0e86e0"), looks := false }, kinds := [], alts := [], laidByText := true, laidKinds := [.data, .data, .data, .data], laidTests := true, laidLooks := .later }
def MinimDiffersCardSaid : Prop := Claim7.holds Tryd.pinned (.plain (OpenSpec.ofChange minimDiffersSpec)) minimDiffersCard

/-- THE TIED CARD OF 'loupelaw07.MinimWitness'. -/
def minimWitnessCard : Claim7 := { stood := { row := minimWitnessRow, standIns := [], harness := (true, "db150908616150832bdc993b645031155a16fd468e23a94263f63fe73c0e86e0"), looks := false }, kinds := [], alts := [], laidByText := true, laidKinds := [.data, .data, .data, .data], laidTests := true, laidLooks := .later }
def MinimWitnessCardSaid : Prop := Claim7.holds Tryd.pinned (.plain (OpenSpec.ofChange minimWitnessSpec)) minimWitnessCard

/-- THE TIED CARD OF 'loupelaw07.MinimLeast'. -/
def minimLeastCard : Claim7 := { stood := { row := minimLeastRow, standIns := [], harness := (true, "db150908616150832bdc993b645031155a16fd468e23a94263f63fe73c0e86e0"), looks := false }, kinds := [], alts := [], laidByText := true, laidKinds := [.data, .data, .data, .data], laidTests := true, laidLooks := .later }
def MinimLeastCardSaid : Prop := Claim7.holds Tryd.pinned (.plain (OpenSpec.ofChange minimLeastSpec)) minimLeastCard

/-- THE TIED CARD OF 'loupelaw05.DfaNets'. -/
def dfaNetsCard : Claim7 := { stood := { row := dfaNetsRow, standIns := [], harness := (true, "db150908616150832bdc993b645031155a16fd468e23a94263f63fe73c0e86e0"), looks := false }, kinds := [], alts := [], laidByText := true, laidKinds := [.data, .data, .data], laidTests := true, laidLooks := .later }
def DfaNetsCardSaid : Prop := Claim7.holds Tryd.pinned (.plain (OpenSpec.ofChange dfaNetsSpec)) dfaNetsCard

/-- THE TIED CARD OF 'loupelaw05.DfaBudgets'. -/
def dfaBudgetsCard : Claim7 := { stood := { row := dfaBudgetsRow, standIns := [], harness := (true, "db150908616150832bdc993b645031155a16fd468e23a94263f63fe73c0e86e0"), looks := false }, kinds := [], alts := [], laidByText := true, laidKinds := [.data, .data, .data], laidTests := true, laidLooks := .later }
def DfaBudgetsCardSaid : Prop := Claim7.holds Tryd.pinned (.plain (OpenSpec.ofChange dfaBudgetsSpec)) dfaBudgetsCard

/-- THE TIED CARD OF 'loupelaw05.DfaOrder'. -/
def dfaOrderCard : Claim7 := { stood := { row := dfaOrderRow, standIns := [], harness := (true, "db150908616150832bdc993b645031155a16fd468e23a94263f63fe73c0e86e0"), looks := false }, kinds := [], alts := [], laidByText := true, laidKinds := [.data, .data, .data], laidTests := true, laidLooks := .later }
def DfaOrderCardSaid : Prop := Claim7.holds Tryd.pinned (.plain (OpenSpec.ofChange dfaOrderSpec)) dfaOrderCard

/-- THE TIED CARD OF 'loupelaw05.DfaSets'. -/
def dfaSetsCard : Claim7 := { stood := { row := dfaSetsRow, standIns := [], harness := (true, "db150908616150832bdc993b645031155a16fd468e23a94263f63fe73c0e86e0"), looks := false }, kinds := [], alts := [], laidByText := true, laidKinds := [.data, .data, .data], laidTests := true, laidLooks := .later }
def DfaSetsCardSaid : Prop := Claim7.holds Tryd.pinned (.plain (OpenSpec.ofChange dfaSetsSpec)) dfaSetsCard

/-- THE SECOND FORM's CARD OF 'loupelaw07.MinimCanons'. -/
def minimCanonsUptoCard : Claim7 := { stood := { row := minimCanonsUptoRow, standIns := [], harness := (true, "db150908616150832bdc993b645031155a16fd468e23a94263f63fe73c0e86e0"), looks := false }, kinds := [], alts := [], laidByText := true, laidKinds := [.data, .data, .data, .data], laidTests := true, laidLooks := .later }
def MinimCanonsUptoCardSaid : Prop := Claim7.holds Tryd.pinned (.plain (OpenSpec.upto minimCanonsSpec)) minimCanonsUptoCard

/-- THE SECOND FORM's CARD OF 'loupelaw07.MinimTables'. -/
def minimTablesUptoCard : Claim7 := { stood := { row := minimTablesUptoRow, standIns := [], harness := (true, "db150908616150832bdc993b645031155a16fd468e23a94263f63fe73c0e86e0"), looks := false }, kinds := [], alts := [], laidByText := true, laidKinds := [.data, .data, .data, .data], laidTests := true, laidLooks := .later }
def MinimTablesUptoCardSaid : Prop := Claim7.holds Tryd.pinned (.plain (OpenSpec.upto minimTablesSpec)) minimTablesUptoCard

/-- THE SECOND FORM's CARD OF 'loupelaw07.MinimOneTable'. -/
def minimOneTableUptoCard : Claim7 := { stood := { row := minimOneTableUptoRow, standIns := [], harness := (true, "db150908616150832bdc993b645031155a16fd468e23a94263f63fe73c0e86e0"), looks := false }, kinds := [], alts := [], laidByText := true, laidKinds := [.data, .data, .data, .data], laidTests := true, laidLooks := .later }
def MinimOneTableUptoCardSaid : Prop := Claim7.holds Tryd.pinned (.plain (OpenSpec.upto minimOneTableSpec)) minimOneTableUptoCard

/-- THE SECOND FORM's CARD OF 'loupelaw07.MinimDiffers'. -/
def minimDiffersUptoCard : Claim7 := { stood := { row := minimDiffersUptoRow, standIns := [], harness := (true, "db150908616150832bdc993b645031155a16fd468e23a94263f63fe73c0e86e0"), looks := false }, kinds := [], alts := [], laidByText := true, laidKinds := [.data, .data, .data, .data], laidTests := true, laidLooks := .later }
def MinimDiffersUptoCardSaid : Prop := Claim7.holds Tryd.pinned (.plain (OpenSpec.upto minimDiffersSpec)) minimDiffersUptoCard

/-- THE SECOND FORM's CARD OF 'loupelaw07.MinimWitness'. -/
def minimWitnessUptoCard : Claim7 := { stood := { row := minimWitnessUptoRow, standIns := [], harness := (true, "db150908616150832bdc993b645031155a16fd468e23a94263f63fe73c0e86e0"), looks := false }, kinds := [], alts := [], laidByText := true, laidKinds := [.data, .data, .data, .data], laidTests := true, laidLooks := .later }
def MinimWitnessUptoCardSaid : Prop := Claim7.holds Tryd.pinned (.plain (OpenSpec.upto minimWitnessSpec)) minimWitnessUptoCard

/-- THE SECOND FORM's CARD OF 'loupelaw07.MinimLeast'. -/
def minimLeastUptoCard : Claim7 := { stood := { row := minimLeastUptoRow, standIns := [], harness := (true, "db150908616150832bdc993b645031155a16fd468e23a94263f63fe73c0e86e0"), looks := false }, kinds := [], alts := [], laidByText := true, laidKinds := [.data, .data, .data, .data], laidTests := true, laidLooks := .later }
def MinimLeastUptoCardSaid : Prop := Claim7.holds Tryd.pinned (.plain (OpenSpec.upto minimLeastSpec)) minimLeastUptoCard

/-- THE SECOND FORM's CARD OF 'loupelaw05.DfaNets'. -/
def dfaNetsUptoCard : Claim7 := { stood := { row := dfaNetsUptoRow, standIns := [], harness := (true, "db150908616150832bdc993b645031155a16fd468e23a94263f63fe73c0e86e0"), looks := false }, kinds := [], alts := [], laidByText := true, laidKinds := [.data, .data, .data], laidTests := true, laidLooks := .later }
def DfaNetsUptoCardSaid : Prop := Claim7.holds Tryd.pinned (.plain (OpenSpec.upto dfaNetsSpec)) dfaNetsUptoCard

/-- THE SECOND FORM's CARD OF 'loupelaw05.DfaBudgets'. -/
def dfaBudgetsUptoCard : Claim7 := { stood := { row := dfaBudgetsUptoRow, standIns := [], harness := (true, "db150908616150832bdc993b645031155a16fd468e23a94263f63fe73c0e86e0"), looks := false }, kinds := [], alts := [], laidByText := true, laidKinds := [.data, .data, .data], laidTests := true, laidLooks := .later }
def DfaBudgetsUptoCardSaid : Prop := Claim7.holds Tryd.pinned (.plain (OpenSpec.upto dfaBudgetsSpec)) dfaBudgetsUptoCard

/-- THE SECOND FORM's CARD OF 'loupelaw05.DfaOrder'. -/
def dfaOrderUptoCard : Claim7 := { stood := { row := dfaOrderUptoRow, standIns := [], harness := (true, "db150908616150832bdc993b645031155a16fd468e23a94263f63fe73c0e86e0"), looks := false }, kinds := [], alts := [], laidByText := true, laidKinds := [.data, .data, .data], laidTests := true, laidLooks := .later }
def DfaOrderUptoCardSaid : Prop := Claim7.holds Tryd.pinned (.plain (OpenSpec.upto dfaOrderSpec)) dfaOrderUptoCard

/-- THE SECOND FORM's CARD OF 'loupelaw05.DfaSets'. -/
def dfaSetsUptoCard : Claim7 := { stood := { row := dfaSetsUptoRow, standIns := [], harness := (true, "db150908616150832bdc993b645031155a16fd468e23a94263f63fe73c0e86e0"), looks := false }, kinds := [], alts := [], laidByText := true, laidKinds := [.data, .data, .data], laidTests := true, laidLooks := .later }
def DfaSetsUptoCardSaid : Prop := Claim7.holds Tryd.pinned (.plain (OpenSpec.upto dfaSetsSpec)) dfaSetsUptoCard
end Rows
end Go.Proofs.YthomdogheamfpaaDoor
