/-
  DERIVED. GIVEN WITH THE SEED: THE CARDS: each row of YtfbghcpdinlmcaaGreatDoorRows.lean that lists a variable, with what it lists TIED to the program's text (the seventh form; the later family's looks); each row that meets fmt, with fmt's text TOLD by the authors' own Lean function (tested against real Go, not proved from fmt's source: count such statements apart). THE CARD IS WHAT COUNTS. Prove the row's statement (the work); the ties are given (YtfbghcpdinlmcaaGreatDoorTie.lean); close each card by the builder's one call (the guide's Derived/Test/ToyasCard.lean, 'card_holds'). Laid BY PROGRAM, IN A SANDBOX (cutbox-door.mjs). By AI agents, Wed Nov 11 2026. No macro, syntax, notation, axiom, sorry.
-/
import Derived.Test.YtfbghcpdinlmcaaGreatDoorRows
import GoSem.ClaimSeven
namespace Go.Proofs.YtfbghcpdinlmcaaGreatDoor
namespace Rows

/-- THE TIED CARD OF 'loupelaw06.LangLarge'. -/
def langLargeCard : Claim7 := { stood := { row := langLargeRow, standIns := [], harness := (true, "602d60f8314838900a71381bda402f3f71ad96d5ef436518d7cf9a2b7594a141"), looks := true }, kinds := [], alts := [], laidByText := true, laidKinds := [.data, .data, .data], laidTests := true, laidLooks := .later }
def LangLargeCardSaid : Prop := Claim7.holds Tryz.pinned (.plain (OpenSpec.ofChange langLargeSpec)) langLargeCard

/-- THE TIED CARD OF 'loupelaw06.LangProducts'. -/
def langProductsCard : Claim7 := { stood := { row := langProductsRow, standIns := [], harness := (true, "602d60f8314838900a71381bda402f3f71ad96d5ef436518d7cf9a2b7594a141"), looks := true }, kinds := [], alts := [], laidByText := true, laidKinds := [.data, .data, .data], laidTests := true, laidLooks := .later }
def LangProductsCardSaid : Prop := Claim7.holds Tryz.pinned (.plain (OpenSpec.ofChange langProductsSpec)) langProductsCard

/-- THE TIED CARD OF 'loupelaw06.LangAlgebra'. -/
def langAlgebraCard : Claim7 := { stood := { row := langAlgebraRow, standIns := [], harness := (true, "602d60f8314838900a71381bda402f3f71ad96d5ef436518d7cf9a2b7594a141"), looks := true }, kinds := [], alts := [], laidByText := true, laidKinds := [.data, .data, .data], laidTests := true, laidLooks := .later }
def LangAlgebraCardSaid : Prop := Claim7.holds Tryz.pinned (.plain (OpenSpec.ofChange langAlgebraSpec)) langAlgebraCard

/-- THE TIED CARD OF 'loupelaw06.LangDeMorgan'. -/
def langDeMorganCard : Claim7 := { stood := { row := langDeMorganRow, standIns := [], harness := (true, "602d60f8314838900a71381bda402f3f71ad96d5ef436518d7cf9a2b7594a141"), looks := true }, kinds := [], alts := [], laidByText := true, laidKinds := [.data, .data, .data], laidTests := true, laidLooks := .later }
def LangDeMorganCardSaid : Prop := Claim7.holds Tryz.pinned (.plain (OpenSpec.ofChange langDeMorganSpec)) langDeMorganCard

/-- THE TIED CARD OF 'loupelaw06.LangLeast'. -/
def langLeastCard : Claim7 := { stood := { row := langLeastRow, standIns := [], harness := (true, "602d60f8314838900a71381bda402f3f71ad96d5ef436518d7cf9a2b7594a141"), looks := true }, kinds := [], alts := [], laidByText := true, laidKinds := [.data, .data, .data, .data], laidTests := true, laidLooks := .later }
def LangLeastCardSaid : Prop := Claim7.holds Tryz.pinned (.plain (OpenSpec.ofChange langLeastSpec)) langLeastCard

/-- THE TIED CARD OF 'loupelaw06.LangSigns'. -/
def langSignsCard : Claim7 := { stood := { row := langSignsRow, standIns := [], harness := (true, "602d60f8314838900a71381bda402f3f71ad96d5ef436518d7cf9a2b7594a141"), looks := true }, kinds := [], alts := [], laidByText := true, laidKinds := [.data, .data, .data, .data], laidTests := true, laidLooks := .later }
def LangSignsCardSaid : Prop := Claim7.holds Tryz.pinned (.plain (OpenSpec.ofChange langSignsSpec)) langSignsCard

/-- THE TIED CARD OF 'loupelaw05.DfaDeterminizes'. -/
def dfaDeterminizesCard : Claim7 := { stood := { row := dfaDeterminizesRow, standIns := [], harness := (true, "602d60f8314838900a71381bda402f3f71ad96d5ef436518d7cf9a2b7594a141"), looks := true }, kinds := [], alts := [], laidByText := true, laidKinds := [.data, .data, .data, .data], laidTests := true, laidLooks := .later }
def DfaDeterminizesCardSaid : Prop := Claim7.holds Tryz.pinned (.plain (OpenSpec.ofChange dfaDeterminizesSpec)) dfaDeterminizesCard

/-- THE TIED CARD OF 'loupelaw05.DfaMembers'. -/
def dfaMembersCard : Claim7 := { stood := { row := dfaMembersRow, standIns := [], harness := (true, "602d60f8314838900a71381bda402f3f71ad96d5ef436518d7cf9a2b7594a141"), looks := true }, kinds := [], alts := [], laidByText := true, laidKinds := [.data, .data, .data, .data], laidTests := true, laidLooks := .later }
def DfaMembersCardSaid : Prop := Claim7.holds Tryz.pinned (.plain (OpenSpec.ofChange dfaMembersSpec)) dfaMembersCard

/-- THE TIED CARD OF 'loupelaw09.AmbigTexts'. -/
def ambigTextsCard : Claim7 := { stood := { row := ambigTextsRow, standIns := [], harness := (true, "602d60f8314838900a71381bda402f3f71ad96d5ef436518d7cf9a2b7594a141"), looks := true }, kinds := [], alts := [], laidByText := true, laidKinds := [.data, .data, .data, .data], laidTests := true, laidLooks := .later }
def AmbigTextsCardSaid : Prop := Claim7.holds Tryz.pinned (.plain (OpenSpec.ofChange ambigTextsSpec)) ambigTextsCard

/-- THE TIED CARD OF 'loupelaw07.MinimTexts'. -/
def minimTextsCard : Claim7 := { stood := { row := minimTextsRow, standIns := [], harness := (true, "602d60f8314838900a71381bda402f3f71ad96d5ef436518d7cf9a2b7594a141"), looks := true }, kinds := [], alts := [], laidByText := true, laidKinds := [.data, .data, .data, .data], laidTests := true, laidLooks := .later }
def MinimTextsCardSaid : Prop := Claim7.holds Tryz.pinned (.plain (OpenSpec.ofChange minimTextsSpec)) minimTextsCard

/-- THE SECOND FORM's CARD OF 'loupelaw06.LangLarge'. -/
def langLargeUptoCard : Claim7 := { stood := { row := langLargeUptoRow, standIns := [], harness := (true, "602d60f8314838900a71381bda402f3f71ad96d5ef436518d7cf9a2b7594a141"), looks := true }, kinds := [], alts := [], laidByText := true, laidKinds := [.data, .data, .data], laidTests := true, laidLooks := .later }
def LangLargeUptoCardSaid : Prop := Claim7.holds Tryz.pinned (.plain (OpenSpec.upto langLargeSpec)) langLargeUptoCard

/-- THE SECOND FORM's CARD OF 'loupelaw06.LangProducts'. -/
def langProductsUptoCard : Claim7 := { stood := { row := langProductsUptoRow, standIns := [], harness := (true, "602d60f8314838900a71381bda402f3f71ad96d5ef436518d7cf9a2b7594a141"), looks := true }, kinds := [], alts := [], laidByText := true, laidKinds := [.data, .data, .data], laidTests := true, laidLooks := .later }
def LangProductsUptoCardSaid : Prop := Claim7.holds Tryz.pinned (.plain (OpenSpec.upto langProductsSpec)) langProductsUptoCard

/-- THE SECOND FORM's CARD OF 'loupelaw06.LangAlgebra'. -/
def langAlgebraUptoCard : Claim7 := { stood := { row := langAlgebraUptoRow, standIns := [], harness := (true, "602d60f8314838900a71381bda402f3f71ad96d5ef436518d7cf9a2b7594a141"), looks := true }, kinds := [], alts := [], laidByText := true, laidKinds := [.data, .data, .data], laidTests := true, laidLooks := .later }
def LangAlgebraUptoCardSaid : Prop := Claim7.holds Tryz.pinned (.plain (OpenSpec.upto langAlgebraSpec)) langAlgebraUptoCard

/-- THE SECOND FORM's CARD OF 'loupelaw06.LangDeMorgan'. -/
def langDeMorganUptoCard : Claim7 := { stood := { row := langDeMorganUptoRow, standIns := [], harness := (true, "602d60f8314838900a71381bda402f3f71ad96d5ef436518d7cf9a2b7594a141"), looks := true }, kinds := [], alts := [], laidByText := true, laidKinds := [.data, .data, .data], laidTests := true, laidLooks := .later }
def LangDeMorganUptoCardSaid : Prop := Claim7.holds Tryz.pinned (.plain (OpenSpec.upto langDeMorganSpec)) langDeMorganUptoCard

/-- THE SECOND FORM's CARD OF 'loupelaw06.LangLeast'. -/
def langLeastUptoCard : Claim7 := { stood := { row := langLeastUptoRow, standIns := [], harness := (true, "602d60f8314838900a71381bda402f3f71ad96d5ef436518d7cf9a2b7594a141"), looks := true }, kinds := [], alts := [], laidByText := true, laidKinds := [.data, .data, .data, .data], laidTests := true, laidLooks := .later }
def LangLeastUptoCardSaid : Prop := Claim7.holds Tryz.pinned (.plain (OpenSpec.upto langLeastSpec)) langLeastUptoCard

/-- THE SECOND FORM's CARD OF 'loupelaw06.LangSigns'. -/
def langSignsUptoCard : Claim7 := { stood := { row := langSignsUptoRow, standIns := [], harness := (true, "602d60f8314838900a71381bda402f3f71ad96d5ef436518d7cf9a2b7594a141"), looks := true }, kinds := [], alts := [], laidByText := true, laidKinds := [.data, .data, .data, .data], laidTests := true, laidLooks := .later }
def LangSignsUptoCardSaid : Prop := Claim7.holds Tryz.pinned (.plain (OpenSpec.upto langSignsSpec)) langSignsUptoCard

/-- THE SECOND FORM's CARD OF 'loupelaw05.DfaDeterminizes'. -/
def dfaDeterminizesUptoCard : Claim7 := { stood := { row := dfaDeterminizesUptoRow, standIns := [], harness := (true, "602d60f8314838900a71381bda402f3f71ad96d5ef436518d7cf9a2b7594a141"), looks := true }, kinds := [], alts := [], laidByText := true, laidKinds := [.data, .data, .data, .data], laidTests := true, laidLooks := .later }
def DfaDeterminizesUptoCardSaid : Prop := Claim7.holds Tryz.pinned (.plain (OpenSpec.upto dfaDeterminizesSpec)) dfaDeterminizesUptoCard

/-- THE SECOND FORM's CARD OF 'loupelaw05.DfaMembers'. -/
def dfaMembersUptoCard : Claim7 := { stood := { row := dfaMembersUptoRow, standIns := [], harness := (true, "602d60f8314838900a71381bda402f3f71ad96d5ef436518d7cf9a2b7594a141"), looks := true }, kinds := [], alts := [], laidByText := true, laidKinds := [.data, .data, .data, .data], laidTests := true, laidLooks := .later }
def DfaMembersUptoCardSaid : Prop := Claim7.holds Tryz.pinned (.plain (OpenSpec.upto dfaMembersSpec)) dfaMembersUptoCard

/-- THE SECOND FORM's CARD OF 'loupelaw09.AmbigTexts'. -/
def ambigTextsUptoCard : Claim7 := { stood := { row := ambigTextsUptoRow, standIns := [], harness := (true, "602d60f8314838900a71381bda402f3f71ad96d5ef436518d7cf9a2b7594a141"), looks := true }, kinds := [], alts := [], laidByText := true, laidKinds := [.data, .data, .data, .data], laidTests := true, laidLooks := .later }
def AmbigTextsUptoCardSaid : Prop := Claim7.holds Tryz.pinned (.plain (OpenSpec.upto ambigTextsSpec)) ambigTextsUptoCard

/-- THE SECOND FORM's CARD OF 'loupelaw07.MinimTexts'. -/
def minimTextsUptoCard : Claim7 := { stood := { row := minimTextsUptoRow, standIns := [], harness := (true, "602d60f8314838900a71381bda402f3f71ad96d5ef436518d7cf9a2b7594a141"), looks := true }, kinds := [], alts := [], laidByText := true, laidKinds := [.data, .data, .data, .data], laidTests := true, laidLooks := .later }
def MinimTextsUptoCardSaid : Prop := Claim7.holds Tryz.pinned (.plain (OpenSpec.upto minimTextsSpec)) minimTextsUptoCard
end Rows
end Go.Proofs.YtfbghcpdinlmcaaGreatDoor
