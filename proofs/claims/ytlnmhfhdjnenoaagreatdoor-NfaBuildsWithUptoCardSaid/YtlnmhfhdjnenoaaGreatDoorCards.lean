/-
  DERIVED. GIVEN WITH THE SEED: THE CARDS: each row of YtlnmhfhdjnenoaaGreatDoorRows.lean that lists a variable, with what it lists TIED to the program's text (the seventh form; the later family's looks); each row that meets fmt, with fmt's text TOLD by the authors' own Lean function (tested against real Go, not proved from fmt's source: count such statements apart). THE CARD IS WHAT COUNTS. Prove the row's statement (the work); the ties are given (YtlnmhfhdjnenoaaGreatDoorTie.lean); close each card by the builder's one call (the guide's Derived/Test/ToyasCard.lean, 'card_holds'). Laid BY PROGRAM, IN A SANDBOX (cutbox-door.mjs). By AI agents, Wed Nov 11 2026. No macro, syntax, notation, axiom, sorry.
-/
import Derived.Test.YtlnmhfhdjnenoaaGreatDoorRows
import GoSem.ClaimSeven
namespace Go.Proofs.YtlnmhfhdjnenoaaGreatDoor
namespace Rows

/-- THE TIED CARD OF 'loupelaw04.NfaBuilds'. -/
def nfaBuildsCard : Claim7 := { stood := { row := nfaBuildsRow, standIns := [], harness := (true, "e4d60de456ac12d413c542f4ef7a6ea65a2689b039623a5236afb3ec3afffd3d"), looks := true }, kinds := [], alts := [], laidByText := true, laidKinds := [.data], laidTests := true, laidLooks := .later }
def NfaBuildsCardSaid : Prop := Claim7.holds Tryz.pinned (.plain (OpenSpec.ofChange nfaBuildsSpec)) nfaBuildsCard

/-- THE TIED CARD OF 'loupelaw04.NfaMembers'. -/
def nfaMembersCard : Claim7 := { stood := { row := nfaMembersRow, standIns := [], harness := (true, "e4d60de456ac12d413c542f4ef7a6ea65a2689b039623a5236afb3ec3afffd3d"), looks := true }, kinds := [], alts := [], laidByText := true, laidKinds := [.data], laidTests := true, laidLooks := .later }
def NfaMembersCardSaid : Prop := Claim7.holds Tryz.pinned (.plain (OpenSpec.ofChange nfaMembersSpec)) nfaMembersCard

/-- THE TIED CARD OF 'loupelaw04.NfaBuildsWith'. -/
def nfaBuildsWithCard : Claim7 := { stood := { row := nfaBuildsWithRow, standIns := [], harness := (true, "e4d60de456ac12d413c542f4ef7a6ea65a2689b039623a5236afb3ec3afffd3d"), looks := true }, kinds := [], alts := [], laidByText := true, laidKinds := [.data], laidTests := true, laidLooks := .later }
def NfaBuildsWithCardSaid : Prop := Claim7.holds Tryz.pinned (.plain (OpenSpec.ofChange nfaBuildsWithSpec)) nfaBuildsWithCard

/-- THE SECOND FORM's CARD OF 'loupelaw04.NfaBuilds'. -/
def nfaBuildsUptoCard : Claim7 := { stood := { row := nfaBuildsUptoRow, standIns := [], harness := (true, "e4d60de456ac12d413c542f4ef7a6ea65a2689b039623a5236afb3ec3afffd3d"), looks := true }, kinds := [], alts := [], laidByText := true, laidKinds := [.data], laidTests := true, laidLooks := .later }
def NfaBuildsUptoCardSaid : Prop := Claim7.holds Tryz.pinned (.plain (OpenSpec.upto nfaBuildsSpec)) nfaBuildsUptoCard

/-- THE SECOND FORM's CARD OF 'loupelaw04.NfaMembers'. -/
def nfaMembersUptoCard : Claim7 := { stood := { row := nfaMembersUptoRow, standIns := [], harness := (true, "e4d60de456ac12d413c542f4ef7a6ea65a2689b039623a5236afb3ec3afffd3d"), looks := true }, kinds := [], alts := [], laidByText := true, laidKinds := [.data], laidTests := true, laidLooks := .later }
def NfaMembersUptoCardSaid : Prop := Claim7.holds Tryz.pinned (.plain (OpenSpec.upto nfaMembersSpec)) nfaMembersUptoCard

/-- THE SECOND FORM's CARD OF 'loupelaw04.NfaBuildsWith'. -/
def nfaBuildsWithUptoCard : Claim7 := { stood := { row := nfaBuildsWithUptoRow, standIns := [], harness := (true, "e4d60de456ac12d413c542f4ef7a6ea65a2689b039623a5236afb3ec3afffd3d"), looks := true }, kinds := [], alts := [], laidByText := true, laidKinds := [.data], laidTests := true, laidLooks := .later }
def NfaBuildsWithUptoCardSaid : Prop := Claim7.holds Tryz.pinned (.plain (OpenSpec.upto nfaBuildsWithSpec)) nfaBuildsWithUptoCard
end Rows
end Go.Proofs.YtlnmhfhdjnenoaaGreatDoor
