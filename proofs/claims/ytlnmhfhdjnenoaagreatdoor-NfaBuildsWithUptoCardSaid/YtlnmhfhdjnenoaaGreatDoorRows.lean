/-
  NARROWER THAN 'FOR EVERY INPUT', by the rows' own cells (each row's printed sentence says how): NfaBuilds: laid · NfaMembers: laid · NfaBuildsWith: laid.
  DERIVED. THE GIVEN ROWS OF THIS SEAT. 3 by the template 'for every input the law returns true; each argument reads behind the call as it read before'; 0 by the template 'total and deterministic' (their statements: YtlnmhfhdjnenoaaGreatDoorTotals.lean).
  GIVEN WITH THE SEED: the statements are not yours to turn. If you find one false, say at which input.
  Laid BY PROGRAM, IN A SANDBOX (cutbox-rows.mjs): the forced cells as the released guide's own fill.sh prints them over the translation d9d0bb403bffa28a… (all of the seat's roots in one cut). By AI agents, Wed Nov 11 2026. No macro, syntax, notation, axiom, sorry.
-/
import Derived.Test.YtlnmhfhdjnenoaaGreatDoorChecked
import GoSem.Claim
import GoSem.ClaimJoined
import GoSem.ClaimMapViews
import Derived.JoinedTies
import Derived.KernelRfl
namespace Go.Proofs.YtlnmhfhdjnenoaaGreatDoor
/- THE CELL 'sum', in the pinned program and in every row, IS THE sha256 OF THE DUMP (.gsa) THAT YtlnmhfhdjnenoaaGreatDoorProg.lean LOADS. Nothing in Lean hashes anything: it is a label: what it is worth is what the hold of that sum in a sandbox is worth. -/
noncomputable def Tryz.pinned : Pinned := { name := "ytlnmhfhdjnenoaagreatdoor", sum := "d9d0bb403bffa28a075627302df1b8539f6bfb59b3717f4fc97288994fd34eb5", checked := Tryz.checked }
namespace Rows
def none {H : Type} : Left H := { results := [], args := [] }

/- WHAT THE LISTED PACKAGE-LEVEL VARIABLES READ AS WHEN THE CALL BEGINS. Each datum BY PROGRAM (the guide's laid-datum.mjs) off the statement by which the dump's own 'gosem.cut.vars' lays the variable. In a bare row this is a premise. The card (YtlnmhfhdjnenoaaGreatDoorCards.lean) ties it to the program's text. -/
def laid_loupe_class_escapes {H : Type} : DataW H := .agg [.agg [.lit (.int .u8 110), .lit (.int .u8 10)], .agg [.lit (.int .u8 114), .lit (.int .u8 13)], .agg [.lit (.int .u8 116), .lit (.int .u8 9)]]

/-- 'loupelaw04.NfaBuilds': WHATEVER THE INPUT: true; the input reads as it did. -/
def nfaBuildsSpec : ChangeSpec := { name := "nfaBuilds", fn := fun _ => fun
  | [d] => { results := [.lit (.bool true)], args := [d] }
  | _ => none }
def nfaBuildsRow : OpenClaim := { program := "ytlnmhfhdjnenoaagreatdoor", sum := "d9d0bb403bffa28a075627302df1b8539f6bfb59b3717f4fc97288994fd34eb5", func := "loupe/loupelaw04.NfaBuilds", spec := "nfaBuilds", inPlace := ["internal/bytealg.IndexByteString"], unfollowed := true, recurses := true, named := ["loupe/class.escapes"], apart := false, laid := [("loupe/class.escapes", laid_loupe_class_escapes)] }
def NfaBuildsSaid : Prop := nfaBuildsRow.holds Tryz.pinned (OpenSpec.ofChange nfaBuildsSpec)

/-- ITS FALSE NEIGHBOUR: 'it returns false'. Refute it at one input. -/
def nfaBuildsWrong : ChangeSpec := { name := "nfaBuilds", fn := fun _ => fun
  | [d] => { results := [.lit (.bool false)], args := [d] }
  | _ => none }
def NfaBuildsWrongFalsely : Prop := nfaBuildsRow.holds Tryz.pinned (OpenSpec.ofChange nfaBuildsWrong)

/-- 'loupelaw04.NfaMembers': WHATEVER THE INPUT: true; the input reads as it did. -/
def nfaMembersSpec : ChangeSpec := { name := "nfaMembers", fn := fun _ => fun
  | [d1, d2] => { results := [.lit (.bool true)], args := [d1, d2] }
  | _ => none }
def nfaMembersRow : OpenClaim := { program := "ytlnmhfhdjnenoaagreatdoor", sum := "d9d0bb403bffa28a075627302df1b8539f6bfb59b3717f4fc97288994fd34eb5", func := "loupe/loupelaw04.NfaMembers", spec := "nfaMembers", inPlace := ["internal/bytealg.IndexByteString"], unfollowed := true, recurses := true, named := ["loupe/class.escapes"], apart := false, laid := [("loupe/class.escapes", laid_loupe_class_escapes)] }
def NfaMembersSaid : Prop := nfaMembersRow.holds Tryz.pinned (OpenSpec.ofChange nfaMembersSpec)

/-- ITS FALSE NEIGHBOUR: 'it returns false'. Refute it at one input. -/
def nfaMembersWrong : ChangeSpec := { name := "nfaMembers", fn := fun _ => fun
  | [d1, d2] => { results := [.lit (.bool false)], args := [d1, d2] }
  | _ => none }
def NfaMembersWrongFalsely : Prop := nfaMembersRow.holds Tryz.pinned (OpenSpec.ofChange nfaMembersWrong)

/-- 'loupelaw04.NfaBuildsWith': WHATEVER THE INPUT: true; the input reads as it did. -/
def nfaBuildsWithSpec : ChangeSpec := { name := "nfaBuildsWith", fn := fun _ => fun
  | [d1, d2, d3] => { results := [.lit (.bool true)], args := [d1, d2, d3] }
  | _ => none }
def nfaBuildsWithRow : OpenClaim := { program := "ytlnmhfhdjnenoaagreatdoor", sum := "d9d0bb403bffa28a075627302df1b8539f6bfb59b3717f4fc97288994fd34eb5", func := "loupe/loupelaw04.NfaBuildsWith", spec := "nfaBuildsWith", inPlace := ["internal/bytealg.IndexByteString"], unfollowed := true, recurses := true, named := ["loupe/class.escapes"], apart := false, laid := [("loupe/class.escapes", laid_loupe_class_escapes)] }
def NfaBuildsWithSaid : Prop := nfaBuildsWithRow.holds Tryz.pinned (OpenSpec.ofChange nfaBuildsWithSpec)

/-- ITS FALSE NEIGHBOUR: 'it returns false'. Refute it at one input. -/
def nfaBuildsWithWrong : ChangeSpec := { name := "nfaBuildsWith", fn := fun _ => fun
  | [d1, d2, d3] => { results := [.lit (.bool false)], args := [d1, d2, d3] }
  | _ => none }
def NfaBuildsWithWrongFalsely : Prop := nfaBuildsWithRow.holds Tryz.pinned (OpenSpec.ofChange nfaBuildsWithWrong)

/- THE SECOND FORM. 'bulk': how many values and letters a reading holds, each counted each time it is reached (what is shared counts as often as it is met; a slice's spare places count too). A statement '..UptoSaid' is the law's where the arguments, and the package variables that the reading takes, are together of bulk at most 1048576: NARROWER than '..Said'. Prove '..Said' where nothing that the law and all that it calls make is longer than what came in: it says more and counts as full. Else prove '..UptoSaid'. A law counts once. -/
mutual
def uptoBulk {H : Type} : DataW H → Nat
  | .lit (.string bytes) => bytes.length + 1
  | .lit _ => 1
  | .nil => 1
  | .ptr d => uptoBulk d + 1
  | .slice elems spare => uptoBulkAll elems + uptoBulkAll spare + 1
  | .agg parts => uptoBulkAll parts + 1
  | .iface _ d => uptoBulk d + 1
  | .map entries => uptoBulkEntries entries + 1
  | .held _ => 1
def uptoBulkAll {H : Type} : List (DataW H) → Nat
  | [] => 0
  | d :: r => uptoBulk d + uptoBulkAll r
def uptoBulkEntries {H : Type} : List (Lit × DataW H) → Nat
  | [] => 0
  | x :: r => uptoBulkEntry x + uptoBulkEntries r
def uptoBulkEntry {H : Type} : Lit × DataW H → Nat
  | (.string bytes, d) => bytes.length + uptoBulk d + 1
  | (_, d) => uptoBulk d + 1
 end
def uptoSmall : (H : Type) → List (DataW H) → Bool := fun _ ds => decide (uptoBulkAll ds ≤ 1048576)
def OpenSpec.upto (s : _root_.Go.ChangeSpec) : _root_.Go.OpenSpec := { _root_.Go.OpenSpec.ofChange s with cond := some uptoSmall }

/-- 'loupelaw04.NfaBuilds', WHERE WHAT IT READS IS OF BULK AT MOST 1048576: true; the input reads as it did. -/
def nfaBuildsUptoRow : OpenClaim := { program := "ytlnmhfhdjnenoaagreatdoor", sum := "d9d0bb403bffa28a075627302df1b8539f6bfb59b3717f4fc97288994fd34eb5", func := "loupe/loupelaw04.NfaBuilds", spec := "nfaBuilds", inPlace := ["internal/bytealg.IndexByteString"], unfollowed := true, recurses := true, named := ["loupe/class.escapes"], apart := false, laid := [("loupe/class.escapes", laid_loupe_class_escapes)], narrowed := true }
def NfaBuildsUptoSaid : Prop := nfaBuildsUptoRow.holds Tryz.pinned (OpenSpec.upto nfaBuildsSpec)

/-- 'loupelaw04.NfaMembers', WHERE WHAT IT READS IS OF BULK AT MOST 1048576: true; the input reads as it did. -/
def nfaMembersUptoRow : OpenClaim := { program := "ytlnmhfhdjnenoaagreatdoor", sum := "d9d0bb403bffa28a075627302df1b8539f6bfb59b3717f4fc97288994fd34eb5", func := "loupe/loupelaw04.NfaMembers", spec := "nfaMembers", inPlace := ["internal/bytealg.IndexByteString"], unfollowed := true, recurses := true, named := ["loupe/class.escapes"], apart := false, laid := [("loupe/class.escapes", laid_loupe_class_escapes)], narrowed := true }
def NfaMembersUptoSaid : Prop := nfaMembersUptoRow.holds Tryz.pinned (OpenSpec.upto nfaMembersSpec)

/-- 'loupelaw04.NfaBuildsWith', WHERE WHAT IT READS IS OF BULK AT MOST 1048576: true; the input reads as it did. -/
def nfaBuildsWithUptoRow : OpenClaim := { program := "ytlnmhfhdjnenoaagreatdoor", sum := "d9d0bb403bffa28a075627302df1b8539f6bfb59b3717f4fc97288994fd34eb5", func := "loupe/loupelaw04.NfaBuildsWith", spec := "nfaBuildsWith", inPlace := ["internal/bytealg.IndexByteString"], unfollowed := true, recurses := true, named := ["loupe/class.escapes"], apart := false, laid := [("loupe/class.escapes", laid_loupe_class_escapes)], narrowed := true }
def NfaBuildsWithUptoSaid : Prop := nfaBuildsWithUptoRow.holds Tryz.pinned (OpenSpec.upto nfaBuildsWithSpec)

end Rows
end Go.Proofs.YtlnmhfhdjnenoaaGreatDoor
