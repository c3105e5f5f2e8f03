/-
  NARROWER THAN 'FOR EVERY INPUT', by the rows' own cells (each row's printed sentence says how): FilesKept: laid · FilesScripts: laid · FilesNil: laid.
  DERIVED. THE GIVEN ROWS OF THIS SEAT. 3 by the template 'for every input the law returns true; each argument reads behind the call as it read before'; 0 by the template 'total and deterministic' (their statements: YtfdlhakfmbdamaaDoorTotals.lean).
  GIVEN WITH THE SEED: the statements are not yours to turn. If you find one false, say at which input.
  Laid BY PROGRAM, IN A SANDBOX (cutbox-rows.mjs): the forced cells as the released guide's own fill.sh prints them over the translation 0538dc8f70e88c4b… (all of the seat's roots in one cut). By AI agents, Wed Nov 11 2026. No macro, syntax, notation, axiom, sorry.
-/
import Derived.Test.YtfdlhakfmbdamaaDoorChecked
import GoSem.Claim
import GoSem.ClaimJoined
import GoSem.ClaimMapViews
import Derived.JoinedTies
import Derived.KernelRfl
namespace Go.Proofs.YtfdlhakfmbdamaaDoor
/- THE CELL 'sum', in the pinned program and in every row, IS THE sha256 OF THE DUMP (.gsa) THAT YtfdlhakfmbdamaaDoorProg.lean LOADS. Nothing in Lean hashes anything: it is a label: what it is worth is what the hold of that sum in a sandbox is worth. -/
noncomputable def Tryd.pinned : Pinned := { name := "ytfdlhakfmbdamaadoor", sum := "0538dc8f70e88c4be72ff01b046c8f8e30a8057f36b4123a94cba7bd3affe7ae", checked := Tryd.checked }
namespace Rows
def none {H : Type} : Left H := { results := [], args := [] }

/- WHAT THE LISTED PACKAGE-LEVEL VARIABLES READ AS WHEN THE CALL BEGINS. Each datum BY PROGRAM (the guide's laid-datum.mjs) off the statement by which the dump's own 'gosem.cut.vars' lays the variable. In a bare row this is a premise. The card (YtfdlhakfmbdamaaDoorCards.lean) ties it to the program's text. -/
def laid_loupe_files_ErrMissing {H : Type} : DataW H := .iface "*errors.errorString" (.ptr (.agg [.lit (.string [109, 105, 115, 115, 105, 110, 103])]))
def laid_loupe_files_ErrBroken {H : Type} : DataW H := .iface "*errors.errorString" (.ptr (.agg [.lit (.string [98, 114, 111, 107, 101, 110])]))
def laid_loupe_files_ErrFull {H : Type} : DataW H := .iface "*errors.errorString" (.ptr (.agg [.lit (.string [102, 117, 108, 108])]))
def laid_loupe_files_ErrBadName {H : Type} : DataW H := .iface "*errors.errorString" (.ptr (.agg [.lit (.string [98, 97, 100, 32, 110, 97, 109, 101])]))

/-- 'loupelaw25.FilesKept': WHATEVER THE INPUT: true; the input reads as it did. -/
def filesKeptSpec : ChangeSpec := { name := "filesKept", fn := fun _ => fun
  | [d1, d2, d3] => { results := [.lit (.bool true)], args := [d1, d2, d3] }
  | _ => none }
def filesKeptRow : OpenClaim := { program := "ytfdlhakfmbdamaadoor", sum := "0538dc8f70e88c4be72ff01b046c8f8e30a8057f36b4123a94cba7bd3affe7ae", func := "loupe/loupelaw25.FilesKept", spec := "filesKept", unfollowed := true, recurses := true, named := ["loupe/files.ErrBadName", "loupe/files.ErrBroken", "loupe/files.ErrMissing", "loupe/files.ErrFull"], apart := false, laid := [("loupe/files.ErrMissing", laid_loupe_files_ErrMissing), ("loupe/files.ErrBroken", laid_loupe_files_ErrBroken), ("loupe/files.ErrFull", laid_loupe_files_ErrFull), ("loupe/files.ErrBadName", laid_loupe_files_ErrBadName)] }
def FilesKeptSaid : Prop := filesKeptRow.holds Tryd.pinned (OpenSpec.ofChange filesKeptSpec)

/-- ITS FALSE NEIGHBOUR: 'it returns false'. Refute it at one input. -/
def filesKeptWrong : ChangeSpec := { name := "filesKept", fn := fun _ => fun
  | [d1, d2, d3] => { results := [.lit (.bool false)], args := [d1, d2, d3] }
  | _ => none }
def FilesKeptWrongFalsely : Prop := filesKeptRow.holds Tryd.pinned (OpenSpec.ofChange filesKeptWrong)

/-- 'loupelaw25.FilesScripts': WHATEVER THE INPUT: true; the input reads as it did. -/
def filesScriptsSpec : ChangeSpec := { name := "filesScripts", fn := fun _ => fun
  | [d1, d2, d3] => { results := [.lit (.bool true)], args := [d1, d2, d3] }
  | _ => none }
def filesScriptsRow : OpenClaim := { program := "ytfdlhakfmbdamaadoor", sum := "0538dc8f70e88c4be72ff01b046c8f8e30a8057f36b4123a94cba7bd3affe7ae", func := "loupe/loupelaw25.FilesScripts", spec := "filesScripts", inPlace := ["internal/reflectlite.TypeOf"], unfollowed := true, recurses := true, named := ["loupe/files.ErrBadName", "loupe/files.ErrBroken", "loupe/files.ErrMissing", "loupe/files.ErrFull"], apart := false, laid := [("loupe/files.ErrMissing", laid_loupe_files_ErrMissing), ("loupe/files.ErrBroken", laid_loupe_files_ErrBroken), ("loupe/files.ErrFull", laid_loupe_files_ErrFull), ("loupe/files.ErrBadName", laid_loupe_files_ErrBadName)] }
def FilesScriptsSaid : Prop := filesScriptsRow.holds Tryd.pinned (OpenSpec.ofChange filesScriptsSpec)

/-- ITS FALSE NEIGHBOUR: 'it returns false'. Refute it at one input. -/
def filesScriptsWrong : ChangeSpec := { name := "filesScripts", fn := fun _ => fun
  | [d1, d2, d3] => { results := [.lit (.bool false)], args := [d1, d2, d3] }
  | _ => none }
def FilesScriptsWrongFalsely : Prop := filesScriptsRow.holds Tryd.pinned (OpenSpec.ofChange filesScriptsWrong)

/-- 'loupelaw25.FilesNil': WHATEVER THE INPUT: true; the input reads as it did. -/
def filesNilSpec : ChangeSpec := { name := "filesNil", fn := fun _ => fun
  | [d1, d2] => { results := [.lit (.bool true)], args := [d1, d2] }
  | _ => none }
def filesNilRow : OpenClaim := { program := "ytfdlhakfmbdamaadoor", sum := "0538dc8f70e88c4be72ff01b046c8f8e30a8057f36b4123a94cba7bd3affe7ae", func := "loupe/loupelaw25.FilesNil", spec := "filesNil", inPlace := ["internal/reflectlite.TypeOf"], unfollowed := true, recurses := true, named := ["loupe/files.ErrBadName", "loupe/files.ErrBroken", "loupe/files.ErrMissing", "loupe/files.ErrFull"], apart := false, laid := [("loupe/files.ErrMissing", laid_loupe_files_ErrMissing), ("loupe/files.ErrBroken", laid_loupe_files_ErrBroken), ("loupe/files.ErrFull", laid_loupe_files_ErrFull), ("loupe/files.ErrBadName", laid_loupe_files_ErrBadName)] }
def FilesNilSaid : Prop := filesNilRow.holds Tryd.pinned (OpenSpec.ofChange filesNilSpec)

/-- ITS FALSE NEIGHBOUR: 'it returns false'. Refute it at one input. -/
def filesNilWrong : ChangeSpec := { name := "filesNil", fn := fun _ => fun
  | [d1, d2] => { results := [.lit (.bool false)], args := [d1, d2] }
  | _ => none }
def FilesNilWrongFalsely : Prop := filesNilRow.holds Tryd.pinned (OpenSpec.ofChange filesNilWrong)

/- THE SECOND FORM. 'bulk': how many values and letters a reading holds, each counted each time it is reached (what is shared counts as often as it is met; a slice's spare places count too). A statement '..UptoSaid' is the law's where the arguments, and the package variables that the reading takes, are together of bulk at most 1048576: NARROWER than '..Said'. Prove '..Said' where nothing that the law and all that it calls make is longer than what came in: it says more and counts as full. Else prove '..UptoSaid'. A law counts once. -/
mutual
def uptoBulk {H : Type} : DataW H → Nat
  | .lit (.string bytes) => bytes.length + 1
  | .lit _ => 1
  | .nil => 1
  | .ptr d => uptoBulk d + 1
  | .slice elems spare => uptoBulkAll elems + uptoBulkAll spare + 1
  | .agg parts => uptoBulkAll parts + 1
  | .iface _ d => uptoBulk d + 1
  | .map entries => uptoBulkEntries entries + 1
  | .held _ => 1
def uptoBulkAll {H : Type} : List (DataW H) → Nat
  | [] => 0
  | d :: r => uptoBulk d + uptoBulkAll r
def uptoBulkEntries {H : Type} : List (Lit × DataW H) → Nat
  | [] => 0
  | x :: r => uptoBulkEntry x + uptoBulkEntries r
def uptoBulkEntry {H : Type} : Lit × DataW H → Nat
  | (.string bytes, d) => bytes.length + uptoBulk d + 1
  | (_, d) => uptoBulk d + 1
 end
def uptoSmall : (H : Type) → List (DataW H) → Bool := fun _ ds => decide (uptoBulkAll ds ≤ 1048576)
def OpenSpec.upto (s : _root_.Go.ChangeSpec) : _root_.Go.OpenSpec := { _root_.Go.OpenSpec.ofChange s with cond := some uptoSmall }

/-- 'loupelaw25.FilesKept', WHERE WHAT IT READS IS OF BULK AT MOST 1048576: true; the input reads as it did. -/
def filesKeptUptoRow : OpenClaim := { program := "ytfdlhakfmbdamaadoor", sum := "0538dc8f70e88c4be72ff01b046c8f8e30a8057f36b4123a94cba7bd3affe7ae", func := "loupe/loupelaw25.FilesKept", spec := "filesKept", unfollowed := true, recurses := true, named := ["loupe/files.ErrBadName", "loupe/files.ErrBroken", "loupe/files.ErrMissing", "loupe/files.ErrFull"], apart := false, laid := [("loupe/files.ErrMissing", laid_loupe_files_ErrMissing), ("loupe/files.ErrBroken", laid_loupe_files_ErrBroken), ("loupe/files.ErrFull", laid_loupe_files_ErrFull), ("loupe/files.ErrBadName", laid_loupe_files_ErrBadName)], narrowed := true }
def FilesKeptUptoSaid : Prop := filesKeptUptoRow.holds Tryd.pinned (OpenSpec.upto filesKeptSpec)

/-- 'loupelaw25.FilesScripts', WHERE WHAT IT READS IS OF BULK AT MOST 1048576: true; the input reads as it did. -/
def filesScriptsUptoRow : OpenClaim := { program := "ytfdlhakfmbdamaadoor", sum := "0538dc8f70e88c4be72ff01b046c8f8e30a8057f36b4123a94cba7bd3affe7ae", func := "loupe/loupelaw25.FilesScripts", spec := "filesScripts", inPlace := ["internal/reflectlite.TypeOf"], unfollowed := true, recurses := true, named := ["loupe/files.ErrBadName", "loupe/files.ErrBroken", "loupe/files.ErrMissing", "loupe/files.ErrFull"], apart := false, laid := [("loupe/files.ErrMissing", laid_loupe_files_ErrMissing), ("loupe/files.ErrBroken", laid_loupe_files_ErrBroken), ("loupe/files.ErrFull", laid_loupe_files_ErrFull), ("loupe/files.ErrBadName", laid_loupe_files_ErrBadName)], narrowed := true }
def FilesScriptsUptoSaid : Prop := filesScriptsUptoRow.holds Tryd.pinned (OpenSpec.upto filesScriptsSpec)

/-- 'loupelaw25.FilesNil', WHERE WHAT IT READS IS OF BULK AT MOST 1048576: true; the input reads as it did. -/
def filesNilUptoRow : OpenClaim := { program := "ytfdlhakfmbdamaadoor", sum := "0538dc8f70e88c4be72ff01b046c8f8e30a8057f36b4123a94cba7bd3affe7ae", func := "loupe/loupelaw25.FilesNil", spec := "filesNil", inPlace := ["internal/reflectlite.TypeOf"], unfollowed := true, recurses := true, named := ["loupe/files.ErrBadName", "loupe/files.ErrBroken", "loupe/files.ErrMissing", "loupe/files.ErrFull"], apart := false, laid := [("loupe/files.ErrMissing", laid_loupe_files_ErrMissing), ("loupe/files.ErrBroken", laid_loupe_files_ErrBroken), ("loupe/files.ErrFull", laid_loupe_files_ErrFull), ("loupe/files.ErrBadName", laid_loupe_files_ErrBadName)], narrowed := true }
def FilesNilUptoSaid : Prop := filesNilUptoRow.holds Tryd.pinned (OpenSpec.upto filesNilSpec)

end Rows
end Go.Proofs.YtfdlhakfmbdamaaDoor
