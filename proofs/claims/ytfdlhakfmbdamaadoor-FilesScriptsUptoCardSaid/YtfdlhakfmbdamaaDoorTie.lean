/-
  DERIVED. GIVEN WITH THE SEED: THE PROGRAM's TIES (one call each: nine closed facts by the kernel) AND EACH ROW's TIE, after the 31st guide's Derived/Test/Toyas{Tie, Card}.lean. No idea stands in it: it is a product of the set-up. Laid BY PROGRAM, IN A SANDBOX (cutbox-door.mjs). By AI agents, Wed Nov 11 2026. No macro, syntax, notation, axiom, sorry.
-/
import Derived.Test.YtfdlhakfmbdamaaDoorRows
import Derived.LaidByTextLater
import Derived.SevenTiedAt
import Derived.LaidSub
import Derived.LaidOnce
namespace Go.Proofs.YtfdlhakfmbdamaaDoor
open Go
set_option maxRecDepth 100000
theorem seatTie1 : Tryd.prog.laidByTextLater [("loupe/files.ErrMissing", Rows.laid_loupe_files_ErrMissing), ("loupe/files.ErrBroken", Rows.laid_loupe_files_ErrBroken), ("loupe/files.ErrFull", Rows.laid_loupe_files_ErrFull), ("loupe/files.ErrBadName", Rows.laid_loupe_files_ErrBadName)] [.sentinel, .sentinel, .sentinel, .sentinel] true :=
  Program.laidByTextLater_by_one 85 8 2 (by kernel_rfl) (by kernel_rfl) (by kernel_rfl) (by kernel_rfl) (by kernel_rfl) (by kernel_rfl) (fun _ _ => by kernel_rfl)
theorem noOwnUnsafe : Tryd.pinned.checked.prog.headLifts.contains "ownunsafe" = false := by kernel_rfl
theorem tie : Tryd.prog.laidByTextLater [("loupe/files.ErrMissing", Rows.laid_loupe_files_ErrMissing), ("loupe/files.ErrBroken", Rows.laid_loupe_files_ErrBroken), ("loupe/files.ErrFull", Rows.laid_loupe_files_ErrFull), ("loupe/files.ErrBadName", Rows.laid_loupe_files_ErrBadName)] [.sentinel, .sentinel, .sentinel, .sentinel] true :=
  Program.laidByTextLater.sub seatTie1 ["loupe/files.ErrMissing", "loupe/files.ErrBroken", "loupe/files.ErrFull", "loupe/files.ErrBadName"] (by kernel_rfl) (by kernel_rfl)
theorem filesKept_row_tie : Rows.filesKeptRow.laidByTextAt .later Tryd.pinned [.sentinel, .sentinel, .sentinel, .sentinel] true :=
  OpenClaim.laidByTextAt_later rfl rfl tie noOwnUnsafe
theorem filesScripts_row_tie : Rows.filesScriptsRow.laidByTextAt .later Tryd.pinned [.sentinel, .sentinel, .sentinel, .sentinel] true :=
  OpenClaim.laidByTextAt_later rfl rfl tie noOwnUnsafe
theorem filesNil_row_tie : Rows.filesNilRow.laidByTextAt .later Tryd.pinned [.sentinel, .sentinel, .sentinel, .sentinel] true :=
  OpenClaim.laidByTextAt_later rfl rfl tie noOwnUnsafe
theorem filesKeptUpto_row_tie : Rows.filesKeptUptoRow.laidByTextAt .later Tryd.pinned [.sentinel, .sentinel, .sentinel, .sentinel] true :=
  OpenClaim.laidByTextAt_later rfl rfl tie noOwnUnsafe
theorem filesScriptsUpto_row_tie : Rows.filesScriptsUptoRow.laidByTextAt .later Tryd.pinned [.sentinel, .sentinel, .sentinel, .sentinel] true :=
  OpenClaim.laidByTextAt_later rfl rfl tie noOwnUnsafe
theorem filesNilUpto_row_tie : Rows.filesNilUptoRow.laidByTextAt .later Tryd.pinned [.sentinel, .sentinel, .sentinel, .sentinel] true :=
  OpenClaim.laidByTextAt_later rfl rfl tie noOwnUnsafe
end Go.Proofs.YtfdlhakfmbdamaaDoor
