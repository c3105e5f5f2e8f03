/- What the closing texts of the Files laws need. -/
import Derived.Test.YtfdlhakfmbdamaaDoorPLaid3
import Derived.Test.YtfdlhakfmbdamaaDoorVOpen
import Derived.Test.YtfdlhakfmbdamaaDoorVTop
set_option linter.unusedVariables false
set_option maxRecDepth 100000
namespace Go.Proofs.YtfdlhakfmbdamaaDoor
open Go.VC
theorem own_ : ownKnob Tryd.prog.godebug = none := by kernel_rfl
theorem laid_ : laidOutB Tryd.prog = true := by kernel_rfl
theorem small_of {H : Type} {ds : List (DataW H)} (h : Rows.uptoSmall H ds = true) : Rows.uptoBulkAll ds ≤ 1048576 := by simpa [Rows.uptoSmall] using h
theorem filesNil_w (name data : ByteArray) (S : Nat → Prop) (H : Heap) (h0 : name.size ≤ 1048576) (h1 : data.size ≤ 1048576) (hs : ∃ b o, SentH H b o) : Pure Tryd.prog 5 #[.string name, .string data] H (.bool true) := by
  obtain ⟨b, o, sen⟩ := hs
  exact filesNil_p (by omega) sen
end Go.Proofs.YtfdlhakfmbdamaaDoor
