/- A table that is handed in, small enough. -/
import Derived.Test.YtkgmhkcncemmkaaPOpen5
import Derived.Test.YtkgmhkcncemmkaaPLives
import Derived.Test.YtkgmhkcncemmkaaVTop
set_option linter.unusedVariables false
set_option maxRecDepth 100000
namespace Go.Proofs.Ytkgmhkcncemmkaa
open Go.VC
theorem own_ : ownKnob Try.prog.godebug = none := by kernel_rfl
theorem laid_ : laidOutB Try.prog = true := by kernel_rfl
theorem tabIn_of {W : World} {v : Value} {cells : List (BitVec 256)} {next : List (List Int)} {final : List Bool} (h : TableV W v cells next final) (hb : szL (fun _ => 1) cells + szL (szL fun _ => 1) next + szL (fun _ => 1) final ≤ 1048576) : TabIn (InW W) W.heap v cells next final := by
  obtain ⟨ca, na, fa, cc, nc, fc, rfl, h1, h2, h3⟩ := h
  have b1 := szL_len (sz := fun _ : BitVec 256 => 1) (fun _ => Nat.le_refl _) cells
  have b2 := szL_len (sz := szL fun _ : Int => 1) (fun x => by have := szL_len (sz := fun _ : Int => 1) (fun _ => Nat.le_refl _) x; omega) next
  have b3 := szL_len (sz := fun _ : Bool => 1) (fun _ => Nat.le_refl _) final
  refine ⟨fun k hk => hk, ⟨ca, na, fa, cc, nc, fc, rfl, h1, h2, h3⟩, by omega, by omega, fun row hrow => ?_, by omega⟩
  have b4 := szL_mem (sz := szL fun _ : Int => 1) hrow
  have b5 := szL_len (sz := fun _ : Int => 1) (fun _ => Nat.le_refl _) row
  omega
theorem small_of {H : Type} {ds : List (DataW H)} (h : Rows.uptoSmall H ds = true) : Rows.uptoBulkAll ds ≤ 1048576 := by simpa [Rows.uptoSmall] using h
end Go.Proofs.Ytkgmhkcncemmkaa
