/- Pairs of ints as arguments. -/
import Derived.OpenShut
import Derived.Test.YtkgmhkcncemmkaaVOpen
set_option linter.unusedVariables false
set_option linter.unusedSimpArgs false
set_option maxRecDepth 100000
namespace Go.Proofs.Ytkgmhkcncemmkaa
open Go.VC Go
theorem open_pair {H : Type} {enc : TypeId × Value → H} {W : World} {base : Nat} {v : Value} {d : DataW H} {ps : List MemPlace} (hval : Value.okWide Try.prog W .any base 63 v) (h : DataW.Trod enc Try.prog W 0 (fun _ => true) true 63 v d ps) :
    ∃ n i : Int, v = .agg #[.int .i64 n, .int .i64 i] ∧ (-9223372036854775808 ≤ n ∧ n ≤ 9223372036854775807) ∧ (-9223372036854775808 ≤ i ∧ i ≤ 9223372036854775807) := by
  obtain ⟨fuel, h⟩ := h
  have hu := Try.underlying63
  have he := Try.underlying3
  have hc : Try.prog.cellsOf 3 = 1 := by kernel_rfl
  have h2 : Try.prog.cellsOf 63 = 2 := by kernel_rfl
  obtain ⟨xs, m, rfl, hd, hl, hx, hg⟩ := DataW.trod_array hu h
  cases hd
  simp only [Value.okWide, hu] at hval
  obtain ⟨cs, rfl, hsz, -⟩ := hval
  rw [h2] at hsz
  rw [hc] at hg
  obtain ⟨l⟩ := cs
  match l, hsz with
  | [c0, c1], _ =>
    have one : ∀ (i : Nat) (c : Value), i < 2 → ([c0, c1].drop (i * 1)).take 1 = [c] → ∃ n : Int, c = .int .i64 n ∧ -9223372036854775808 ≤ n ∧ n ≤ 9223372036854775807 := by
      intro i c hi hd
      have h := hg i hi
      have hd' : List.take 1 (List.drop (i * 1) (Value.agg { toList := [c0, c1] }).cells.toList) = [c] := hd
      rw [hd', List.getElem?_eq_getElem (by omega)] at h
      obtain ⟨n, h1, -, hw⟩ := DataW.trod_int he h
      cases h1
      simp only [Lit.wf, Bool.and_eq_true, decide_eq_true_eq] at hw
      have m0 : IntKind.i64.min = -9223372036854775808 := by decide
      have m1 : IntKind.i64.max = 9223372036854775807 := by decide
      exact ⟨n, rfl, by omega, by omega⟩
    obtain ⟨n, rfl, b0⟩ := one 0 c0 (by decide) rfl
    obtain ⟨i, rfl, b1⟩ := one 1 c1 (by decide) rfl
    exact ⟨n, i, rfl, b0, b1⟩
end Go.Proofs.Ytkgmhkcncemmkaa
