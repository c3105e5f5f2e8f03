/- Sets as arguments. -/
import Derived.OpenShut
import Derived.Test.YtlnmhfhdjnenoaaVOpen
import Derived.Test.YtlnmhfhdjnenoaaPClass
set_option linter.unusedVariables false
set_option linter.unusedSimpArgs false
set_option maxRecDepth 100000
namespace Go.Proofs.Ytlnmhfhdjnenoaa
open Go.VC Go
def ofWd (a b c d : Nat) : BitVec 256 := BitVec.ofNat 256 (a + 2 ^ 64 * (b + 2 ^ 64 * (c + 2 ^ 64 * d)))
theorem wd_of {a b c d : Nat} (ha : a < 2 ^ 64) (hb : b < 2 ^ 64) (hc : c < 2 ^ 64) (hd : d < 2 ^ 64) : wd (ofWd a b c d) 0 = a ∧ wd (ofWd a b c d) 1 = b ∧ wd (ofWd a b c d) 2 = c ∧ wd (ofWd a b c d) 3 = d := by
  have h : (ofWd a b c d).toNat = a + 2 ^ 64 * (b + 2 ^ 64 * (c + 2 ^ 64 * d)) := by
    unfold ofWd
    rw [BitVec.toNat_ofNat]
    exact Nat.mod_eq_of_lt (by omega)
  unfold wd
  simp only [h, Nat.shiftRight_eq_div_pow]
  refine ⟨?_, ?_, ?_, ?_⟩ <;> omega

theorem opens_set {H : Type} {enc : TypeId × Value → H} {P : Program} {W : World} {t e : TypeId} (ht : P.underlying t = some (.array 4 e)) (he : P.underlying e = some (.int .u64)) (hc : P.cellsOf e = 1) (h4 : P.cellsOf t = 4) : Opens enc P W tSet (fun _ => 1) t := by
  intro fuel cs d ps h
  obtain ⟨xs, m, rfl, hd, hl, hx, hg⟩ := DataW.trod_array ht h
  cases hd
  rw [h4] at hl
  rw [hc] at hg
  match cs, hl with
  | [c0, c1, c2, c3], _ =>
    have one : ∀ (i : Nat) (c : Value), i < 4 → ([c0, c1, c2, c3].drop (i * 1)).take 1 = [c] → ∃ n : Nat, c = .int .u64 (n : Int) ∧ n < 2 ^ 64 := by
      intro i c hi hd
      have := hg i hi
      rw [hd, List.getElem?_eq_getElem (by omega)] at this
      obtain ⟨n, h1, -, hw⟩ := DataW.trod_int he this
      cases h1
      simp only [Lit.wf, Bool.and_eq_true, decide_eq_true_eq] at hw
      have m0 : IntKind.u64.min = 0 := rfl
      have m1 : IntKind.u64.max = 18446744073709551615 := rfl
      obtain ⟨k, rfl⟩ := Int.eq_ofNat_of_zero_le (show 0 ≤ n by omega)
      exact ⟨k, rfl, by omega⟩
    obtain ⟨n0, rfl, b0⟩ := one 0 c0 (by decide) rfl
    obtain ⟨n1, rfl, b1⟩ := one 1 c1 (by decide) rfl
    obtain ⟨n2, rfl, b2⟩ := one 2 c2 (by decide) rfl
    obtain ⟨n3, rfl, b3⟩ := one 3 c3 (by decide) rfl
    obtain ⟨w0, w1, w2, w3⟩ := wd_of b0 b1 b2 b3
    refine ⟨ofWd n0 n1 n2 n3, ?_, by simp [Rows.uptoBulk]⟩
    show _ = setL _
    unfold setL
    rw [w0, w1, w2, w3]

end Go.Proofs.Ytlnmhfhdjnenoaa
