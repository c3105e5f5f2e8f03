/- Tables as arguments. -/
import Derived.OpenShut
import Derived.Test.YtkgmhkcncemmkaaVOpen
import Derived.Test.YtkgmhkcncemmkaaPNew
set_option linter.unusedVariables false
set_option linter.unusedSimpArgs false
set_option maxRecDepth 100000
namespace Go.Proofs.Ytkgmhkcncemmkaa
open Go.VC Go
def ofWd (a b c d : Nat) : BitVec 256 := BitVec.ofNat 256 (a + 2 ^ 64 * (b + 2 ^ 64 * (c + 2 ^ 64 * d)))
theorem wd_of {a b c d : Nat} (ha : a < 2 ^ 64) (hb : b < 2 ^ 64) (hc : c < 2 ^ 64) (hd : d < 2 ^ 64) : wd (ofWd a b c d) 0 = a ∧ wd (ofWd a b c d) 1 = b ∧ wd (ofWd a b c d) 2 = c ∧ wd (ofWd a b c d) 3 = d := by
  have h : (ofWd a b c d).toNat = a + 2 ^ 64 * (b + 2 ^ 64 * (c + 2 ^ 64 * d)) := by
    unfold ofWd
    rw [BitVec.toNat_ofNat]
    exact Nat.mod_eq_of_lt (by omega)
  unfold wd
  simp only [h, Nat.shiftRight_eq_div_pow]
  refine ⟨?_, ?_, ?_, ?_⟩ <;> omega

theorem opens_set {H : Type} {enc : TypeId × Value → H} {P : Program} {W : World} {t e : TypeId} (ht : P.underlying t = some (.array 4 e)) (he : P.underlying e = some (.int .u64)) (hc : P.cellsOf e = 1) (h4 : P.cellsOf t = 4) : Opens enc P W tSet (fun _ => 1) t := by
  intro fuel cs d ps h
  obtain ⟨xs, m, rfl, hd, hl, hx, hg⟩ := DataW.trod_array ht h
  cases hd
  rw [h4] at hl
  rw [hc] at hg
  match cs, hl with
  | [c0, c1, c2, c3], _ =>
    have one : ∀ (i : Nat) (c : Value), i < 4 → ([c0, c1, c2, c3].drop (i * 1)).take 1 = [c] → ∃ n : Nat, c = .int .u64 (n : Int) ∧ n < 2 ^ 64 := by
      intro i c hi hd
      have := hg i hi
      rw [hd, List.getElem?_eq_getElem (by omega)] at this
      obtain ⟨n, h1, -, hw⟩ := DataW.trod_int he this
      cases h1
      simp only [Lit.wf, Bool.and_eq_true, decide_eq_true_eq] at hw
      have m0 : IntKind.u64.min = 0 := rfl
      have m1 : IntKind.u64.max = 18446744073709551615 := rfl
      obtain ⟨k, rfl⟩ := Int.eq_ofNat_of_zero_le (show 0 ≤ n by omega)
      exact ⟨k, rfl, by omega⟩
    obtain ⟨n0, rfl, b0⟩ := one 0 c0 (by decide) rfl
    obtain ⟨n1, rfl, b1⟩ := one 1 c1 (by decide) rfl
    obtain ⟨n2, rfl, b2⟩ := one 2 c2 (by decide) rfl
    obtain ⟨n3, rfl, b3⟩ := one 3 c3 (by decide) rfl
    obtain ⟨w0, w1, w2, w3⟩ := wd_of b0 b1 b2 b3
    refine ⟨ofWd n0 n1 n2 n3, ?_, by simp [Rows.uptoBulk]⟩
    show _ = setL _
    unfold setL
    rw [w0, w1, w2, w3]

/-- A table, as it is handed in. -/
structure TableV (W : World) (v : Value) (cells : List (BitVec 256)) (next : List (List Int)) (final : List Bool) : Prop where
  rep : ∃ ca na fa cc nc fc, v = .agg #[.slice ca cells.length cc, .slice na next.length nc, .slice fa final.length fc] ∧ SlD tSet (InW W) W.heap ca cc cells ∧ SlD tRows (InW W) W.heap na nc next ∧ SlD tBool (InW W) W.heap fa fc final
theorem open_table {H : Type} {enc : TypeId × Value → H} {W : World} {base : Nat} {v : Value} {d : DataW H} {ps : List MemPlace} (hval : Value.okWide Try.prog W .any base 26 v) (h : DataW.Trod enc Try.prog W 0 (fun _ => true) true 26 v d ps) :
    ∃ cells next final, TableV W v cells next final ∧ szL (fun _ => 1) cells + szL (szL fun _ => 1) next + szL (fun _ => 1) final ≤ Rows.uptoBulk d := by
  obtain ⟨fuel, h⟩ := h
  have hu := Try.underlying26
  obtain ⟨xs, m, rfl, hd, hl, hx, hg⟩ := DataW.trod_struct hu h
  cases hd
  have h3 : Try.prog.cellsOf 26 = 3 := by kernel_rfl
  simp only [Value.okWide, hu] at hval
  obtain ⟨cs, rfl, hsz, -⟩ := hval
  rw [h3] at hsz
  obtain ⟨l⟩ := cs
  match l, hsz with
  | [c0, c1, c2], _ =>
    have k1 : Try.prog.cellsOf 22 = 1 := by kernel_rfl
    have k2 : Try.prog.cellsOf 23 = 1 := by kernel_rfl
    have k3 : Try.prog.cellsOf 24 = 1 := by kernel_rfl
    have hx3 : xs.length = 3 := hx
    match xs, hx3 with
    | [x0, x1, x2], _ =>
      have g0 : DataW.trod enc Try.prog W 0 (fun _ => true) true m 22 (List.take (Try.prog.cellsOf 22) [c0, c1, c2]) = some x0 := hg 0 _ rfl
      have g1 : DataW.trod enc Try.prog W 0 (fun _ => true) true m 23 (List.take (Try.prog.cellsOf 23) [c1, c2]) = some x1 := hg 1 _ rfl
      have g2 : DataW.trod enc Try.prog W 0 (fun _ => true) true m 24 (List.take (Try.prog.cellsOf 24) [c2]) = some x2 := hg 2 _ rfl
      rw [k1] at g0
      rw [k2] at g1
      rw [k3] at g2
      replace g0 : DataW.trod enc Try.prog W 0 (fun _ => true) true m 22 [c0] = some x0 := g0
      replace g1 : DataW.trod enc Try.prog W 0 (fun _ => true) true m 23 [c1] = some x1 := g1
      replace g2 : DataW.trod enc Try.prog W 0 (fun _ => true) true m 24 [c2] = some x2 := g2
      have s1 : Try.prog.cellsOf 77 = tSet.size := by kernel_rfl
      have s2 : Try.prog.cellsOf 36 = (tSl tI).size := by kernel_rfl
      have s3 : Try.prog.cellsOf 4 = tBool.size := by kernel_rfl
      have s4 : Try.prog.cellsOf 3 = tI.size := by kernel_rfl
      have s5 : Try.prog.cellsOf 76 = 1 := by kernel_rfl
      obtain ⟨cells, ⟨ca, cc, e0, hc⟩, z0⟩ := opens_slice Try.underlying22 s1 (by decide) (opens_set Try.underlying77 Try.underlying76 s5 s1) _ _ _ _ g0
      obtain ⟨next, ⟨na, nc, e1, hn⟩, z1⟩ := opens_slice Try.underlying23 s2 (by decide) (opens_slice Try.underlying36 s4 (by decide) (opens_int Try.underlying3)) _ _ _ _ g1
      obtain ⟨final, ⟨fa, fc, e2, hf⟩, z2⟩ := opens_slice Try.underlying24 s3 (by decide) (opens_bool Try.underlying4) _ _ _ _ g2
      cases e0; cases e1; cases e2
      refine ⟨cells, next, final, ⟨ca, na, fa, cc, nc, fc, rfl, hc, hn, hf⟩, ?_⟩
      simp only [List.map_cons, List.map_nil, Rows.uptoBulk, Rows.uptoBulkAll]
      omega

end Go.Proofs.Ytkgmhkcncemmkaa
