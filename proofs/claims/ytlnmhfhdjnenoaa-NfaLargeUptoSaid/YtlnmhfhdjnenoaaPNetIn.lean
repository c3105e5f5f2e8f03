/- A law's net, handed in. -/
import Derived.Test.YtlnmhfhdjnenoaaPOpenS
import Derived.Test.YtlnmhfhdjnenoaaPNfa2
import Derived.Test.YtlnmhfhdjnenoaaVTop
set_option linter.unusedVariables false
set_option linter.unusedSimpArgs false
set_option maxRecDepth 100000
namespace Go.Proofs.Ytlnmhfhdjnenoaa
open Go.VC Go
theorem own_ : ownKnob Try.prog.godebug = none := by kernel_rfl
theorem laid_ : laidOutB Try.prog = true := by kernel_rfl
theorem small_of {H : Type} {ds : List (DataW H)} (h : Rows.uptoSmall H ds = true) : Rows.uptoBulkAll ds ≤ 1048576 := by simpa [Rows.uptoSmall] using h
section
variable {H : Type} {enc : TypeId × Value → H} {W : World}
theorem opens_way : Opens enc Try.prog W tEd (fun _ => 1) 60 := by
  intro fuel cs d ps h
  obtain ⟨xs, m, rfl, hd, hl, hx, hg⟩ := DataW.trod_struct Try.underlying60 h
  cases hd
  have h7 : Try.prog.cellsOf 60 = 7 := by kernel_rfl
  have k1 : Try.prog.cellsOf 3 = 1 := by kernel_rfl
  have k2 : Try.prog.cellsOf 4 = 1 := by kernel_rfl
  have k3 : Try.prog.cellsOf 58 = 4 := by kernel_rfl
  have k4 : Try.prog.cellsOf 57 = 1 := by kernel_rfl
  rw [h7] at hl
  have hx4 : xs.length = 4 := hx
  match cs, hl, xs, hx4 with
  | [c0, c1, c2, c3, c4, c5, c6], _, [x0, x1, x2, x3], _ =>
    have g0 : DataW.trod enc Try.prog W 0 (fun _ => true) true m 3 (List.take (Try.prog.cellsOf 3) [c0, c1, c2, c3, c4, c5, c6]) = some x0 := hg 0 _ rfl
    have g1 : DataW.trod enc Try.prog W 0 (fun _ => true) true m 3 (List.take (Try.prog.cellsOf 3) [c1, c2, c3, c4, c5, c6]) = some x1 := hg 1 _ rfl
    have g2 : DataW.trod enc Try.prog W 0 (fun _ => true) true m 4 (List.take (Try.prog.cellsOf 4) [c2, c3, c4, c5, c6]) = some x2 := hg 2 _ rfl
    have g3 : DataW.trod enc Try.prog W 0 (fun _ => true) true m 58 (List.take (Try.prog.cellsOf 58) [c3, c4, c5, c6]) = some x3 := hg 3 _ rfl
    rw [k1] at g0 g1
    rw [k2] at g2
    rw [k3] at g3
    obtain ⟨n0, ⟨e0, o0⟩, -⟩ := opens_int Try.underlying3 _ _ _ _ g0
    obtain ⟨n1, ⟨e1, o1⟩, -⟩ := opens_int Try.underlying3 _ _ _ _ g1
    obtain ⟨b2, e2, -⟩ := opens_bool Try.underlying4 _ _ _ _ g2
    obtain ⟨s3, e3, -⟩ := opens_set Try.underlying58 Try.underlying57 k4 k3 _ _ _ _ g3
    cases e0; cases e1; cases e2; cases e3
    exact ⟨⟨n0, n1, b2, s3⟩, ⟨rfl, o0, o1⟩, by simp [Rows.uptoBulk]⟩
theorem open_net {base : Nat} {v : Value} {d : DataW H} {ps : List MemPlace} (hval : Value.okWide Try.prog W .any base 45 v) (h : DataW.Trod enc Try.prog W 0 (fun _ => true) true 45 v d ps) (hb : Rows.uptoBulk d ≤ 1048576) :
    ∃ a, NfV (InW W) W.heap v a ∧ a.edges.length ≤ Rows.uptoBulk d := by
  obtain ⟨fuel, h⟩ := h
  have hu := Try.underlying45
  obtain ⟨xs, m, rfl, hd, hl, hx, hg⟩ := DataW.trod_struct hu h
  cases hd
  have h4 : Try.prog.cellsOf 45 = 4 := by kernel_rfl
  simp only [Value.okWide, hu] at hval
  obtain ⟨cs, rfl, hsz, -⟩ := hval
  rw [h4] at hsz
  obtain ⟨l⟩ := cs
  match l, hsz with
  | [c0, c1, c2, c3], _ =>
    have k1 : Try.prog.cellsOf 3 = 1 := by kernel_rfl
    have k2 : Try.prog.cellsOf 43 = 1 := by kernel_rfl
    have k3 : Try.prog.cellsOf 60 = tEd.size := by kernel_rfl
    have hx4 : xs.length = 4 := hx
    match xs, hx4 with
    | [x0, x1, x2, x3], _ =>
      have g0 : DataW.trod enc Try.prog W 0 (fun _ => true) true m 3 (List.take (Try.prog.cellsOf 3) [c0, c1, c2, c3]) = some x0 := hg 0 _ rfl
      have g1 : DataW.trod enc Try.prog W 0 (fun _ => true) true m 3 (List.take (Try.prog.cellsOf 3) [c1, c2, c3]) = some x1 := hg 1 _ rfl
      have g2 : DataW.trod enc Try.prog W 0 (fun _ => true) true m 3 (List.take (Try.prog.cellsOf 3) [c2, c3]) = some x2 := hg 2 _ rfl
      have g3 : DataW.trod enc Try.prog W 0 (fun _ => true) true m 43 (List.take (Try.prog.cellsOf 43) [c3]) = some x3 := hg 3 _ rfl
      rw [k1] at g0 g1 g2
      rw [k2] at g3
      obtain ⟨n0, ⟨e0, o0⟩, -⟩ := opens_int Try.underlying3 _ _ _ _ g0
      obtain ⟨n1, ⟨e1, o1⟩, -⟩ := opens_int Try.underlying3 _ _ _ _ g1
      obtain ⟨n2, ⟨e2, o2⟩, -⟩ := opens_int Try.underlying3 _ _ _ _ g2
      obtain ⟨es, ⟨ea, ec, e3, he⟩, z3⟩ := opens_slice Try.underlying43 k3 (by decide) opens_way _ _ _ _ g3
      cases e0; cases e1; cases e2; cases e3
      have b1 := szL_len (sz := fun _ : EdM => 1) (fun _ => Nat.le_refl _) es
      simp only [List.map_cons, List.map_nil, Rows.uptoBulk, Rows.uptoBulkAll] at hb ⊢
      exact ⟨⟨n0, n1, n2, es⟩, ⟨⟨o0, o1, o2⟩, by simp only; omega, ea, ec, rfl, he⟩, by simp only; omega⟩
end
end Go.Proofs.Ytlnmhfhdjnenoaa
