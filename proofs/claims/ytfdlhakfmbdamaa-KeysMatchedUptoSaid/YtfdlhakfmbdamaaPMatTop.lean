/- The law KeysMatched returns true for every two lists of texts, where what it reads is of bulk at most 1048576, and changes nothing: no other condition. -/
import Derived.Test.YtfdlhakfmbdamaaPMat
import Derived.Test.YtfdlhakfmbdamaaVOpen
import Derived.Test.YtfdlhakfmbdamaaVTop
set_option linter.unusedVariables false
namespace Go.Proofs.Ytfdlhakfmbdamaa
open Go.ChangeShapes Go.WideShapes Go.ChangeAt Go.RowKit
open Go.VC

theorem own_ : ownKnob Try.prog.godebug = none := by kernel_rfl
theorem laid_ : laidOutB Try.prog = true := by kernel_rfl
theorem small_of {H : Type} {ds : List (DataW H)} (h : Rows.uptoSmall H ds = true) : Rows.uptoBulkAll ds ≤ 1048576 := by simpa [Rows.uptoSmall] using h
theorem open_texts {H : Type} {enc : TypeId × Value → H} {W : World} {base : Nat} {v : Value} {d : DataW H} {ps : List MemPlace} (hval : Value.okWide Try.prog W .any base 22 v) (h : DataW.Trod enc Try.prog W 0 (fun _ => true) true 22 v d ps) (hb : Rows.uptoBulk d ≤ 1048576) :
    ∃ a cap xs, v = .slice a xs.length cap ∧ SlD tStr (InW W) W.heap a cap xs ∧ xs.length ≤ 1048576 := by
  obtain ⟨fuel, h⟩ := h
  have s1 : Try.prog.cellsOf 9 = tStr.size := by kernel_rfl
  obtain ⟨xs, ⟨a, cap, e0, hd⟩, z⟩ := opens_slice Try.underlying22 s1 (by decide) (opens_str Try.underlying9) _ _ _ _ h
  have hl := szL_len (sz := fun s : ByteArray => s.size + 1) (fun s => by omega) xs
  exact ⟨a, cap, xs, slice_cell Try.underlying22 hval e0, hd, by omega⟩

set_option maxRecDepth 100000 in
theorem keysMatched_lifted (os : Os) (started : os.Started) (H : Type) (enc : TypeId × Value → H) (F : Stop.Interp) :
    ReturnsInHanded {} Try.checked os 5 .any ((Rows.OpenSpec.upto Rows.keysMatchedSpec).pre6 enc Try.prog Try.f5 Rows.keysMatchedUptoRow.domain false) (((Rows.OpenSpec.upto Rows.keysMatchedSpec).at F).post enc Try.prog Try.f5 false true false false) := by
  refine returnsInHanded_of_cond (C := Try.checked) (s := Rows.OpenSpec.upto Rows.keysMatchedSpec) (k := Rows.uptoSmall) rfl own_ started (by kernel_rfl) Try.func5
    (OpenSpec.witness (enc := enc) (C := Try.checked) (s := Rows.OpenSpec.upto Rows.keysMatchedSpec) (k := Rows.uptoSmall) rfl false ⟨#[], #[.slice none 0 0, .slice none 0 0], []⟩ 8 (by kernel_rfl) (by kernel_rfl) (by kernel_rfl)
      (x := ([.nil, .nil], [], [])) (by kernel_rfl) rfl (by kernel_rfl)) ?_
  intro W base args ds gs before hval0 hW _ hk _
  have hval : ∀ (j : Nat) t v, Try.f5.params[j]? = some t → args[j]? = some v → Value.okWide Try.prog W .any base t v := hval0
  have hW' := hW
  obtain ⟨p, q, hA0, hV, rfl, hfz, hnd⟩ := hW
  have hA : DataW.TrodAll enc Try.prog W 0 (fun _ => true) true [22, 22] args.toList ds p := hA0
  obtain ⟨v0, vs0, d0, ds0, p0, q0, e0, rfl, rfl, h0, r0⟩ := trodAll_cons hA
  obtain ⟨v1, vs1, d1, ds1, p1, q1, rfl, rfl, rfl, h1, r1⟩ := trodAll_cons r0
  obtain ⟨rfl, rfl, rfl⟩ := trodAll_nil r1
  obtain rfl : args = #[v0, v1] := by cases args; simp_all
  obtain ⟨rfl, rfl⟩ := trodVars_none hV
  have hb := small_of hk
  simp only [List.append_nil, Rows.uptoBulkAll] at hb
  obtain ⟨va, vc, view, rfl, hv, nv⟩ := open_texts (hval 0 _ v0 rfl rfl) h0 (by omega)
  obtain ⟨sa, sc, source, rfl, hs, ns⟩ := open_texts (hval 1 _ v1 rfl rfl) h1 (by omega)
  refine ((keysMatched_p va sa vc sc view source (InW W) W.heap (fun k hk => hk) hv hs (by omega) (by omega)) W rfl).2.mono fun e W' ⟨v, he, henv, hv, hag⟩ => ?_
  subst he; subst hv
  exact ⟨_, rfl, post_true hW' rfl ⟨rfl, rfl, rfl⟩ laid_ (by kernel_rfl) rfl Try.underlying4 henv hag⟩

theorem keysMatched_holds : Rows.KeysMatchedUptoSaid :=
  OpenClaim.holds_of_cond 5 Try.f5 rfl rfl rfl rfl rfl rfl rfl ⟨rfl, rfl, rfl, rfl, rfl⟩ rfl rfl rfl rfl rfl (by kernel_rfl) Try.func5 (by kernel_rfl)
    (of_decide_eq_true (by kernel_rfl)) (by unfold Func.isWrapper; first | (rw [if_pos (by decide +kernel)]; kernel_rfl) | (rw [if_neg (by decide +kernel)]; exact ⟨rfl, rfl⟩))
    (fun os started H enc _ F => keysMatched_lifted os started H enc F)

#print axioms keysMatched_holds
end Go.Proofs.Ytfdlhakfmbdamaa
