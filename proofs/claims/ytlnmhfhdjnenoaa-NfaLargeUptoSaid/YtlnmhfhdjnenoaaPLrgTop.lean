/- The law NfaLarge returns true for every string, where what it reads is of bulk at most 1048576, and changes nothing: no other condition. -/
import Derived.Test.YtlnmhfhdjnenoaaPNetIn
import Derived.Test.YtlnmhfhdjnenoaaPLrg
set_option linter.unusedVariables false
set_option linter.unusedSimpArgs false
namespace Go.Proofs.Ytlnmhfhdjnenoaa
open Go.ChangeShapes Go.WideShapes Go.ChangeAt Go.RowKit
open Go.ChangeMaps (open_string)
open Go.VC

set_option maxRecDepth 100000 in
theorem nfaLarge_lifted (os : Os) (started : os.Started) (H : Type) (enc : TypeId × Value → H) (F : Stop.Interp) :
    ReturnsInHanded {} Try.checked os 3 .any ((Rows.OpenSpec.upto Rows.nfaLargeSpec).pre6 enc Try.prog Try.f3 Rows.nfaLargeUptoRow.domain false) (((Rows.OpenSpec.upto Rows.nfaLargeSpec).at F).post enc Try.prog Try.f3 false true false false) := by
  refine returnsInHanded_of_cond (C := Try.checked) (s := Rows.OpenSpec.upto Rows.nfaLargeSpec) (k := Rows.uptoSmall) rfl own_ started (by kernel_rfl) Try.func3
    (OpenSpec.witness (enc := enc) (C := Try.checked) (s := Rows.OpenSpec.upto Rows.nfaLargeSpec) (k := Rows.uptoSmall) rfl false ⟨#[], #[.string ⟨#[]⟩], []⟩ 8 (by kernel_rfl) (by kernel_rfl) (by kernel_rfl)
      (x := ([.lit (.string [])], [], [])) (by kernel_rfl) rfl (by kernel_rfl)) ?_
  intro W base args ds gs before hval0 hW _ hk _
  have hval : ∀ (j : Nat) t v, Try.f3.params[j]? = some t → args[j]? = some v → Value.okWide Try.prog W .any base t v := hval0
  have hW' := hW
  obtain ⟨p, q, hA0, hV, rfl, hfz, hnd⟩ := hW
  have hA : DataW.TrodAll enc Try.prog W 0 (fun _ => true) true [9] args.toList ds p := hA0
  obtain ⟨v0, vs0, d0, ds0, p0, q0, e0, rfl, rfl, h0, r0⟩ := trodAll_cons hA
  obtain ⟨rfl, rfl, rfl⟩ := trodAll_nil r0
  obtain rfl : args = #[v0] := by cases args; simp_all
  obtain ⟨rfl, rfl⟩ := trodVars_none hV
  have hb := small_of hk
  obtain ⟨s0, rfl, rfl, rfl, hs0⟩ := open_string Try.underlying9 (hval 0 9 v0 rfl rfl) h0
  simp only [List.append_nil, Rows.uptoBulkAll, Rows.uptoBulk, Array.length_toList] at hb
  refine ((nfaLarge_p s0 (InW W) W.heap (by have : s0.data.size = s0.size := rfl; omega)) W rfl).2.mono fun e W' ⟨v, he, henv, hv, hag⟩ => ?_
  subst he; subst hv
  exact ⟨_, rfl, post_true hW' rfl ⟨rfl, rfl, rfl⟩ laid_ (by kernel_rfl) rfl Try.underlying4 henv hag⟩

theorem nfaLarge_holds : Rows.NfaLargeUptoSaid :=
  OpenClaim.holds_of_cond 3 Try.f3 rfl rfl rfl rfl rfl rfl rfl ⟨rfl, rfl, rfl, rfl, rfl⟩ rfl rfl rfl rfl rfl (by kernel_rfl) Try.func3 (by kernel_rfl)
    (of_decide_eq_true (by kernel_rfl)) (by unfold Func.isWrapper; first | (rw [if_pos (by decide +kernel)]; kernel_rfl) | (rw [if_neg (by decide +kernel)]; exact ⟨rfl, rfl⟩))
    (fun os started H enc _ F => nfaLarge_lifted os started H enc F)

#print axioms nfaLarge_holds
end Go.Proofs.Ytlnmhfhdjnenoaa
