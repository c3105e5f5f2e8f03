/- NfaMembers: of any expression without signs and of any text (up to 1048576 bytes together): the automaton that nfa.Build makes takes the text just where the definition of membership says so. -/
import Derived.Test.YtlnmhfhdjnenoaaGreatDoorKNr7
import Derived.Test.YtlnmhfhdjnenoaaGreatDoorCards
import Derived.Test.YtlnmhfhdjnenoaaGreatDoorTie
import Derived.Deep.DeepHandedRow
set_option linter.unusedVariables false
set_option linter.unusedSimpArgs false
namespace Go.Proofs.YtlnmhfhdjnenoaaGreatDoor
open Go.ChangeShapes Go.WideShapes Go.ChangeAt Go.RowKit
open Go.ChangeMaps (open_string)
open Go.VC

theorem nfaMembers_met (os : Os) : laidMet Tryz.prog Rows.nfaMembersUptoRow.laid ((laidW4 os).forCall (fun _ _ => 0) ⟨#[], #[.string ⟨#[]⟩, .string ⟨#[]⟩], []⟩).memory :=
  laidMet_of_run' 100 (by kernel_rfl) (by kernel_rfl)
theorem nfaMembers_reads (os : Os) {H : Type} (enc : TypeId × Value → H) : ∃ places, DataW.whole enc Tryz.prog ((laidW4 os).forCall (fun _ _ => 0) ⟨#[], #[.string ⟨#[]⟩, .string ⟨#[]⟩], []⟩).memory Tryz.f4.params.toList (Rows.OpenSpec.upto Rows.nfaMembersSpec).bare.plain.vars false (#[.string ⟨#[]⟩, .string ⟨#[]⟩] : Array Value).toList 8 = some ([.lit (.string []), .lit (.string [])], [], places) :=
  ⟨[], by kernel_rfl⟩
set_option maxRecDepth 100000 in
theorem nfaMembers_lifted (os : Os) (started : os.Started) (H : Type) (enc : TypeId × Value → H) (F : Stop.Interp) :
    ReturnsInHanded {} Tryz.checked os 4 .any ((Rows.OpenSpec.upto Rows.nfaMembersSpec).preRow enc Tryz.prog Tryz.f4 Rows.nfaMembersUptoRow.domain false Rows.nfaMembersUptoRow.laid) (((Rows.OpenSpec.upto Rows.nfaMembersSpec).at F).post enc Tryz.prog Tryz.f4 false true false false) := by
  obtain ⟨places, hx⟩ := nfaMembers_reads os enc
  refine returnsInHanded_of_row (C := Tryz.checked) (s := Rows.OpenSpec.upto Rows.nfaMembersSpec) own_ started (by kernel_rfl) Tryz.func4
    (witness_row_at (enc := enc) (C := Tryz.checked) false (laidW4 os) #[.string ⟨#[]⟩, .string ⟨#[]⟩] rfl (by kernel_rfl) (by kernel_rfl) (by kernel_rfl)
      (OpenSpec.preRow_of_cond 8 hx (by kernel_rfl) (fun k hk => by cases hk; kernel_rfl) (by kernel_rfl) (nfaMembers_met os))) ?_
  intro W base args ds gs before hval0 hW _ hcond _ hL _ _
  have hk := hcond _ rfl
  have hval : ∀ (j : Nat) t v, Tryz.f4.params[j]? = some t → args[j]? = some v → Value.okWide Tryz.prog W .any base t v := hval0
  have hW' := hW
  obtain ⟨p, q, hA0, hV, rfl, hfz, hnd⟩ := hW
  have hA : DataW.TrodAll enc Tryz.prog W 0 (fun _ => true) true [9, 9] args.toList ds p := hA0
  obtain ⟨v0, vs0, d0, ds0, p0, q0, e0, rfl, rfl, h0, r0⟩ := trodAll_cons hA
  obtain ⟨v1, vs1, d1, ds1, p1, q1, rfl, rfl, rfl, h1, r1⟩ := trodAll_cons r0
  obtain ⟨rfl, rfl, rfl⟩ := trodAll_nil r1
  obtain rfl : args = #[v0, v1] := by cases args; simp_all
  obtain ⟨rfl, rfl⟩ := trodVars_none hV
  have hb := small_of hk
  obtain ⟨s0, rfl, rfl, rfl, hs0⟩ := open_string Tryz.underlying9 (hval 0 9 v0 rfl rfl) h0
  obtain ⟨s1, rfl, rfl, rfl, hs1⟩ := open_string Tryz.underlying9 (hval 1 9 v1 rfl rfl) h1
  simp only [List.append_nil, Rows.uptoBulkAll, Rows.uptoBulk, Array.length_toList] at hb
  refine ((nfaMembers_q s0 s1 (InW W) W.heap (by have : s0.data.size = s0.size := rfl; omega) (by have : s1.data.size = s1.size := rfl; omega) (esc_of_laid hL)) W rfl).2.mono fun e W' ⟨v, he, henv, hv, hag⟩ => ?_
  subst he; subst hv
  exact ⟨_, rfl, post_true hW' rfl ⟨rfl, rfl, rfl⟩ laid_ (by kernel_rfl) rfl Tryz.underlying4 henv hag⟩

theorem nfaMembers_said : Rows.NfaMembersUptoSaid :=
  OpenClaim.holds_of_cond 4 Tryz.f4 rfl rfl rfl rfl rfl rfl rfl ⟨rfl, rfl, rfl, rfl, rfl⟩ rfl rfl rfl rfl rfl (by kernel_rfl) Tryz.func4 (by kernel_rfl)
    (of_decide_eq_true (by kernel_rfl)) (by unfold Func.isWrapper; first | (rw [if_pos (by decide +kernel)]; kernel_rfl) | (rw [if_neg (by decide +kernel)]; exact ⟨rfl, rfl⟩))
    (fun os started H enc _ F => by rw [OpenClaim.pre_eq_preRow]; exact nfaMembers_lifted os started H enc F)

theorem nfaMembers_plain (f : FuncId) (fn : Func) (hf : Tryz.pinned.checked.prog.funcNamed "loupe/loupelaw04.NfaMembers" = some f) (hfn : Tryz.pinned.checked.prog.funcs[f]? = some fn) :
    true = Tryz.pinned.checked.prog.looks [] ∧ ∀ (j : Nat) t, fn.params[j]? = some t → Tryz.pinned.checked.prog.wantsStandIn t = false := by
  obtain rfl : f = 4 := Option.some.inj ((show Tryz.prog.funcNamed "loupe/loupelaw04.NfaMembers" = some 4 by kernel_rfl).symm.trans hf) |>.symm
  obtain rfl : fn = Tryz.f4 := (Option.some.inj (Tryz.func4.symm.trans hfn)).symm
  refine ⟨by kernel_rfl, fun j t ht => ?_⟩
  have ht : (#[9, 9] : Array TypeId)[j]? = some t := ht
  have hm := Array.mem_of_getElem? ht
  simp only [List.mem_toArray, List.mem_cons, List.not_mem_nil, or_false] at hm
  rcases hm with rfl | rfl
  · exact (show Tryz.prog.wantsStandIn 9 = false by kernel_rfl)
  · exact (show Tryz.prog.wantsStandIn 9 = false by kernel_rfl)
theorem nfaMembers_holds : Rows.NfaMembersUptoCardSaid :=
  Claim7.holds_tied_plain_at .later [] _ _ _ _ nfaMembers_said (fun _ h => by cases h) (by kernel_rfl) (fun _ h => by cases h) nfaMembersUpto_row_tie rfl ⟨rfl, rfl⟩ (by kernel_rfl) rfl nfaMembers_plain (by kernel_rfl)

#print axioms nfaMembers_holds
end Go.Proofs.YtlnmhfhdjnenoaaGreatDoor
