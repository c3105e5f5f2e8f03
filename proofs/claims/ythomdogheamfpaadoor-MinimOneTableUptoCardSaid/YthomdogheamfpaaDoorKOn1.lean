/- The law MinimOneTable returns true for every two tables, where what it reads is of bulk at most 1048576, and changes nothing: no other condition. -/
import Derived.Test.YthomdogheamfpaaDoorKN6
import Derived.Test.YthomdogheamfpaaDoorCards
import Derived.Test.YthomdogheamfpaaDoorTie
import Derived.Deep.DeepHandedRow
set_option linter.unusedVariables false
set_option linter.unusedSimpArgs false
namespace Go.Proofs.YthomdogheamfpaaDoor
open Go.ChangeShapes Go.WideShapes Go.ChangeAt Go.RowKit
open Go.ChangeMaps (open_string)
open Go.VC

theorem minimOneTable_met (os : Os) : laidMet Tryd.prog Rows.minimOneTableUptoRow.laid ((laidW7 os).forCall (fun _ _ => 0) ⟨#[], #[.agg #[.slice none 0 0, .slice none 0 0, .slice none 0 0], .agg #[.slice none 0 0, .slice none 0 0, .slice none 0 0]], []⟩).memory :=
  laidMet_of_run' 100 (by kernel_rfl) (by kernel_rfl)
theorem minimOneTable_reads (os : Os) {H : Type} (enc : TypeId × Value → H) : ∃ places, DataW.whole enc Tryd.prog ((laidW7 os).forCall (fun _ _ => 0) ⟨#[], #[.agg #[.slice none 0 0, .slice none 0 0, .slice none 0 0], .agg #[.slice none 0 0, .slice none 0 0, .slice none 0 0]], []⟩).memory Tryd.f5.params.toList (Rows.OpenSpec.upto Rows.minimOneTableSpec).bare.plain.vars false (#[.agg #[.slice none 0 0, .slice none 0 0, .slice none 0 0], .agg #[.slice none 0 0, .slice none 0 0, .slice none 0 0]] : Array Value).toList 8 = some ([.agg [.nil, .nil, .nil], .agg [.nil, .nil, .nil]], [], places) :=
  ⟨[], by kernel_rfl⟩
set_option maxRecDepth 100000 in
theorem minimOneTable_lifted (os : Os) (started : os.Started) (H : Type) (enc : TypeId × Value → H) (F : Stop.Interp) :
    ReturnsInHanded {} Tryd.checked os 5 .any ((Rows.OpenSpec.upto Rows.minimOneTableSpec).preRow enc Tryd.prog Tryd.f5 Rows.minimOneTableUptoRow.domain false Rows.minimOneTableUptoRow.laid) (((Rows.OpenSpec.upto Rows.minimOneTableSpec).at F).post enc Tryd.prog Tryd.f5 false true false false) := by
  obtain ⟨places, hx⟩ := minimOneTable_reads os enc
  refine returnsInHanded_of_row (C := Tryd.checked) (s := Rows.OpenSpec.upto Rows.minimOneTableSpec) own_ started (by kernel_rfl) Tryd.func5
    (witness_row_at (enc := enc) (C := Tryd.checked) false (laidW7 os) #[.agg #[.slice none 0 0, .slice none 0 0, .slice none 0 0], .agg #[.slice none 0 0, .slice none 0 0, .slice none 0 0]] rfl (by kernel_rfl) (by kernel_rfl) (by kernel_rfl)
      (OpenSpec.preRow_of_cond 8 hx (by kernel_rfl) (fun k hk => by cases hk; kernel_rfl) (by kernel_rfl) (minimOneTable_met os))) ?_
  intro W base args ds gs before hval0 hW _ hcond _ hL _ _
  have hk := hcond _ rfl
  have hval : ∀ (j : Nat) t v, Tryd.f5.params[j]? = some t → args[j]? = some v → Value.okWide Tryd.prog W .any base t v := hval0
  have hW' := hW
  obtain ⟨p, q, hA0, hV, rfl, hfz, hnd⟩ := hW
  have hA : DataW.TrodAll enc Tryd.prog W 0 (fun _ => true) true [26, 26] args.toList ds p := hA0
  obtain ⟨v0, vs0, d0, ds0, p0, q0, e0, rfl, rfl, h0, r0⟩ := trodAll_cons hA
  obtain ⟨v1, vs1, d1, ds1, p1, q1, rfl, rfl, rfl, h1, r1⟩ := trodAll_cons r0
  obtain ⟨rfl, rfl, rfl⟩ := trodAll_nil r1
  obtain rfl : args = #[v0, v1] := by cases args; simp_all
  obtain ⟨rfl, rfl⟩ := trodVars_none hV
  have hb := small_of hk
  obtain ⟨cells0, next0, final0, htab0, hz0⟩ := open_table (hval 0 _ v0 rfl rfl) h0
  obtain ⟨cells1, next1, final1, htab1, hz1⟩ := open_table (hval 1 _ v1 rfl rfl) h1
  simp only [List.append_nil, Rows.uptoBulkAll, Rows.uptoBulk, Array.length_toList] at hb
  refine ((minimOneTable_p v0 cells0 next0 final0 v1 cells1 next1 final1 (InW W) W.heap (tabIn_of htab0 (by omega)) (tabIn_of htab1 (by omega)) (tabs_of_laid hL).1 (tabs_of_laid hL).2) W rfl).2.mono fun e W' ⟨v, he, henv, hv, hag⟩ => ?_
  subst he; subst hv
  exact ⟨_, rfl, post_true hW' rfl ⟨rfl, rfl, rfl⟩ laid_ (by kernel_rfl) rfl Tryd.underlying4 henv hag⟩

theorem minimOneTable_said : Rows.MinimOneTableUptoSaid :=
  OpenClaim.holds_of_cond 5 Tryd.f5 rfl rfl rfl rfl rfl rfl rfl ⟨rfl, rfl, rfl, rfl, rfl⟩ rfl rfl rfl rfl rfl (by kernel_rfl) Tryd.func5 (by kernel_rfl)
    (of_decide_eq_true (by kernel_rfl)) (by unfold Func.isWrapper; first | (rw [if_pos (by decide +kernel)]; kernel_rfl) | (rw [if_neg (by decide +kernel)]; exact ⟨rfl, rfl⟩))
    (fun os started H enc _ F => by rw [OpenClaim.pre_eq_preRow]; exact minimOneTable_lifted os started H enc F)

theorem minimOneTable_plain (f : FuncId) (fn : Func) (hf : Tryd.pinned.checked.prog.funcNamed "loupe/loupelaw07.MinimOneTable" = some f) (hfn : Tryd.pinned.checked.prog.funcs[f]? = some fn) :
    false = Tryd.pinned.checked.prog.looks [] ∧ ∀ (j : Nat) t, fn.params[j]? = some t → Tryd.pinned.checked.prog.wantsStandIn t = false := by
  obtain rfl : f = 5 := Option.some.inj ((show Tryd.prog.funcNamed "loupe/loupelaw07.MinimOneTable" = some 5 by kernel_rfl).symm.trans hf) |>.symm
  obtain rfl : fn = Tryd.f5 := (Option.some.inj (Tryd.func5.symm.trans hfn)).symm
  refine ⟨by kernel_rfl, fun j t ht => ?_⟩
  have ht : (#[26, 26] : Array TypeId)[j]? = some t := ht
  have hm := Array.mem_of_getElem? ht
  simp only [List.mem_toArray, List.mem_cons, List.not_mem_nil, or_false] at hm
  rcases hm with rfl | rfl
  · exact (show Tryd.prog.wantsStandIn 26 = false by kernel_rfl)
  · exact (show Tryd.prog.wantsStandIn 26 = false by kernel_rfl)
theorem minimOneTable_holds : Rows.MinimOneTableUptoCardSaid :=
  Claim7.holds_tied_plain_at .later [] _ _ _ _ minimOneTable_said (fun _ h => by cases h) (by kernel_rfl) (fun _ h => by cases h) minimOneTableUpto_row_tie rfl ⟨rfl, rfl⟩ (by kernel_rfl) rfl minimOneTable_plain (by kernel_rfl)

#print axioms minimOneTable_holds
end Go.Proofs.YthomdogheamfpaaDoor
