/- The law DfaNil returns true for every text, every state and every byte, and changes nothing: no conditions. -/
import Derived.Test.YtpnnedkpbmilkaaRows
import Derived.ProofKit
import Derived.Test.YtpnnedkpbmilkaaPLaw5
set_option linter.unusedVariables false
namespace Go.Proofs.Ytpnnedkpbmilkaa
open Go.ChangeShapes Go.WideShapes Go.ChangeAt Go.RowKit
open Go.ChangeMaps (open_string shut_string)
open Go.VC

theorem own_ : ownKnob Try.prog.godebug = none := by kernel_rfl

theorem kept_of_agr {W W' : World} {may : MemPlace → Prop} (he : Env W W') (h : Agr (Old W.heap) W.heap W'.heap) : W.keptBut W' may := by
  refine ⟨he.os, he.output, fun i hi => ?_⟩
  rw [h i hi]
  split <;> simp_all
theorem frozen_of_agr {W W' : World} (h : Agr (Old W.heap) W.heap W'.heap) (a : Addr) (ha : a.block < W.heap.size) : W'.frozen? a = W.frozen? a := by
  unfold World.frozen?
  rw [h a.block ha]
section
variable {H : Type} {enc : TypeId × Value → H} {P : Program}
/-- What was there is as it was: the law's answer. -/
theorem post_of_agr {f : Func} {s : ChangeSpec} {apart fresh handsOn again : Bool} {W W' : World} {args : Array Value} {v : Value} {ds gs : List (DataW H)} {before pa pv : List MemPlace}
    (hW : DataW.Whole enc P f.params.toList s.vars apart W args.toList ds gs before)
    (hres : ∀ (b : Nat) (sp : Nat → Bool) (hd : Bool), DataW.TrodAll enc P W' b sp hd f.resultTypes.toList (v.resultList f.resultTypes.size) (s.fn H (ds ++ gs)).results [])
    (hargs : ∀ sp : Nat → Bool, (∀ p ∈ before, sp p.block = true) → DataW.TrodAll enc P W' 0 sp true f.params.toList args.toList (s.fn H (ds ++ gs)).args pa)
    (hvars : ∀ sp : Nat → Bool, (∀ p ∈ before, sp p.block = true) → DataW.TrodVars enc P W' sp s.vars (s.fn H (ds ++ gs)).vars pv)
    (hps : before = pa ++ pv) (he : Env W W') (ha : Agr (Old W.heap) W.heap W'.heap)
    (hok : ∀ (j : Nat) (t : TypeId) (r : Value), f.resultTypes[j]? = some t → (v.resultList f.resultTypes.size)[j]? = some r → Value.okWide P W' .any 0 t r) :
    s.post enc P f apart fresh handsOn again W args v W' := by
  have hlt := hW.lt
  have hsp : ∀ p ∈ before, (fun b => decide (b < W.heap.size)) p.block = true := fun p hp => decide_eq_true (hlt p hp)
  have hk : W.keptBut W' (fun _ => False) := kept_of_agr he ha
  refine ⟨ds, gs, before, [], pa, pv, hW, hres _ _ _, hargs _ hsp, hvars _ hsp, World.keptBut_mono (fun p hp => hp.elim) hk, fun _ => ?_⟩
  obtain ⟨_, _, _, _, _, hz, hn⟩ := hW
  have hm : ∀ p, p ∈ ([] ++ pa) ++ pv ↔ p ∈ before := fun p => by rw [hps, List.nil_append]
  refine ⟨hok, _, _, ([] ++ pa) ++ pv, ⟨[] ++ pa, pv, trodAll_append (hargs _ (fun _ _ => rfl)) (hres _ _ _), hvars _ (fun _ _ => rfl), rfl, ?_, ?_⟩, ?_⟩
  · intro b off hp
    have hb := (hm _).1 hp
    rw [frozen_of_agr ha _ (hlt _ hb)]
    exact hz b off hb
  · intro hap
    have := hn hap
    rw [hps] at this
    simpa using this
  · intro p hp _
    rw [hps]
    simpa using hp
theorem trod_b {w : World} {base : Nat} {sp : Nat → Bool} {hd : Bool} {t : TypeId} {b : Bool} (h : P.underlying t = some .bool) : DataW.Trod enc P w base sp hd t (.bool b) (.lit (.bool b)) [] := ⟨1, by simp [DataW.trod, Value.cells, h]⟩
end

set_option maxRecDepth 100000 in
theorem nil_lifted (os : Os) (started : os.Started) (H : Type) (enc : TypeId × Value → H) :
    ReturnsInHanded {} Try.checked os 7 .any (Rows.dfaNilSpec.pre6 enc Try.prog Try.f7 Rows.dfaNilRow.domain false) (Rows.dfaNilSpec.post enc Try.prog Try.f7 false true false false) := by
  refine returnsInHanded_of_change (C := Try.checked) own_ started (by kernel_rfl) Try.func7
    (ChangeSpec.witness6 (enc := enc) (C := Try.checked) false ⟨#[], #[.string ⟨#[]⟩, .int .i64 0, .int .u8 0], []⟩ 8 (by kernel_rfl) (by kernel_rfl) (by kernel_rfl) (by kernel_rfl)) ?_
  intro W base args ds gs before hval0 hW hcnd _
  have hval : ∀ (j : Nat) t v, Try.f7.params[j]? = some t → args[j]? = some v → Value.okWide Try.prog W .any base t v := hval0
  have hW' := hW
  obtain ⟨p, q, hA0, hV, rfl, hfz, hnd⟩ := hW
  have hA : DataW.TrodAll enc Try.prog W 0 (fun _ => true) true [9, 3, 5] args.toList ds p := hA0
  obtain ⟨v0, v1, v2, d0, d1, d2, p0, p1, p2, rfl, rfl, rfl, h0, h1, h2⟩ := trodAll_three hA
  obtain ⟨rfl, rfl⟩ := trodVars_none hV
  have u1 : Try.prog.underlying 3 = some (.int .i64) := rfl
  have u2 : Try.prog.underlying 5 = some (.int .u8) := rfl
  have u4 : Try.prog.underlying 4 = some .bool := rfl
  obtain ⟨s, rfl, rfl, rfl, hs⟩ := open_string strT (hval 0 9 v0 rfl rfl) h0
  obtain ⟨n, rfl, rfl, rfl, wn⟩ := open_int u1 (hval 1 3 v1 rfl rfl) h1
  obtain ⟨b, rfl, rfl, rfl, wb⟩ := open_int u2 (hval 2 5 v2 rfl rfl) h2
  clear hA0 hval0
  simp only [List.append_nil] at hW'
  have hb : 0 ≤ b ∧ b < 256 := by
    simp only [Lit.wf, Bool.and_eq_true, decide_eq_true_eq] at wb
    have h1 : IntKind.u8.min = 0 := rfl
    have h2 : IntKind.u8.max = 255 := rfl
    omega
  obtain ⟨b', rfl⟩ := Int.eq_ofNat_of_zero_le hb.1
  refine ((nil_c s n b' (by omega) hs W.heap) W rfl).2.mono fun e W' ⟨v, he, henv, hv, ha⟩ => ?_
  subst he; subst hv
  exact ⟨_, rfl, post_of_agr (pa := []) (pv := []) hW' (fun _ _ _ => trodAll_mk1 (trod_b u4)) (fun sp _ => trodAll_mk3 (shut_string strT hs) (shut_int u1 wn) (shut_int u2 wb)) (fun _ _ => rfl) rfl henv ha (ok_one (by kernel_rfl) rfl (okWide_bool_mk u4 true))⟩

theorem dfaNil_holds : Rows.DfaNilSaid :=
  OpenClaim.holds_of_wide 7 Try.f7 rfl rfl rfl rfl rfl rfl rfl ⟨rfl, rfl, rfl, rfl, rfl⟩ rfl rfl rfl rfl rfl (by kernel_rfl) Try.func7 (by kernel_rfl)
    (of_decide_eq_true (by kernel_rfl)) (by unfold Func.isWrapper; first | (rw [if_pos (by decide +kernel)]; kernel_rfl) | (rw [if_neg (by decide +kernel)]; exact ⟨rfl, rfl⟩))
    (fun os started H enc _ => nil_lifted os started H enc)

#print axioms dfaNil_holds
end Go.Proofs.Ytpnnedkpbmilkaa
