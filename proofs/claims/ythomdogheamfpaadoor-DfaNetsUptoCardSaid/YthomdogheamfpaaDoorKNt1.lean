/- The law DfaNets returns true for every net and every integer, where what it reads is of bulk at most 1048576, and changes nothing: no other condition. -/
import Derived.Test.YthomdogheamfpaaDoorKS8
import Derived.Test.YthomdogheamfpaaDoorCards
import Derived.Test.YthomdogheamfpaaDoorTie
import Derived.Deep.DeepHandedRow
/- The law DfaNets: its walk. -/
set_option linter.unusedVariables false
set_option linter.unusedSimpArgs false
set_option maxRecDepth 100000
namespace Go.Proofs.YthomdogheamfpaaDoor
open Go.VC
attribute [local irreducible] mRun gRun atRun
theorem int_wf5 {x : Int} (h : inK .i64 x) : (Lit.int .i64 x).wf = true := by
  unfold Lit.wf
  simp only [Bool.and_eq_true, decide_eq_true_eq]
  exact h
def edLits (e : EdM) : List Lit := [.int .i64 e.fr, .int .i64 e.to, .bool e.sil, .int .u64 (wd e.set 0), .int .u64 (wd e.set 1), .int .u64 (wd e.set 2), .int .u64 (wd e.set 3)]
theorem ed_lits (e : EdM) (h : e.Ok) : Tryd.prog.keyLits 3 75 (edL e) = some (edLits e) := by
  have c0 : Tryd.prog.cellsOf 75 = 7 := by kernel_rfl
  have c1 : Tryd.prog.cellsOf 73 = 4 := by kernel_rfl
  have c2 : Tryd.prog.cellsOf 69 = 1 := by kernel_rfl
  have c3 : Tryd.prog.cellsOf 3 = 1 := by kernel_rfl
  have c4 : Tryd.prog.cellsOf 4 = 1 := by kernel_rfl
  simp [Program.keyLits, Tryd.underlying75, Tryd.underlying73, Tryd.underlying69, Tryd.underlying3, Tryd.underlying4, c0, c1, c2, c3, c4, edL, edLits, set_wf, List.range, List.range.loop, int_wf5 h.1, int_wf5 h.2]
theorem ed_neq (e : EdM) (h : e.Ok) {x y : Operand} {S : Nat → Prop} {H : Heap} {K : Value → Prop} (k : K (.bool false)) :
    VDet Tryd.prog (do eqGuard .neq 75 x y (.agg (edL e).toArray) (.agg (edL e).toArray); binOp .neq 75 (.agg (edL e).toArray) (.agg (edL e).toArray)) S H K :=
  vneq (m := 3) (la := edLits e) (lb := edLits e) (r := true) (by kernel_rfl) (by decide) (Tryd.eqGuardType75) rfl rfl (ed_lits e h) (ed_lits e h) (by simp) k
set_option maxHeartbeats 16000000 in
theorem dfaNets_p (v : Value) (a : NfM) (b : Int) (S : Nat → Prop) (H : Heap) (hS : ∀ k, S k → k < H.size) (h : NfV S H v a) (hpow : PowH Tryd.prog H) :
    Pure Tryd.prog 9 #[v, .int .i64 b] H (.bool true) := by
  have hr := h.1
  have hl := h.2.1
  refine FnOk.of_vc Tryd.func9 rfl (Tryd.call9 _) ?_
  (conv => whnf); refine nf_box h fun ea ec he h1 => ?_
  subst he
  intro p H1 hp hs1 hb1 ha1
  have st1 := (St.nil H).box hp hs1 hb1 ha1
  (conv => whnf); refine pures (speaks_p H1) fun H2 ha2 => ?_
  have st2 := st1.call ha2
  (conv => whnf); refine nf_load hr hl (st2.blk 0 rfl) ag55 trivial (h1.frame (st2.old.mono hS)) fun v2 hv2 => ?_
  (conv => whnf); refine VCall.mk (machine05_c (fun k hk => st2.up (hS k hk)) hv2) ?_
  rintro _ H3 ⟨ha3, a3, c3, rfl, hw3⟩
  obtain ⟨a3', c3', e3, st3⟩ := st2.got ha3 hw3
  injection e3 with e31 e32 e33
  subst e31; subst e33
  (conv => whnf); refine valloc _ [.int .i64 0, .int .i64 0, .int .i64 0, .slice none 0 0] nfa_z rfl ?_
  intro q H4 hq hs4 hb4 ha4
  have st4 := st3.box hq hs4 hb4 ha4
  (conv => whnf); refine stNB (cs := nfL a (.slice a3 a.edges.length c3)) st4 2 rfl rfl (Nat.le_refl _) rfl fun H5 st5 => ?_
  rw [splice_all (show (nfL a (.slice a3 a.edges.length c3)).length = 4 from rfl)] at st5
  (conv => whnf); refine nf_load hr hl (st5.blk 2 rfl) ag58 trivial (st5.view 1 rfl) fun v6 hv6 => ?_
  (conv => whnf); refine VCall.mk (detP_c (b := b) (S := Old H5) (fun k hk => hk) hv6 (hpow.agr st5.old)) ?_
  rintro r6 H6 ⟨ha6, hr6⟩
  have st6 := st5.call ha6
  obtain ⟨vA, e0, hrA, hrE⟩ : ∃ vA e0, r6 = .tuple #[vA, .int .i64 e0] ∧ (match detB a b with | .error e => vA = .pointer none ∧ e0 = e | .ok F => e0 = 0 ∧ ProgOk a F H5 H6 vA) := by
    cases hd : detB a b with
    | error e => rw [hd] at hr6; exact ⟨_, _, hr6, rfl, rfl⟩
    | ok F => rw [hd] at hr6; obtain ⟨w, h1, h2⟩ := hr6; exact ⟨w, 0, h1, rfl, h2⟩
  subst hrA
  (conv => whnf); refine nf_load hr hl (st6.blk 0 rfl) ag55 trivial (h1.frame (st6.old.mono hS)) fun v7 hv7 => ?_
  (conv => whnf); refine VCall.mk (doc05_c (fun k hk => st6.up (hS k hk)) hv7) ?_
  rintro _ H7 ⟨ha7, a7, c7, rfl, hw7⟩
  obtain ⟨a7', c7', e7, st7⟩ := st6.got ha7 hw7
  injection e7 with e71 e72 e73
  subst e71; subst e73
  (conv => whnf); refine VCall.mk (detQ_c (b := b) (S := Old H7) (fun k hk => hk) ⟨hr, hl, a7, c7, rfl, st7.view 3 rfl⟩) ?_
  rintro r8 H8 ⟨ha8, l, hl8, ho8, hr8⟩
  obtain ⟨hrB, hrF⟩ : r8 = .tuple #[.agg l.toArray, .int .i64 e0] ∧ (match detB a b with | .error e => e0 = e ∧ vA = .pointer none | .ok F => e0 = 0 ∧ ProgOk a F H5 H6 vA ∧ DocOk a F H7 H8 (.agg l.toArray)) := by
    cases hd : detB a b with
    | error e =>
      rw [hd] at hr8 hrE
      obtain ⟨h1, rfl⟩ := hrE
      exact ⟨hr8, rfl, h1⟩
    | ok F =>
      rw [hd] at hr8 hrE
      obtain ⟨rfl, h2⟩ := hrE
      exact ⟨hr8.1, rfl, h2, hr8.2⟩
  subst hrB
  have st8 := st7.call ha8
  have hp8 : Agr (Old H6) H6 H8 := ha7.trans (ha8.mono fun k hk => old_lt ha7 hk)
  (conv => whnf); refine valloc _ zD rfl (by kernel_rfl) ?_
  intro p9 H9 hp9 hs9 hb9 ha9
  have u9 := (St.nil H8).box hp9 hs9 hb9 ha9
  (conv => whnf); refine stNB (cs := l) u9 0 (by rw [hl8]; rfl) rfl (by rw [hl8]; decide) ho8 fun H10 u10 => ?_
  rw [splice_whole (by rw [hl8]; rfl)] at u10
  have h810 : Agr (Old H8) H8 H10 := u10.old
  have st10 := st8.cat u10
  have d1 : (e0 != e0) = false := by simp
  (conv => whnf); rw [d1]
  (conv => whnf)
  refine VLoop.mk [10] (fun i : Nat => [.int .i64 (i : Int)]) (fun i H' => i ≤ a.edges.length ∧ Agr (Old H10) H10 H') (fun i _ => a.edges.length - i) ?_ ?_
  · (conv => whnf)
    exact ⟨0, rfl, Nat.zero_le _, Agr.refl _ _⟩
  · rintro i H11 junk11 ⟨hi, ha11⟩
    have st11 := st10.call ha11
    (conv => whnf); refine fa fl55_3 ?_
    (conv => whnf); refine ld1 (v := .slice ea a.edges.length ec) ct53 (by rw [(st11.blk 0 rfl).cell]; rfl) trivial ?_
    (conv => whnf); refine VIte.mk (fun hz => ?_) (fun hz => ?_) <;> simp only [decide_eq_true_eq, decide_eq_false_iff_not] at hz
    · obtain ⟨e, he⟩ := get_some (l := a.edges) (k := i) (by omega)
      (conv => whnf); refine fa fl55_3 ?_
      (conv => whnf); refine ld1 (v := .slice ea a.edges.length ec) ct53 (by rw [(st11.blk 0 rfl).cell]; rfl) trivial ?_
      (conv => whnf); refine ixr (i := i) sl53 (h1.frame (st11.old.mono hS)) he rfl ?_
      rintro b6 o6 c6 hS6 hc6 ⟨rfl, hok⟩
      (conv => whnf); refine ldN (cs := edL e) ag72 hc6 trivial ?_
      (conv => whnf); refine valloc _ [.int .i64 0, .int .i64 0, .bool false, .int .u64 0, .int .u64 0, .int .u64 0, .int .u64 0] way_z rfl ?_
      intro x H12 hx hs12 hb12 ha12
      have u12 := (St.nil H11).box hx hs12 hb12 ha12
      (conv => whnf); refine stNB (cs := edL e) u12 0 rfl rfl (Nat.le_refl _) rfl fun H13 u13 => ?_
      rw [splice_all (show (edL e).length = 7 from rfl)] at u13
      have ha13 : Agr (Old H10) H10 H13 := ha11.trans (u13.old.mono fun k hk => old_lt ha11 hk)
      have st13 := st10.call ha13
      have hbx := u13.blk 0 rfl
      (conv => whnf); refine VDraw.lex rfl (by kernel_rfl) ?_
      (conv => whnf); refine fa fl58_3 ?_
      (conv => whnf); refine ld1 (v := .slice a3 a.edges.length c3) ct56 (by rw [(st13.blk 2 rfl).cell]; rfl) trivial ?_
      (conv => whnf); refine ixr (i := i) sl56 (st13.view 1 rfl) he rfl ?_
      rintro b7 o7 c7 hS7 hc7 ⟨rfl, -⟩
      (conv => whnf); refine ldN (cs := edL e) ag75 hc7 trivial ?_
      (conv => whnf); refine fa fl72_0 ?_
      (conv => whnf); refine ld1 (v := .int .i64 e.fr) ct3 (by rw [hbx.cell]; rfl) trivial ?_
      (conv => whnf); refine fa fl72_1 ?_
      (conv => whnf); refine ld1 (v := .int .i64 e.to) ct3 (by rw [hbx.cell]; rfl) trivial ?_
      (conv => whnf); refine fa fl72_2 ?_
      (conv => whnf); refine ld1 (v := .bool e.sil) ct4 (by rw [hbx.cell]; rfl) trivial ?_
      (conv => whnf); refine fa fl72_3 ?_
      (conv => whnf); refine ldN (cs := setL e.set) ag70 (hbx.cells fun j v hv => edL_set e j v hv) trivial ?_
      (conv => whnf); refine edge_build e ?_
      (conv => whnf); refine ed_neq e hok ?_
      (conv => whnf); rw [w64 (x := (i : Int) + 1) (by omega) (by omega)]
      exact ⟨rfl, i + 1, by simp, ⟨by omega, ha13⟩, by omega⟩
    · cases hd : detB a b with
      | error e =>
        rw [hd] at hrF
        obtain ⟨rfl, rfl⟩ := hrF
        have hee := detB_err hd
        have d2 : (e0 != 0) = true := by simpa using hee.1
        (conv => whnf); rw [d2]
        (conv => whnf); refine peqN ptrA ?_
        (conv => whnf)
        exact ⟨rfl, st11.old⟩
      | ok F =>
        rw [hd] at hrF
        obtain ⟨rfl, ⟨o, hvA, hL, hnA⟩, D, hvD, hDok, hLD, hnD⟩ := hrF
        obtain ⟨m, -, hm1, hm2, hdet⟩ := detB_ok hd
        obtain ⟨hF1, hF2, hFn, hF0⟩ := detN_len hm1 hdet
        have hvA0 := hvA
        obtain ⟨pb, rfl, hown, hok, -⟩ := hvA0
        have hof : o.final.length = F.length := by rw [hok.fl]; exact hnA
        obtain ⟨q1, q2⟩ := both5 hFn hL hLD hnA hnD hDok.fl hof
        have h611 : Agr (Old H6) H6 H11 := (hp8.trans (h810.mono fun k hk => old_lt hp8 hk)).trans (ha11.mono fun k hk => old_lt (hp8.trans (h810.mono fun k hk => old_lt hp8 hk)) hk)
        have h811 : Agr (Old H8) H8 H11 := h810.trans (ha11.mono fun k hk => old_lt h810 hk)
        have sA : AutoV (Old H11) H11 (.pointer (some ⟨pb, 0, none⟩)) (some o) := (hvA.frame (h611.mono fun k hk => hk.2)).mono fun k hk => old_lt h611 hk.2
        have sD : DfaV (Old H11) H11 (.agg l.toArray) D := (hvD.frame (h811.mono fun k hk => hk.2)).mono fun k hk => old_lt h811 hk.2
        (conv => whnf); refine pneqS ptrA ?_
        (conv => whnf); refine ldN (cs := l) (by rw [hl8]; exact ag35) ((st11.blk 4 rfl).cells fun j v hv => by rw [Nat.zero_add]; exact hv) trivial ?_
        (conv => whnf); refine pures (same_p (fun k hk => hk) sA sD hDok (by rw [hnA, hnD]) q1 q2) fun H12 ha12 => ?_
        (conv => whnf)
        exact ⟨rfl, st11.old.trans (ha12.mono fun k hk => st11.up hk)⟩
end Go.Proofs.YthomdogheamfpaaDoor
set_option linter.unusedVariables false
set_option linter.unusedSimpArgs false
namespace Go.Proofs.YthomdogheamfpaaDoor
open Go.ChangeShapes Go.WideShapes Go.ChangeAt Go.RowKit
open Go.ChangeMaps (open_string)
open Go.VC

theorem dfaNets_met (os : Os) : laidMet Tryd.prog Rows.dfaNetsUptoRow.laid ((laidW os).forCall (fun _ _ => 0) ⟨#[], #[.agg #[.int .i64 0, .int .i64 0, .int .i64 0, .slice none 0 0], .int .i64 0], []⟩).memory :=
  laidMet_of_run' 100 (by kernel_rfl) (by kernel_rfl)
theorem dfaNets_reads (os : Os) {H : Type} (enc : TypeId × Value → H) : ∃ places, DataW.whole enc Tryd.prog ((laidW os).forCall (fun _ _ => 0) ⟨#[], #[.agg #[.int .i64 0, .int .i64 0, .int .i64 0, .slice none 0 0], .int .i64 0], []⟩).memory Tryd.f9.params.toList (Rows.OpenSpec.upto Rows.dfaNetsSpec).bare.plain.vars false (#[.agg #[.int .i64 0, .int .i64 0, .int .i64 0, .slice none 0 0], .int .i64 0] : Array Value).toList 8 = some ([.agg [.lit (.int .i64 0), .lit (.int .i64 0), .lit (.int .i64 0), .nil], .lit (.int .i64 0)], [], places) :=
  ⟨[], by kernel_rfl⟩
set_option maxRecDepth 100000 in
theorem dfaNets_lifted (os : Os) (started : os.Started) (H : Type) (enc : TypeId × Value → H) (F : Stop.Interp) :
    ReturnsInHanded {} Tryd.checked os 9 .any ((Rows.OpenSpec.upto Rows.dfaNetsSpec).preRow enc Tryd.prog Tryd.f9 Rows.dfaNetsUptoRow.domain false Rows.dfaNetsUptoRow.laid) (((Rows.OpenSpec.upto Rows.dfaNetsSpec).at F).post enc Tryd.prog Tryd.f9 false true false false) := by
  obtain ⟨places, hx⟩ := dfaNets_reads os enc
  refine returnsInHanded_of_row (C := Tryd.checked) (s := Rows.OpenSpec.upto Rows.dfaNetsSpec) own_ started (by kernel_rfl) Tryd.func9
    (witness_row_at (enc := enc) (C := Tryd.checked) false (laidW os) #[.agg #[.int .i64 0, .int .i64 0, .int .i64 0, .slice none 0 0], .int .i64 0] rfl (by kernel_rfl) (by kernel_rfl) (by kernel_rfl)
      (OpenSpec.preRow_of_cond 8 hx (by kernel_rfl) (fun k hk => by cases hk; kernel_rfl) (by kernel_rfl) (dfaNets_met os))) ?_
  intro W base args ds gs before hval0 hW _ hcond _ hL _ _
  have hk := hcond _ rfl
  have hval : ∀ (j : Nat) t v, Tryd.f9.params[j]? = some t → args[j]? = some v → Value.okWide Tryd.prog W .any base t v := hval0
  have hW' := hW
  obtain ⟨p, q, hA0, hV, rfl, hfz, hnd⟩ := hW
  have hA : DataW.TrodAll enc Tryd.prog W 0 (fun _ => true) true [55, 3] args.toList ds p := hA0
  obtain ⟨v0, vs0, d0, ds0, p0, q0, e0, rfl, rfl, h0, r0⟩ := trodAll_cons hA
  obtain ⟨v1, vs1, d1, ds1, p1, q1, rfl, rfl, rfl, h1, r1⟩ := trodAll_cons r0
  obtain ⟨rfl, rfl, rfl⟩ := trodAll_nil r1
  obtain rfl : args = #[v0, v1] := by cases args; simp_all
  obtain ⟨rfl, rfl⟩ := trodVars_none hV
  have hb := small_of hk
  obtain ⟨n1, rfl, rfl, rfl, wn1⟩ := open_int Tryd.underlying3 (hval 1 3 v1 rfl rfl) h1
  simp only [List.append_nil, Rows.uptoBulkAll, Rows.uptoBulk, Array.length_toList] at hb
  obtain ⟨a0, hnet0, hz0⟩ := open_net5 (hval 0 _ v0 rfl rfl) h0 (by omega)
  refine ((dfaNets_p v0 a0 n1 (InW W) W.heap (fun k hk => hk) hnet0 (pow_of_laid hL)) W rfl).2.mono fun e W' ⟨v, he, henv, hv, hag⟩ => ?_
  subst he; subst hv
  exact ⟨_, rfl, post_true hW' rfl ⟨rfl, rfl, rfl⟩ laid_ (by kernel_rfl) rfl Tryd.underlying4 henv hag⟩

theorem dfaNets_said : Rows.DfaNetsUptoSaid :=
  OpenClaim.holds_of_cond 9 Tryd.f9 rfl rfl rfl rfl rfl rfl rfl ⟨rfl, rfl, rfl, rfl, rfl⟩ rfl rfl rfl rfl rfl (by kernel_rfl) Tryd.func9 (by kernel_rfl)
    (of_decide_eq_true (by kernel_rfl)) (by unfold Func.isWrapper; first | (rw [if_pos (by decide +kernel)]; kernel_rfl) | (rw [if_neg (by decide +kernel)]; exact ⟨rfl, rfl⟩))
    (fun os started H enc _ F => by rw [OpenClaim.pre_eq_preRow]; exact dfaNets_lifted os started H enc F)

theorem dfaNets_plain (f : FuncId) (fn : Func) (hf : Tryd.pinned.checked.prog.funcNamed "loupe/loupelaw05.DfaNets" = some f) (hfn : Tryd.pinned.checked.prog.funcs[f]? = some fn) :
    false = Tryd.pinned.checked.prog.looks [] ∧ ∀ (j : Nat) t, fn.params[j]? = some t → Tryd.pinned.checked.prog.wantsStandIn t = false := by
  obtain rfl : f = 9 := Option.some.inj ((show Tryd.prog.funcNamed "loupe/loupelaw05.DfaNets" = some 9 by kernel_rfl).symm.trans hf) |>.symm
  obtain rfl : fn = Tryd.f9 := (Option.some.inj (Tryd.func9.symm.trans hfn)).symm
  refine ⟨by kernel_rfl, fun j t ht => ?_⟩
  have ht : (#[55, 3] : Array TypeId)[j]? = some t := ht
  have hm := Array.mem_of_getElem? ht
  simp only [List.mem_toArray, List.mem_cons, List.not_mem_nil, or_false] at hm
  rcases hm with rfl | rfl
  · exact (show Tryd.prog.wantsStandIn 55 = false by kernel_rfl)
  · exact (show Tryd.prog.wantsStandIn 3 = false by kernel_rfl)
theorem dfaNets_holds : Rows.DfaNetsUptoCardSaid :=
  Claim7.holds_tied_plain_at .later [] _ _ _ _ dfaNets_said (fun _ h => by cases h) (by kernel_rfl) (fun _ h => by cases h) dfaNetsUpto_row_tie rfl ⟨rfl, rfl⟩ (by kernel_rfl) rfl dfaNets_plain (by kernel_rfl)

#print axioms dfaNets_holds
end Go.Proofs.YthomdogheamfpaaDoor
