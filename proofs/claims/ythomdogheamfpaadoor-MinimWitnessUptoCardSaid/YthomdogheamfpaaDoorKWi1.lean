/- The law MinimWitness returns true for every two tables and every string, where what it reads is of bulk at most 1048576, and changes nothing: no other condition. -/
import Derived.Test.YthomdogheamfpaaDoorKN5
import Derived.Test.YthomdogheamfpaaDoorKN4
import Derived.Test.YthomdogheamfpaaDoorKN6
import Derived.Test.YthomdogheamfpaaDoorCards
import Derived.Test.YthomdogheamfpaaDoorTie
import Derived.Deep.DeepHandedRow
/- louperef07.First, louperef09.Meets: the walks. -/
set_option linter.unusedVariables false
set_option linter.unusedSimpArgs false
set_option maxRecDepth 100000
namespace Go.Proofs.YthomdogheamfpaaDoor
open Go.VC
attribute [local irreducible] oneM mRun gRun atRun
theorem addP_v {B : Nat → Prop} {H0 H : Heap} {ps : List Pc} {b : Nat} {vs : List Value} {F : List NW} {n : Nd} {w : List Nat} {K : Value → Heap → Prop} (st : StB B H0 H ps) (i : Nat) (hp : ps[i]? = some (pPrs b vs F)) (hr : PrsP vs F) (h0 : n.s = 0) (hx0 : 0 ≤ n.x) (hx1 : n.x < 65536) (hy0 : 0 ≤ n.y) (hy1 : n.y < 65536) (hF : ∀ x ∈ F, x.1.s = 0) (hlen : F.length + 1 ≤ 5864062014805)
    (k : ∀ vs' F' H', StB B H0 H' (ps.set i (pPrs b vs' F')) → PrsP vs' F' → Add F n w F' → K (.tuple #[]) H') : VCall Tryd.prog 63 #[.pointer (some ⟨b, 0, none⟩), .int .i64 n.x, .int .i64 n.y, .string (bA w)] H K := by
  refine VCall.mk (add_c (StB.start (st.at_ i hp) fun k hk => (st.in_ i hp hk).2) hr h0 hx0 hx1 hy0 hy1 hF hlen) ?_
  rintro _ H' ⟨vs', F', rfl, st', hr', hadd⟩
  refine k vs' F' H' (st.upd i hp st'.old _ (st'.at_ 0 rfl) (fun k hk => ?_) (fun k hk => (st'.in_ 0 rfl hk).2) st'.size) hr' hadd
  have := (st'.in_ 0 rfl hk).1
  by_cases h1 : k < H.size
  · by_cases h2 : (pPrs b vs F).foot k
    · exact .inl h2
    · exact absurd ⟨h1, h2⟩ this
  · exact .inr (by omega)
theorem prs_z : (Tryd.prog.info? 121).bind (·.zero) = some (.agg (List.replicate 1026 (Value.slice none 0 0)).toArray) := by kernel_rfl
theorem prsS_nil (j : Nat) (H : Heap) : (prS [] j).ok H (.slice none 0 0) := by
  match j with
  | 0 => exact SlO.nil
  | 1 => exact SlO.nil
  | h + 2 => exact SlO.nil
theorem prs_new {H0 H : Heap} {ps : List Pc} {K : Value → Heap → Prop} (st : St H0 H ps) (k : ∀ b H', St H0 H' (ps ++ [pPrs b (List.replicate 1026 (.slice none 0 0)) []]) → K (.pointer (some ⟨b, 0, none⟩)) H') : VEff Tryd.prog (Instr.box 121 (.agg (List.replicate 1026 (Value.slice none 0 0)).toArray)) H K := by
  refine vbox (List.replicate 1026 (Value.slice none 0 0)) rfl ?_
  intro b H' hb hs hk ha
  have st1 := st.box hb hs hk ha
  have st2 := st1.fldNew (ss := prS []) ps.length (by rw [List.getElem?_append_right (Nat.le_refl _), Nat.sub_self]; rfl) prsS_nil
  refine k b H' ?_
  have e : (ps ++ [pB 121 b (List.replicate 1026 (Value.slice none 0 0))]).set ps.length (pF 121 b (List.replicate 1026 (.slice none 0 0)) (prS [])) = ps ++ [pPrs b (List.replicate 1026 (.slice none 0 0)) []] := by
    rw [List.set_append_right _ _ (Nat.le_refl _), Nat.sub_self]; rfl
  rw [e] at st2
  exact st2
theorem prsP_new : PrsP (List.replicate 1026 (.slice none 0 0)) [] := ⟨by simp, List.nodup_nil⟩
theorem BfsOk.size {g : Gr} {by_ : List Nat} {a : Nd} {F : List NW} {i k : Nat} (h : BfsOk g by_ a F i k) : ∀ (m : Nat) (y : NW), F[m]? = some y → y.2.length ≤ m := fun m => by
  induction m using Nat.strongRecOn with
  | _ m ih =>
    intro y hy
    rcases h.par m y hy with rfl | ⟨j, l, b, x, hx, -, e, -⟩
    · rw [h.zero] at hy; cases hy; exact Nat.le_refl _
    · have hyl : y.2.length = x.2.length + 1 := by rw [e, List.length_append]; rfl
      have hjm : j < m := by
        apply Classical.byContradiction
        intro hn
        rcases Nat.lt_or_eq_of_le (Nat.not_lt.1 hn) with hlt | rfl
        · rcases (h.up m j y x hlt hy hx).1 with h1 | ⟨h1, -⟩ <;> omega
        · rw [hx] at hy; cases hy; omega
      have := ih j hjm x hx
      omega
end Go.Proofs.YthomdogheamfpaaDoor
/- minim.first again, with a bound for the word's length; Differ, Outside. -/
set_option linter.unusedVariables false
set_option linter.unusedSimpArgs false
set_option maxRecDepth 100000
namespace Go.Proofs.YthomdogheamfpaaDoor
open Go.VC
attribute [local irreducible] mRun gRun atRun
set_option maxHeartbeats 32000000 in
theorem first_mL {S : Nat → Prop} {H : Heap} {va vb : Value} {a b : Option AM} {ask : Bool → Bool → Bool} {f : FuncId} (hS : ∀ k, S k → k < H.size) (hva : AutoV S H va a) (hvb : AutoV S H vb b) (hca : ∃ ls, CellsOk a ls) (hcb : ∃ ls, CellsOk b ls) (hf : ∀ (G : Heap) (x y : Bool), Pure Tryd.prog f #[.bool x, .bool y] G (.bool (ask x y))) :
    FnOk Tryd.prog 61 #[va, vb, .func (.func f) #[] #[]] H fun v H' => Agr (Old H) H H' ∧ ∃ w ok, v = .tuple #[.string (bA w), .bool ok] ∧ FirstR (askG ask a b) w ok ∧ w.length ≤ 4294967296 := by
  have sa := hva.steps
  have sb := hvb.steps
  have hla := cells_le hva
  have hlb := cells_le hvb
  have hpb : 0 < (cellsM b).length := by
    obtain ⟨ls, h⟩ := hcb
    exact cells_pos h
  have hVA : ∀ {G : Heap}, Agr (Old H) H G → AutoV S G va a := fun h => hva.frame (h.mono hS)
  have hVB : ∀ {G : Heap}, Agr (Old H) H G → AutoV S G vb b := fun h => hvb.frame (h.mono hS)
  have up : ∀ {G : Heap}, Agr (Old H) H G → ∀ k, S k → k < G.size := fun h k hk => old_lt h (hS k hk)
  refine FnOk.of_vc Tryd.func61 rfl (Tryd.call61 _) ?_
  (conv => whnf); refine VCall.mk (cells_o hS hva) ?_
  rintro _ H1 ⟨ha1, -, hw1⟩
  obtain ⟨aa, ac, rfl, st1⟩ := (St.nil H).got ha1 hw1
  (conv => whnf); refine VCall.mk (cells_o (up st1.old) (hVB st1.old)) ?_
  rintro _ H2 ⟨ha2, -, hw2⟩
  obtain ⟨ba, bc, rfl, st2⟩ := st1.got ha2 hw2
  (conv => whnf); refine appSS st2 0 1 sl83 rfl rfl hpb tSet_ones (by omega) (by decide) fun a3 c3 H3 st3 _ => ?_
  obtain ⟨sets, hsets⟩ : ∃ sets, sets = cellsM a ++ cellsM b := ⟨_, rfl⟩
  have hsl : (cellsM a).length + (cellsM b).length = sets.length := by rw [hsets, List.length_append]
  rw [hsl, ← hsets] at st3
  rw [hsl]
  (conv => whnf); refine VCall.mk (clsAtoms_c (S := Old H3) (fun k hk => hk) (st3.view 0 rfl) (by omega)) ?_
  rintro _ H4 ⟨ha4, a4, c4, rfl, h4⟩
  have st4 := st3.call ha4
  have hal := reps_len sets
  (conv => whnf); refine VCall.mk (reps7_c (S := Old H4) (fun k hk => hk) h4 hal) ?_
  rintro _ H5 ⟨ha5, ra, rc, rfl, hw5⟩
  obtain ⟨ra', rc', e5, st5⟩ := st4.got ha5 hw5
  injection e5 with e51 e52 e53
  subst e51; subst e53
  have hlt8 := reps_lt sets
  have hup2 : (repsM sets).Pairwise (· < ·) := by
    rw [reps_same (s := sets) (t := sets) fun x => Iff.rfl]
    exact atRun_up sets 256
  have hcov2 := reps_cov2 (os := [a, b]) (fun o ho => by
    rcases List.mem_cons.1 ho with rfl | ho
    · exact hca
    · rw [List.mem_singleton] at ho; subst ho; exact hcb) (sets := sets) (fun o ho s hs => by
    rw [hsets]
    rcases List.mem_cons.1 ho with rfl | ho
    · exact List.mem_append.2 (.inl hs)
    · rw [List.mem_singleton] at ho; subst ho; exact List.mem_append.2 (.inr hs))
  have hcov : ∀ c, c < 256 → ∃ r ∈ repsM sets, r ≤ c ∧ ∀ n, (askG ask a b).next n r = (askG ask a b).next n c := fun c hc => by
    obtain ⟨r, hr, hrc, hall⟩ := hcov2 c hc
    refine ⟨r, hr, hrc, fun n => ?_⟩
    show [_] = [_]
    rw [hall a (by simp), hall b (by simp)]
  have hbl : (atomsM sets).length = (repsM sets).length := by unfold repsM; rw [List.length_map]
  have hbi : bsI (atomsM sets) = intsN (repsM sets) := rfl
  have hil : (intsN (repsM sets)).length = (repsM sets).length := List.length_map _
  rw [hbi, hil] at st5
  rw [hbl] at hal ⊢
  clear hbl hbi hcov2 hil
  generalize repsM sets = by_ at *
  have hg : GraphOk (askG ask a b) by_ 4294967296 1 := ask_ok sa sb hlt8 hal
  have hmr := ask_reach (ask := ask) sa sb hlt8
  have hgb : ∀ (k c : Nat), by_[k]? = some c → (intsN by_)[k]? = some (c : Int) := fun k c h => by unfold intsN; rw [List.getElem?_map, h]; rfl
  (conv => whnf); refine mmakeW (Ok := PkOk) (enc := pkV) fun mb H6 hb6 hs6 hm6 ha6 => ?_
  have st6 := st5.mapNewW hb6 hs6 hm6 ha6
  (conv => whnf); refine vbuildS Tryd.underlying179 rfl (pkV (0, 0)) pair_z7 (pkL (0, 0)) rfl ?_
  (conv => whnf); refine vbuildS Tryd.underlying181 rfl (wyV (0, 0)) way_z7 (wyL (-1, 0)) rfl ?_
  have hput0 : put (fun _ : Int × Int => (none : Option Value)) (0, 0) (some (wyV (-1, 0))) = seenW [(root, [])] [(-1, 0)] := seen_put (F := []) (W := []) (n := root) (w := []) rfl fun y hy => by cases hy
  have hz0 : PkOk (0, 0) := ⟨kint ⟨by decide, by decide⟩, kint ⟨by decide, by decide⟩⟩
  (conv => whnf); refine mputPW (a := ((0 : Int), (0 : Int))) st6 3 mapPk keyPk hz0 rfl hput0 fun H7 st7 => ?_
  (conv => whnf); refine vbuildS Tryd.underlying179 rfl (pkV (0, 0)) pair_z7 (pkL (0, 0)) rfl ?_
  (conv => whnf); refine vbuild1 sl183 (pkL (0, 0)) rfl rfl (by decide) (by decide) ?_
  intro q8 H8 hq8 hs8 hb8 ha8
  have st8 := (st7.new (T := tPk) (n := 1) (xs := [root]) hq8 hs8 hb8 ha8 (Ty.reps_one ⟨rfl, rfl⟩) rfl (by unfold maxLen; omega)).pick [2, 3, 4] (by decide)
  have st9 : St H H8 [pS tU8 tByt ra by_.length rc (intsN by_), pMW PkOk pkV mb (seenW [(root, [])] [(-1, 0)]), pS tPk 179 (some ⟨q8, 0, none⟩) 1 1 ([((root, []) : NW)].map (·.1))] := st8
  clear st8 st7 st6 st5 st4 st3 st2 st1 hput0
  (conv => whnf)
  refine VLoop.mk [10, 11] (fun x : Nat × List NW × List (Int × Nat) × Option Addr × Nat => match x with | (i, F, W, oa, oc) => [.slice oa F.length oc, .int .i64 (i : Int)])
    (fun x H9 => match x with | (i, F, W, oa, oc) => i ≤ F.length ∧ BfsOk (askG ask a b) by_ root F i 0 ∧ (∀ (m : Nat) (y : NW), m < i → F[m]? = some y → (askG ask a b).ends y.1 = false) ∧ Links F W ∧ St H H9 [pS tU8 tByt ra by_.length rc (intsN by_), pMW PkOk pkV mb (seenW F W), pS tPk 179 oa F.length oc (F.map (·.1))]) (fun x _ => 4294967296 - x.1) ?_ ?_
  · (conv => whnf)
    exact ⟨(0, [(root, [])], [(-1, 0)], some ⟨q8, 0, none⟩, 1), rfl, Nat.zero_le _, BfsOk.start, fun m y hm => absurd hm (Nat.not_lt_zero _), links_start, st9⟩
  · clear st9
    rintro ⟨i, F, W, oa, oc⟩ H9 junk9 ⟨hi, hbfs, hno, hL, st9⟩
    have hrch : ∀ (F' : List NW) (i' k' : Nat), BfsOk (askG ask a b) by_ root F' i' k' → ∀ x ∈ F', Reach (askG ask a b) by_ root x.1 := fun F' i' k' h x hx => to_reach .refl (h.ok x hx).1 (h.ok x hx).2
    have hFM : ∀ (F' : List NW) (i' k' : Nat), BfsOk (askG ask a b) by_ root F' i' k' → F'.length ≤ 4294967296 := fun F' i' k' h => by
      rw [← List.length_map (f := (·.1))]
      exact hg.card _ h.nd fun n hn => by
        obtain ⟨x, hx, rfl⟩ := List.mem_map.1 hn
        exact hrch F' i' k' h x hx
    have hFM7 := hFM F i 0 hbfs
    (conv => whnf); refine VIte.mk (fun hz => ?_) (fun hz => ?_) <;> simp only [decide_eq_true_eq, decide_eq_false_iff_not] at hz
    · obtain ⟨y, hy⟩ := get_some (l := F) (k := i) (by omega)
      have hyr := hrch F i 0 hbfs y (List.mem_of_getElem? hy)
      have hym := hmr y.1 hyr
      have hy1 : (F.map (·.1))[i]? = some y.1 := by rw [List.getElem?_map, hy]; rfl
      (conv => whnf); refine ixO (j := i) sl183 st9 2 rfl hy1 rfl ?_
      rintro b10 o10 c10 hS10 hc10 ⟨-, rfl⟩
      (conv => whnf); refine ldN (cs := pkL (y.1.x, y.1.y)) ag179 hc10 trivial ?_
      (conv => whnf); refine valloc (pkV (0, 0)) (pkL (0, 0)) pair_z7 rfl ?_
      intro p11 H11 hp11 hs11 hb11 ha11
      have st11 := st9.box hp11 hs11 hb11 ha11
      (conv => whnf); refine stNB (cs := pkL (y.1.x, y.1.y)) st11 3 rfl rfl (Nat.le_refl _) rfl fun H12 st12 => ?_
      rw [splice_all (show (pkL (y.1.x, y.1.y)).length = (pkL (0, 0)).length from rfl)] at st12
      have q12 := st12.blk 3 rfl
      (conv => whnf); refine VDraw.heldZ (Old H12) [] (sq [0,1,2,3,5,6,7] (.f 4 (.f 8 (.f 9 .e)))) rfl (by kernel_rfl) ?_
      (conv => whnf); refine VC.fa fl179_0 ?_
      (conv => whnf); refine ld1 (v := .int .i64 y.1.x) ct3 (by rw [q12.cell]; rfl) q12.lt ?_
      (conv => whnf); refine VC.fa fl179_1 ?_
      (conv => whnf); refine ld1 (v := .int .i64 y.1.y) ct3 (by rw [q12.cell]; rfl) q12.lt ?_
      (conv => whnf); refine pures (final_p (hVA st12.old)) fun H13 ha13 => ?_
      have st13 := st12.call ha13
      refine ⟨ha13, ?_⟩
      (conv => whnf); refine pures (final_p (hVB st13.old)) fun H14 ha14 => ?_
      have st14 := st13.call ha14
      have gg14 := ha13.trans (ha14.mono fun k hk => old_lt ha13 hk)
      refine ⟨gg14, ?_⟩
      (conv => whnf); refine pures (hf H14 _ _) fun H15 ha15 => ?_
      have st15 := st14.call ha15
      refine ⟨gg14.trans (ha15.mono fun k hk => old_lt gg14 hk), ?_⟩
      have hends : (askG ask a b).ends y.1 = ask (finM a y.1.x) (finM b y.1.y) := rfl
      cases he : ask (finM a y.1.x) (finM b y.1.y)
      case true =>
        (conv => whnf); refine pures (spell_p (st15.view 2 rfl) (st15.mapW 1 rfl) hL hFM7 (fun x hx => meetR_pk sa sb (hmr x.1 (hrch F i 0 hbfs x hx))) hy) fun H16 ha16 => ?_
        have st16 := st15.call ha16
        (conv => whnf)
        exact ⟨st16.old, y.2, true, rfl, And.intro (fun _ => hbfs.found hcov hlt8 hy (hends.trans he) hno) (fun h => by cases h), Nat.le_trans (hbfs.size i y hy) (Nat.le_trans (Nat.le_of_lt (List.getElem?_eq_some_iff.1 hy).1) hFM7)⟩
      case false =>
        (conv => whnf)
        refine VLoop.mk [10, 57] (fun x : Nat × List NW × List (Int × Nat) × Option Addr × Nat => match x with | (k, F', W', oa, oc) => [.slice oa F'.length oc, .int .i64 (k : Int)])
          (fun x H9 => match x with | (k, F', W', oa, oc) => k ≤ by_.length ∧ BfsOk (askG ask a b) by_ root F' i k ∧ (∀ m, m ≤ i → F'[m]? = F[m]?) ∧ Links F' W' ∧ St H H9 [pS tU8 tByt ra by_.length rc (intsN by_), pMW PkOk pkV mb (seenW F' W'), pS tPk 179 oa F'.length oc (F'.map (·.1)), pB 179 p11 (pkL (y.1.x, y.1.y))]) (fun x _ => by_.length - x.1) ?_ ?_
        · (conv => whnf)
          exact ⟨(0, F, W, oa, oc), rfl, Nat.zero_le _, hbfs, fun _ _ => rfl, hL, st15⟩
        · clear st15 st14 st13 st12 st11 st9 gg14 ha13 ha14 ha15 q12
          rintro ⟨k, F9, W9, oa9, oc9⟩ H16 junk16 ⟨hk, hbfs9, hpre, hL9, st16⟩
          have hy9 : F9[i]? = some y := by rw [hpre i (Nat.le_refl _)]; exact hy
          have hi9 := (List.getElem?_eq_some_iff.1 hy9).1
          have hFM9 := hFM F9 i k hbfs9
          (conv => whnf); refine VIte.mk (fun hz2 => ?_) (fun hz2 => ?_) <;> simp only [decide_eq_true_eq, decide_eq_false_iff_not] at hz2
          · obtain ⟨c, hc⟩ := get_some (l := by_) (k := k) (by omega)
            have hcm := List.mem_of_getElem? hc
            have hc8 := hlt8 c hcm
            (conv => whnf); refine VSeq.run ?_
            (conv => whnf); refine ixO (j := k) sl85 st16 0 rfl (hgb k c hc) rfl ?_
            rintro b17 o17 c17 hS17 hc17 ⟨rfl, -⟩
            (conv => whnf); refine ld1 ct5 hc17.one trivial ?_
            have htr : Reach (askG ask a b) by_ root ⟨0, stepM a y.1.x c, stepM b y.1.y c⟩ := hyr.step hcm (List.mem_singleton.2 rfl)
            have htok := meetR_pk sa sb (hmr _ htr)
            have q16 := st16.blk 3 rfl
            have sx0 := st16
            have gg0 : Agr (Old H16) H16 H16 := Agr.refl _ _
            (conv => whnf); refine VDraw.cut [15] (fun p : Nat => [.pointer (some ⟨p, 0, none⟩)]) (fun p H' => St H H' [pS tU8 tByt ra by_.length rc (intsN by_), pMW PkOk pkV mb (seenW F9 W9), pS tPk 179 oa9 F9.length oc9 (F9.map (·.1)), pB 179 p11 (pkL (y.1.x, y.1.y)), pB 179 p (pkL (stepM a y.1.x c, stepM b y.1.y c))]) ?_ ?_
            · (conv => whnf); refine VDraw.heldZ (Old H16) [12] (sq [0,1,2,3,5,6,7,8] (.b 4 (.b 9 (sq [10] (.f 11 (.f 12 .e))) 11 (.f 9 (sq [10] (.f 12 .e)))) 11 (.f 4 (.f 9 (sq [10] (.f 12 .e)))))) rfl (by kernel_rfl) ?_
              (conv => whnf); refine VC.fa fl179_0 ?_
              (conv => whnf); refine ld1 (v := .int .i64 y.1.x) ct3 (by rw [q16.cell]; rfl) q16.lt ?_
              (conv => whnf); refine VC.fa fl179_1 ?_
              (conv => whnf); refine ld1 (v := .int .i64 y.1.y) ct3 (by rw [q16.cell]; rfl) q16.lt ?_
              (conv => whnf); refine ⟨?_, ?_⟩
              · refine pures (step_p (up sx0.old) (hVA sx0.old) hc8) fun G1 gc1 => ?_
                have sx1 := sx0.call gc1
                have gg1 := gg0.trans (gc1.mono fun k hk => old_lt gg0 hk)
                refine ⟨gg1, ?_⟩
                (conv => whnf); refine ⟨?_, ?_⟩
                · refine pures (step_p (up sx1.old) (hVB sx1.old) hc8) fun G2 gc2 => ?_
                  have sx2 := sx1.call gc2
                  have gg2 := gg1.trans (gc2.mono fun k hk => old_lt gg1 hk)
                  refine ⟨gg2, ?_⟩
                  (conv => whnf); refine vbuildS Tryd.underlying179 rfl (pkV (0, 0)) pair_z7 (pkL (stepM a y.1.x c, stepM b y.1.y c)) rfl ?_
                  (conv => whnf); refine valloc (pkV (0, 0)) (pkL (0, 0)) pair_z7 rfl ?_
                  intro pp G3 gp3 gs3 gb3 ga3
                  have sx3 := sx2.box gp3 gs3 gb3 ga3
                  have gg3 := gg2.trans (ga3.mono fun k hk => by have := old_lt gg2 hk; omega)
                  refine ⟨gg3, ?_⟩
                  (conv => whnf); refine stNB (cs := pkL (stepM a y.1.x c, stepM b y.1.y c)) sx3 4 rfl rfl (Nat.le_refl _) rfl fun G4 sx4 => ?_
                  rw [splice_all (show (pkL (stepM a y.1.x c, stepM b y.1.y c)).length = (pkL (0, 0)).length from rfl)] at sx4
                  (conv => whnf)
                  exact ⟨rfl, pp, rfl, sx4⟩
                · refine valloc (pkV (0, 0)) (pkL (0, 0)) pair_z7 rfl ?_
                  intro pp G2 gp2 gs2 gb2 ga2
                  have sx2 := sx1.box gp2 gs2 gb2 ga2
                  have gg2 := gg1.trans (ga2.mono fun k hk => by have := old_lt gg1 hk; omega)
                  refine ⟨gg2, ?_⟩
                  (conv => whnf); refine pures (step_p (up sx2.old) (hVB sx2.old) hc8) fun G3 gc3 => ?_
                  have sx3 := sx2.call gc3
                  have gg3 := gg2.trans (gc3.mono fun k hk => old_lt gg2 hk)
                  refine ⟨gg3, ?_⟩
                  (conv => whnf); refine vbuildS Tryd.underlying179 rfl (pkV (0, 0)) pair_z7 (pkL (stepM a y.1.x c, stepM b y.1.y c)) rfl ?_
                  (conv => whnf); refine stNB (cs := pkL (stepM a y.1.x c, stepM b y.1.y c)) sx3 4 rfl rfl (Nat.le_refl _) rfl fun G4 sx4 => ?_
                  rw [splice_all (show (pkL (stepM a y.1.x c, stepM b y.1.y c)).length = (pkL (0, 0)).length from rfl)] at sx4
                  (conv => whnf)
                  exact ⟨rfl, pp, rfl, sx4⟩
              · refine valloc (pkV (0, 0)) (pkL (0, 0)) pair_z7 rfl ?_
                intro pp G1 gp1 gs1 gb1 ga1
                have sx1 := sx0.box gp1 gs1 gb1 ga1
                have gg1 := gg0.trans (ga1.mono fun k hk => by have := old_lt gg0 hk; omega)
                refine ⟨gg1, ?_⟩
                (conv => whnf); refine pures (step_p (up sx1.old) (hVA sx1.old) hc8) fun G2 gc2 => ?_
                have sx2 := sx1.call gc2
                have gg2 := gg1.trans (gc2.mono fun k hk => old_lt gg1 hk)
                refine ⟨gg2, ?_⟩
                (conv => whnf); refine pures (step_p (up sx2.old) (hVB sx2.old) hc8) fun G3 gc3 => ?_
                have sx3 := sx2.call gc3
                have gg3 := gg2.trans (gc3.mono fun k hk => old_lt gg2 hk)
                refine ⟨gg3, ?_⟩
                (conv => whnf); refine vbuildS Tryd.underlying179 rfl (pkV (0, 0)) pair_z7 (pkL (stepM a y.1.x c, stepM b y.1.y c)) rfl ?_
                (conv => whnf); refine stNB (cs := pkL (stepM a y.1.x c, stepM b y.1.y c)) sx3 4 rfl rfl (Nat.le_refl _) rfl fun G4 sx4 => ?_
                rw [splice_all (show (pkL (stepM a y.1.x c, stepM b y.1.y c)).length = (pkL (0, 0)).length from rfl)] at sx4
                (conv => whnf)
                exact ⟨rfl, pp, rfl, sx4⟩
            · rintro pp H18 junk18 st18
              clear sx0 gg0
              (conv => whnf); refine ldN (cs := pkL (stepM a y.1.x c, stepM b y.1.y c)) ag179 ((st18.blk 4 rfl).cells fun j v hv => by rw [Nat.zero_add]; exact hv) trivial ?_
              (conv => whnf); refine mlookOkW (a := (stepM a y.1.x c, stepM b y.1.y c)) mapPk keyPk htok (st18.mapW 1 rfl) trivial ?_
              obtain ⟨t, hte⟩ : ∃ t : Nd, t = ⟨0, stepM a y.1.x c, stepM b y.1.y c⟩ := ⟨_, rfl⟩
              have hnext : (askG ask a b).next y.1 c = [t] := by rw [hte]; rfl
              have htx : stepM a y.1.x c = t.x := by rw [hte]
              have hty : stepM b y.1.y c = t.y := by rw [hte]
              have hts : t.s = 0 := by rw [hte]
              rw [← hte] at htr
              rw [htx, hty] at st18 htok ⊢
              clear hte
              by_cases hm : ∃ z ∈ F9, z.1 = t
              · obtain ⟨z, hz3, hzt⟩ := hm
                obtain ⟨m, hmz⟩ := List.getElem?_of_mem hz3
                obtain ⟨w, hw⟩ := get_some (l := W9) (k := m) (by rw [hL9.len]; exact (List.getElem?_eq_some_iff.1 hmz).1)
                have hseen := hL9.seen hmz hw
                rw [hzt] at hseen
                rw [hseen]
                (conv => whnf); refine valloc (wyV (0, 0)) (wyL (0, 0)) way_z7 rfl ?_
                intro p19 H19 hp19 hs19 hb19 ha19
                have st19 := st18.box hp19 hs19 hb19 ha19
                (conv => whnf); refine stNB (cs := wyL w) st19 5 rfl rfl (Nat.le_refl _) rfl fun H20 st20 => ?_
                (conv => whnf); rw [w64 (x := (k : Int) + 1) (by omega) (by omega)]
                exact ⟨rfl, (k + 1, F9, W9, oa9, oc9), rfl, ⟨by omega, hbfs9.add hup2 hy9 hc hnext (.inl ⟨⟨z, hz3, hzt⟩, rfl⟩), hpre, hL9, st20.pick [0, 1, 2, 3] (by decide)⟩, by simp only; omega⟩
              · have hno9 : ∀ z ∈ F9, z.1 ≠ t := fun z hz3 e => hm ⟨z, hz3, e⟩
                have hap := hL9.apart hts hno9
                rw [seen_none (z := (t.x, t.y)) hap]
                have hadd := hbfs9.add (F' := F9 ++ [(t, y.2 ++ [c])]) hup2 hy9 hc hnext (.inr ⟨hno9, rfl⟩)
                have hFM10 := hFM _ _ _ hadd
                rw [List.length_append, List.length_singleton] at hFM10
                (conv => whnf); refine valloc (wyV (0, 0)) (wyL (0, 0)) way_z7 rfl ?_
                intro p19 H19 hp19 hs19 hb19 ha19
                have st19 := st18.box hp19 hs19 hb19 ha19
                (conv => whnf); refine stNB (cs := wyL (0, 0)) st19 5 rfl rfl (Nat.le_refl _) rfl fun H20 st20 => ?_
                (conv => whnf); refine ldN (cs := pkL (t.x, t.y)) ag179 ((st20.blk 4 rfl).cells fun j v hv => by rw [Nat.zero_add]; exact hv) trivial ?_
                (conv => whnf); refine vbuildS Tryd.underlying181 rfl (wyV (0, 0)) way_z7 (wyL ((i : Int), c)) rfl ?_
                (conv => whnf); refine mputPW (a := (t.x, t.y)) st20 1 mapPk keyPk htok rfl (seen_put (w := y.2 ++ [c]) (x := ((i : Int), c)) hL9.len hap) fun H21 st21 => ?_
                (conv => whnf); refine ldN (cs := pkL (t.x, t.y)) ag179 ((st21.blk 4 rfl).cells fun j v hv => by rw [Nat.zero_add]; exact hv) trivial ?_
                (conv => whnf); refine vbuild1 sl183 (pkL (t.x, t.y)) rfl rfl (by decide) (by decide) ?_
                intro q22 H22 hq22 hs22 hb22 ha22
                have hml : (F9.map (·.1)).length = F9.length := List.length_map _
                (conv => whnf); refine appG (ys := [t]) (ds := pkL (t.x, t.y)) (st21.skip hq22 ha22) 2 sl183 rfl (hb22.cells fun j v hv => by rw [Nat.zero_add]; exact hv) (Ty.reps_one ⟨hts, rfl⟩) rfl (by simp [pkL, Value.oneCell']) (by simp only [List.length_singleton, maxLen]; omega) (by simp only [List.length_singleton]; omega) fun a23 c23 H23 st23 _ => ?_
                have e1 : (F9.map (·.1)).length + [t].length = (F9 ++ [(t, y.2 ++ [c])]).length := by simp
                have e2 : F9.map (·.1) ++ [t] = (F9 ++ [(t, y.2 ++ [c])]).map (·.1) := by simp
                rw [e1, e2] at st23
                rw [e1]
                (conv => whnf); rw [w64 (x := (k : Int) + 1) (by omega) (by omega)]
                exact ⟨rfl, (k + 1, F9 ++ [(t, y.2 ++ [c])], W9 ++ [((i : Int), c)], a23, c23), rfl, ⟨by omega, hadd, fun m hm4 => by rw [List.getElem?_append_left (by omega)]; exact hpre m hm4, hL9.add hy9 hc8 hts hno9, st23.pick [0, 1, 2, 3] (by decide)⟩, by simp only; omega⟩
          · have : k = by_.length := Nat.le_antisymm hk (by omega)
            subst this
            (conv => whnf); rw [w64 (x := (i : Int) + 1) (by omega) (by omega)]
            refine ⟨rfl, (i + 1, F9, W9, oa9, oc9), rfl, ⟨hi9, hbfs9.turn (Nat.le_refl _), fun m z hm hz3 => ?_, hL9, st16.pick [0, 1, 2] (by decide)⟩, show 4294967296 - (i + 1) < 4294967296 - i by omega⟩
            rcases Nat.lt_or_eq_of_le (Nat.le_of_lt_succ (show m < i + 1 from hm)) with hm | rfl
            · exact hno m z hm (by rw [← hpre m (Nat.le_of_lt hm)]; exact hz3)
            · rw [hy9] at hz3; cases hz3; exact hends.trans he
    · obtain rfl : i = F.length := by omega
      (conv => whnf)
      exact ⟨st9.old, [], false, rfl, And.intro (fun h => by cases h) fun _ => ⟨rfl, hbfs.none hcov fun y hy => by
        obtain ⟨m, hm⟩ := List.getElem?_of_mem hy
        exact hno m y (List.getElem?_eq_some_iff.1 hm).1 hm⟩, Nat.zero_le _⟩
section
variable {S : Nat → Prop} {H : Heap} {va vb : Value} {a b : Option AM}
theorem differL_c (hS : ∀ k, S k → k < H.size) (hva : AutoV S H va a) (hvb : AutoV S H vb b) (hca : ∃ ls, CellsOk a ls) (hcb : ∃ ls, CellsOk b ls) :
    FnOk Tryd.prog 21 #[va, vb] H fun v H' => Agr (Old H) H H' ∧ ∃ w ok, v = .tuple #[.string (bA w), .bool ok] ∧ FirstR (askG xorB a b) w ok ∧ w.length ≤ 4294967296 := by
  refine FnOk.of_vc Tryd.func21 rfl (Tryd.call21 _) ?_
  (conv => whnf); refine VCall.mk (first_mL hS hva hvb hca hcb differ1_p) ?_
  rintro _ H1 ⟨ha1, w, ok, rfl, hw⟩
  (conv => whnf)
  exact ⟨ha1, w, ok, rfl, hw⟩
theorem outsideL_c (hS : ∀ k, S k → k < H.size) (hva : AutoV S H va a) (hvb : AutoV S H vb b) (hca : ∃ ls, CellsOk a ls) (hcb : ∃ ls, CellsOk b ls) :
    FnOk Tryd.prog 24 #[va, vb] H fun v H' => Agr (Old H) H H' ∧ ∃ w ok, v = .tuple #[.string (bA w), .bool ok] ∧ FirstR (askG outB a b) w ok ∧ w.length ≤ 4294967296 := by
  refine FnOk.of_vc Tryd.func24 rfl (Tryd.call24 _) ?_
  (conv => whnf); refine VCall.mk (first_mL hS hva hvb hca hcb outside1_p) ?_
  rintro _ H1 ⟨ha1, w, ok, rfl, hw⟩
  (conv => whnf)
  exact ⟨ha1, w, ok, rfl, hw⟩
end
end Go.Proofs.YthomdogheamfpaaDoor
/- The law MinimWitness: the walk. -/
set_option linter.unusedVariables false
set_option linter.unusedSimpArgs false
set_option maxRecDepth 100000
namespace Go.Proofs.YthomdogheamfpaaDoor
open Go.VC Go.Lib
attribute [local irreducible] mRun gRun atRun odd7M
set_option maxHeartbeats 16000000 in
theorem minimWitness_p (v : Value) (cells : List (BitVec 256)) (next : List (List Int)) (final : List Bool) (v' : Value) (cells' : List (BitVec 256)) (next' : List (List Int)) (final' : List Bool) (s : ByteArray) (S : Nat → Prop) (H : Heap) (ht : TabIn S H v cells next final) (hu : TabIn S H v' cells' next' final') (hs : s.size ≤ 1048576) (hpow : PowH Tryd.prog H) (hE : EscH H) :
    Pure Tryd.prog 7 #[v, v', .string s] H (.bool true) := by
  refine FnOk.of_vc Tryd.func7 rfl (Tryd.call7 _) ?_
  (conv => whnf); refine tab_box ht fun l hl hv => ?_
  intro p H1 hp hs1 hb1 ha1
  have st1 := (St.nil H).box hp hs1 hb1 ha1
  (conv => whnf); refine tab_box (hu.frame st1.old) fun l' hl' hv' => ?_
  intro p' H2 hp' hs2 hb2 ha2
  have st2 := st1.box hp' hs2 hb2 ha2
  (conv => whnf); refine pures (speaks07_p (hpow.agr st2.old) (hE.agr st2.old)) fun H3 ha3 => ?_
  have st3 := st2.call ha3
  (conv => whnf); refine VDraw.held (Old H3) 5 (sq [0,2] (.f 1 (.f 3 (sq [4] (.f 5 .e))))) rfl (by kernel_rfl) ?_
  (conv => whnf); refine tab_load hl hv (st3.blk 0 rfl) (st3.blk 0 rfl).lt ?_
  (conv => whnf); refine tab_load hl' hv' (st3.blk 1 rfl) (st3.blk 1 rfl).lt ?_
  (conv => whnf); refine VCall.mk (auto07_c v cells next final S H3 (ht.frame st3.old)) ?_
  rintro va H4 ⟨ha4, hs4, hva⟩
  have st4 := st3.call ha4
  refine ⟨ha4, ?_⟩
  (conv => whnf); refine VCall.mk (auto07_c v' cells' next' final' S H4 (hu.frame st4.old)) ?_
  rintro vb H5 ⟨ha5, hs5, hvb⟩
  have st5 := st4.call ha5
  have h35 := ha4.trans (ha5.mono fun k hk => old_lt ha4 hk)
  refine ⟨h35, ?_⟩
  have hma : IsMade (autoOf cells next final) := ⟨_, _, _, rfl⟩
  have hmb : IsMade (autoOf cells' next' final') := ⟨_, _, _, rfl⟩
  have hva5 : AutoV (Old H5) H5 va (autoOf cells next final) := (hva.frame (ha5.mono fun k hk => hk.2)).mono fun k hk => old_lt ha5 hk.2
  have hvb5 : AutoV (Old H5) H5 vb (autoOf cells' next' final') := hvb.mono fun k hk => hk.2
  generalize autoOf cells next final = a at *
  generalize autoOf cells' next' final' = b at *
  have up : ∀ {G : Heap}, Agr (Old H5) H5 G → ∀ k, Old H5 k → k < G.size := fun h k hk => old_lt h hk
  have ag0 : Agr (Old H5) H5 H5 := Agr.refl _ _
  have hA : ∀ {G : Heap}, Agr (Old H5) H5 G → ∀ t : ByteArray, t.size ≤ maxLen → Pure Tryd.prog 25 #[va, .string t] G (.bool (acceptsM a t)) := fun h t ht => accepts_p (fun k hk => old_lt h hk) (hva5.frame h) ht
  have hB : ∀ {G : Heap}, Agr (Old H5) H5 G → ∀ t : ByteArray, t.size ≤ maxLen → Pure Tryd.prog 25 #[vb, .string t] G (.bool (acceptsM b t)) := fun h t ht => accepts_p (fun k hk => old_lt h hk) (hvb5.frame h) ht
  have tr : ∀ {G G' : Heap}, Agr (Old H5) H5 G → Agr (Old G) G G' → Agr (Old H5) H5 G' := fun h k => h.trans (k.mono fun j hj => old_lt h hj)
  have hss : s.size ≤ maxLen := by unfold maxLen; omega
  have fin : ∀ {G : Heap}, Agr (Old H5) H5 G → Agr (Old H) H G := fun h => st5.old.trans (h.mono fun k hk => old_lt st5.old hk)
  have enil : ∀ {w : List Nat}, w = [] → (!((bA w).toList == (⟨#[]⟩ : ByteArray).toList)) = false := fun h => by rw [h, show bA [] = (⟨#[]⟩ : ByteArray) from rfl]; simp
  (conv => whnf); refine VCall.mk (differL_c (S := Old H5) (up ag0) hva5 hvb5 hma.ok hmb.ok) ?_
  rintro _ H6 ⟨ha6, w, ok, rfl, hR, hwl⟩
  have hsw : (bA w).size ≤ maxLen := by rw [bA_size]; unfold maxLen; omega
  obtain ⟨hk1, hk2⟩ := ask_acc hR
  have hk3 : (acceptsM a (bA w) != acceptsM b (bA w)) = ok := hk1
  (conv => whnf); refine pures (hA ha6 (bA w) hsw) fun H7 ha7 => ?_
  have h7 := tr ha6 ha7
  (conv => whnf); refine pures (hB h7 (bA w) hsw) fun H8 ha8 => ?_
  have h8 := tr h7 ha8
  (conv => whnf); refine neqZ Tryd.underlying4 hk3 ?_
  (conv => whnf); refine neqZ Tryd.underlying4 (show (ok != ok) = false by simp) ?_
  cases hok : ok
  · have hw0 := hk2 hok
    (conv => whnf); rw [enil hw0]
    (conv => whnf); refine VCall.mk (outsideL_c (S := Old H5) (up h8) (hva5.frame h8) (hvb5.frame h8) hma.ok hmb.ok) ?_
    rintro _ H9 ⟨ha9, u, out, rfl, hO, hul⟩
    have h9 := tr h8 ha9
    have hsu : (bA u).size ≤ maxLen := by rw [bA_size]; unfold maxLen; omega
    obtain ⟨ho1, ho2⟩ := ask_acc hO
    have hq := hA h9 (bA u) hsu
    (conv => whnf); refine pures hq fun G1 gg1 => ?_
    have hg1 := tr h9 gg1
    cases hpa : acceptsM a (bA u)
    · have hout : out = false := by rw [← ho1]; unfold outB; rw [hpa]; rfl
      have hu0 := ho2 hout
      rw [hout]
      (conv => whnf); refine neqZ Tryd.underlying4 (z := false) rfl ?_
      (conv => whnf); rw [enil hu0]
      have hg := hg1
      have hq := hA hg s hss
      (conv => whnf); refine pures hq fun G3 gg3 => ?_
      have hg3 := tr hg gg3
      have hq := hB hg3 s hss
      (conv => whnf); refine pures hq fun G4 gg4 => ?_
      have hg4 := tr hg3 gg4
      cases hx : acceptsM a s <;> cases hy : acceptsM b s
      · (conv => whnf); refine neqZ Tryd.underlying4 (z := false) rfl ?_
        (conv => whnf)
        exact ⟨rfl, fin hg4⟩
      · have hl := ask_last hR (s := s) (by unfold xorB; rw [hx, hy]; rfl)
        rw [hok] at hl
        exact absurd hl.1 (by decide)
      · have hl := ask_last hR (s := s) (by unfold xorB; rw [hx, hy]; rfl)
        rw [hok] at hl
        exact absurd hl.1 (by decide)
      · (conv => whnf); refine neqZ Tryd.underlying4 (z := false) rfl ?_
        (conv => whnf)
        exact ⟨rfl, fin hg4⟩
    · have hq := hB hg1 (bA u) hsu
      (conv => whnf); refine pures hq fun G2 gg2 => ?_
      have hg2 := tr hg1 gg2
      cases hpb : acceptsM b (bA u)
      · have hout : out = true := by rw [← ho1]; unfold outB; rw [hpa, hpb]; rfl
        have hl := ask_last hR (s := bA u) (by unfold xorB; rw [hpa, hpb]; rfl)
        rw [hok] at hl
        exact absurd hl.1 (by decide)
      · have hout : out = false := by rw [← ho1]; unfold outB; rw [hpa, hpb]; rfl
        have hu0 := ho2 hout
        rw [hout]
        (conv => whnf); refine neqZ Tryd.underlying4 (z := false) rfl ?_
        (conv => whnf); rw [enil hu0]
        have hg := hg2
        have hq := hA hg s hss
        (conv => whnf); refine pures hq fun G3 gg3 => ?_
        have hg3 := tr hg gg3
        have hq := hB hg3 s hss
        (conv => whnf); refine pures hq fun G4 gg4 => ?_
        have hg4 := tr hg3 gg4
        cases hx : acceptsM a s <;> cases hy : acceptsM b s
        · (conv => whnf); refine neqZ Tryd.underlying4 (z := false) rfl ?_
          (conv => whnf)
          exact ⟨rfl, fin hg4⟩
        · have hl := ask_last hR (s := s) (by unfold xorB; rw [hx, hy]; rfl)
          rw [hok] at hl
          exact absurd hl.1 (by decide)
        · have hl := ask_last hR (s := s) (by unfold xorB; rw [hx, hy]; rfl)
          rw [hok] at hl
          exact absurd hl.1 (by decide)
        · (conv => whnf); refine neqZ Tryd.underlying4 (z := false) rfl ?_
          (conv => whnf)
          exact ⟨rfl, fin hg4⟩
  · (conv => whnf); refine VCall.mk (outsideL_c (S := Old H5) (up h8) (hva5.frame h8) (hvb5.frame h8) hma.ok hmb.ok) ?_
    rintro _ H9 ⟨ha9, u, out, rfl, hO, hul⟩
    have h9 := tr h8 ha9
    have hsu : (bA u).size ≤ maxLen := by rw [bA_size]; unfold maxLen; omega
    obtain ⟨ho1, ho2⟩ := ask_acc hO
    have hq := hA h9 (bA u) hsu
    (conv => whnf); refine pures hq fun G1 gg1 => ?_
    have hg1 := tr h9 gg1
    cases hpa : acceptsM a (bA u)
    · have hout : out = false := by rw [← ho1]; unfold outB; rw [hpa]; rfl
      have hu0 := ho2 hout
      rw [hout]
      (conv => whnf); refine neqZ Tryd.underlying4 (z := false) rfl ?_
      (conv => whnf); rw [enil hu0]
      have hg := hg1
      have hq := hA hg s hss
      (conv => whnf); refine pures hq fun G3 gg3 => ?_
      have hg3 := tr hg gg3
      have hq := hB hg3 s hss
      (conv => whnf); refine pures hq fun G4 gg4 => ?_
      have hg4 := tr hg3 gg4
      cases hx : acceptsM a s <;> cases hy : acceptsM b s
      · (conv => whnf); refine neqZ Tryd.underlying4 (z := false) rfl ?_
        (conv => whnf)
        exact ⟨rfl, fin hg4⟩
      · have hl := ask_last hR (s := s) (by unfold xorB; rw [hx, hy]; rfl)
        (conv => whnf); refine neqZ Tryd.underlying4 (z := true) rfl ?_
        (conv => whnf); refine pures (ahead7_p s (bA w) G4) fun G5 gg5 => ?_
        have hg5 := tr hg4 gg5
        rw [hl.2]
        (conv => whnf)
        exact ⟨rfl, fin hg5⟩
      · have hl := ask_last hR (s := s) (by unfold xorB; rw [hx, hy]; rfl)
        (conv => whnf); refine neqZ Tryd.underlying4 (z := true) rfl ?_
        (conv => whnf); refine pures (ahead7_p s (bA w) G4) fun G5 gg5 => ?_
        have hg5 := tr hg4 gg5
        rw [hl.2]
        have hl2 := ask_last hO (s := s) (by unfold outB; rw [hx, hy]; rfl)
        rw [hout] at hl2
        exact absurd hl2.1 (by decide)
      · (conv => whnf); refine neqZ Tryd.underlying4 (z := false) rfl ?_
        (conv => whnf)
        exact ⟨rfl, fin hg4⟩
    · have hq := hB hg1 (bA u) hsu
      (conv => whnf); refine pures hq fun G2 gg2 => ?_
      have hg2 := tr hg1 gg2
      cases hpb : acceptsM b (bA u)
      · have hout : out = true := by rw [← ho1]; unfold outB; rw [hpa, hpb]; rfl
        rw [hout]
        (conv => whnf); refine neqZ Tryd.underlying4 (z := false) rfl ?_
        have hg := hg2
        have hq := hA hg s hss
        (conv => whnf); refine pures hq fun G3 gg3 => ?_
        have hg3 := tr hg gg3
        have hq := hB hg3 s hss
        (conv => whnf); refine pures hq fun G4 gg4 => ?_
        have hg4 := tr hg3 gg4
        cases hx : acceptsM a s <;> cases hy : acceptsM b s
        · (conv => whnf); refine neqZ Tryd.underlying4 (z := false) rfl ?_
          (conv => whnf)
          exact ⟨rfl, fin hg4⟩
        · have hl := ask_last hR (s := s) (by unfold xorB; rw [hx, hy]; rfl)
          (conv => whnf); refine neqZ Tryd.underlying4 (z := true) rfl ?_
          (conv => whnf); refine pures (ahead7_p s (bA w) G4) fun G5 gg5 => ?_
          have hg5 := tr hg4 gg5
          rw [hl.2]
          (conv => whnf)
          exact ⟨rfl, fin hg5⟩
        · have hl := ask_last hR (s := s) (by unfold xorB; rw [hx, hy]; rfl)
          (conv => whnf); refine neqZ Tryd.underlying4 (z := true) rfl ?_
          (conv => whnf); refine pures (ahead7_p s (bA w) G4) fun G5 gg5 => ?_
          have hg5 := tr hg4 gg5
          rw [hl.2]
          have hl2 := ask_last hO (s := s) (by unfold outB; rw [hx, hy]; rfl)
          (conv => whnf); refine pures (ahead7_p s (bA u) G5) fun G6 gg6 => ?_
          have hg6 := tr hg5 gg6
          rw [hl2.2]
          (conv => whnf)
          exact ⟨rfl, fin hg6⟩
        · (conv => whnf); refine neqZ Tryd.underlying4 (z := false) rfl ?_
          (conv => whnf)
          exact ⟨rfl, fin hg4⟩
      · have hout : out = false := by rw [← ho1]; unfold outB; rw [hpa, hpb]; rfl
        have hu0 := ho2 hout
        rw [hout]
        (conv => whnf); refine neqZ Tryd.underlying4 (z := false) rfl ?_
        (conv => whnf); rw [enil hu0]
        have hg := hg2
        have hq := hA hg s hss
        (conv => whnf); refine pures hq fun G3 gg3 => ?_
        have hg3 := tr hg gg3
        have hq := hB hg3 s hss
        (conv => whnf); refine pures hq fun G4 gg4 => ?_
        have hg4 := tr hg3 gg4
        cases hx : acceptsM a s <;> cases hy : acceptsM b s
        · (conv => whnf); refine neqZ Tryd.underlying4 (z := false) rfl ?_
          (conv => whnf)
          exact ⟨rfl, fin hg4⟩
        · have hl := ask_last hR (s := s) (by unfold xorB; rw [hx, hy]; rfl)
          (conv => whnf); refine neqZ Tryd.underlying4 (z := true) rfl ?_
          (conv => whnf); refine pures (ahead7_p s (bA w) G4) fun G5 gg5 => ?_
          have hg5 := tr hg4 gg5
          rw [hl.2]
          (conv => whnf)
          exact ⟨rfl, fin hg5⟩
        · have hl := ask_last hR (s := s) (by unfold xorB; rw [hx, hy]; rfl)
          (conv => whnf); refine neqZ Tryd.underlying4 (z := true) rfl ?_
          (conv => whnf); refine pures (ahead7_p s (bA w) G4) fun G5 gg5 => ?_
          have hg5 := tr hg4 gg5
          rw [hl.2]
          have hl2 := ask_last hO (s := s) (by unfold outB; rw [hx, hy]; rfl)
          rw [hout] at hl2
          exact absurd hl2.1 (by decide)
        · (conv => whnf); refine neqZ Tryd.underlying4 (z := false) rfl ?_
          (conv => whnf)
          exact ⟨rfl, fin hg4⟩
end Go.Proofs.YthomdogheamfpaaDoor
set_option linter.unusedVariables false
set_option linter.unusedSimpArgs false
namespace Go.Proofs.YthomdogheamfpaaDoor
open Go.ChangeShapes Go.WideShapes Go.ChangeAt Go.RowKit
open Go.ChangeMaps (open_string)
open Go.VC

theorem minimWitness_met (os : Os) : laidMet Tryd.prog Rows.minimWitnessUptoRow.laid ((laidW7 os).forCall (fun _ _ => 0) ⟨#[], #[.agg #[.slice none 0 0, .slice none 0 0, .slice none 0 0], .agg #[.slice none 0 0, .slice none 0 0, .slice none 0 0], .string ⟨#[]⟩], []⟩).memory :=
  laidMet_of_run' 100 (by kernel_rfl) (by kernel_rfl)
theorem minimWitness_reads (os : Os) {H : Type} (enc : TypeId × Value → H) : ∃ places, DataW.whole enc Tryd.prog ((laidW7 os).forCall (fun _ _ => 0) ⟨#[], #[.agg #[.slice none 0 0, .slice none 0 0, .slice none 0 0], .agg #[.slice none 0 0, .slice none 0 0, .slice none 0 0], .string ⟨#[]⟩], []⟩).memory Tryd.f7.params.toList (Rows.OpenSpec.upto Rows.minimWitnessSpec).bare.plain.vars false (#[.agg #[.slice none 0 0, .slice none 0 0, .slice none 0 0], .agg #[.slice none 0 0, .slice none 0 0, .slice none 0 0], .string ⟨#[]⟩] : Array Value).toList 8 = some ([.agg [.nil, .nil, .nil], .agg [.nil, .nil, .nil], .lit (.string [])], [], places) :=
  ⟨[], by kernel_rfl⟩
set_option maxRecDepth 100000 in
theorem minimWitness_lifted (os : Os) (started : os.Started) (H : Type) (enc : TypeId × Value → H) (F : Stop.Interp) :
    ReturnsInHanded {} Tryd.checked os 7 .any ((Rows.OpenSpec.upto Rows.minimWitnessSpec).preRow enc Tryd.prog Tryd.f7 Rows.minimWitnessUptoRow.domain false Rows.minimWitnessUptoRow.laid) (((Rows.OpenSpec.upto Rows.minimWitnessSpec).at F).post enc Tryd.prog Tryd.f7 false true false false) := by
  obtain ⟨places, hx⟩ := minimWitness_reads os enc
  refine returnsInHanded_of_row (C := Tryd.checked) (s := Rows.OpenSpec.upto Rows.minimWitnessSpec) own_ started (by kernel_rfl) Tryd.func7
    (witness_row_at (enc := enc) (C := Tryd.checked) false (laidW7 os) #[.agg #[.slice none 0 0, .slice none 0 0, .slice none 0 0], .agg #[.slice none 0 0, .slice none 0 0, .slice none 0 0], .string ⟨#[]⟩] rfl (by kernel_rfl) (by kernel_rfl) (by kernel_rfl)
      (OpenSpec.preRow_of_cond 8 hx (by kernel_rfl) (fun k hk => by cases hk; kernel_rfl) (by kernel_rfl) (minimWitness_met os))) ?_
  intro W base args ds gs before hval0 hW _ hcond _ hL _ _
  have hk := hcond _ rfl
  have hval : ∀ (j : Nat) t v, Tryd.f7.params[j]? = some t → args[j]? = some v → Value.okWide Tryd.prog W .any base t v := hval0
  have hW' := hW
  obtain ⟨p, q, hA0, hV, rfl, hfz, hnd⟩ := hW
  have hA : DataW.TrodAll enc Tryd.prog W 0 (fun _ => true) true [26, 26, 9] args.toList ds p := hA0
  obtain ⟨v0, vs0, d0, ds0, p0, q0, e0, rfl, rfl, h0, r0⟩ := trodAll_cons hA
  obtain ⟨v1, vs1, d1, ds1, p1, q1, rfl, rfl, rfl, h1, r1⟩ := trodAll_cons r0
  obtain ⟨v2, vs2, d2, ds2, p2, q2, rfl, rfl, rfl, h2, r2⟩ := trodAll_cons r1
  obtain ⟨rfl, rfl, rfl⟩ := trodAll_nil r2
  obtain rfl : args = #[v0, v1, v2] := by cases args; simp_all
  obtain ⟨rfl, rfl⟩ := trodVars_none hV
  have hb := small_of hk
  obtain ⟨cells0, next0, final0, htab0, hz0⟩ := open_table (hval 0 _ v0 rfl rfl) h0
  obtain ⟨cells1, next1, final1, htab1, hz1⟩ := open_table (hval 1 _ v1 rfl rfl) h1
  obtain ⟨s2, rfl, rfl, rfl, hs2⟩ := open_string Tryd.underlying9 (hval 2 9 v2 rfl rfl) h2
  simp only [List.append_nil, Rows.uptoBulkAll, Rows.uptoBulk, Array.length_toList] at hb
  refine ((minimWitness_p v0 cells0 next0 final0 v1 cells1 next1 final1 s2 (InW W) W.heap (tabIn_of htab0 (by omega)) (tabIn_of htab1 (by omega)) (by have : s2.data.size = s2.size := rfl; omega) (tabs_of_laid hL).1 (tabs_of_laid hL).2) W rfl).2.mono fun e W' ⟨v, he, henv, hv, hag⟩ => ?_
  subst he; subst hv
  exact ⟨_, rfl, post_true hW' rfl ⟨rfl, rfl, rfl⟩ laid_ (by kernel_rfl) rfl Tryd.underlying4 henv hag⟩

theorem minimWitness_said : Rows.MinimWitnessUptoSaid :=
  OpenClaim.holds_of_cond 7 Tryd.f7 rfl rfl rfl rfl rfl rfl rfl ⟨rfl, rfl, rfl, rfl, rfl⟩ rfl rfl rfl rfl rfl (by kernel_rfl) Tryd.func7 (by kernel_rfl)
    (of_decide_eq_true (by kernel_rfl)) (by unfold Func.isWrapper; first | (rw [if_pos (by decide +kernel)]; kernel_rfl) | (rw [if_neg (by decide +kernel)]; exact ⟨rfl, rfl⟩))
    (fun os started H enc _ F => by rw [OpenClaim.pre_eq_preRow]; exact minimWitness_lifted os started H enc F)

theorem minimWitness_plain (f : FuncId) (fn : Func) (hf : Tryd.pinned.checked.prog.funcNamed "loupe/loupelaw07.MinimWitness" = some f) (hfn : Tryd.pinned.checked.prog.funcs[f]? = some fn) :
    false = Tryd.pinned.checked.prog.looks [] ∧ ∀ (j : Nat) t, fn.params[j]? = some t → Tryd.pinned.checked.prog.wantsStandIn t = false := by
  obtain rfl : f = 7 := Option.some.inj ((show Tryd.prog.funcNamed "loupe/loupelaw07.MinimWitness" = some 7 by kernel_rfl).symm.trans hf) |>.symm
  obtain rfl : fn = Tryd.f7 := (Option.some.inj (Tryd.func7.symm.trans hfn)).symm
  refine ⟨by kernel_rfl, fun j t ht => ?_⟩
  have ht : (#[26, 26, 9] : Array TypeId)[j]? = some t := ht
  have hm := Array.mem_of_getElem? ht
  simp only [List.mem_toArray, List.mem_cons, List.not_mem_nil, or_false] at hm
  rcases hm with rfl | rfl | rfl
  · exact (show Tryd.prog.wantsStandIn 26 = false by kernel_rfl)
  · exact (show Tryd.prog.wantsStandIn 26 = false by kernel_rfl)
  · exact (show Tryd.prog.wantsStandIn 9 = false by kernel_rfl)
theorem minimWitness_holds : Rows.MinimWitnessUptoCardSaid :=
  Claim7.holds_tied_plain_at .later [] _ _ _ _ minimWitness_said (fun _ h => by cases h) (by kernel_rfl) (fun _ h => by cases h) minimWitnessUpto_row_tie rfl ⟨rfl, rfl⟩ (by kernel_rfl) rfl minimWitness_plain (by kernel_rfl)

#print axioms minimWitness_holds
end Go.Proofs.YthomdogheamfpaaDoor
