/- louperef07.First, louperef09.Meets: the walks. -/
import Derived.Test.YtpnnedkpbmilkaaPMet2
import Derived.Test.YtpnnedkpbmilkaaPMeg
set_option linter.unusedVariables false
set_option linter.unusedSimpArgs false
set_option maxRecDepth 100000
namespace Go.Proofs.Ytpnnedkpbmilkaa
open Go.VC
attribute [local irreducible] oneM mRun gRun atRun
theorem add_v {B : Nat → Prop} {H0 H : Heap} {ps : List Pc} {b : Nat} {vs : List Value} {F : List NW} {n : Nd} {w : List Nat} {K : Value → Heap → Prop} (st : StB B H0 H ps) (i : Nat) (hp : ps[i]? = some (pPrs b vs F)) (hr : PrsP vs F) (h0 : n.s = 0) (hx0 : 0 ≤ n.x) (hx1 : n.x < 65536) (hy0 : 0 ≤ n.y) (hy1 : n.y < 65536) (hF : ∀ x ∈ F, x.1.s = 0) (hlen : F.length + 1 ≤ 5864062014805)
    (k : ∀ vs' F' H', StB B H0 H' (ps.set i (pPrs b vs' F')) → PrsP vs' F' → Add F n w F' → K (.tuple #[]) H') : VCall Try.prog 88 #[.pointer (some ⟨b, 0, none⟩), .int .i64 n.x, .int .i64 n.y, .string (bA w)] H K := by
  refine VCall.mk (add_c (StB.start (st.at_ i hp) fun k hk => (st.in_ i hp hk).2) hr h0 hx0 hx1 hy0 hy1 hF hlen) ?_
  rintro _ H' ⟨vs', F', rfl, st', hr', hadd⟩
  refine k vs' F' H' (st.upd i hp st'.old _ (st'.at_ 0 rfl) (fun k hk => ?_) (fun k hk => (st'.in_ 0 rfl hk).2) st'.size) hr' hadd
  have := (st'.in_ 0 rfl hk).1
  by_cases h1 : k < H.size
  · by_cases h2 : (pPrs b vs F).foot k
    · exact .inl h2
    · exact absurd ⟨h1, h2⟩ this
  · exact .inr (by omega)
theorem prs_z : (Try.prog.info? 139).bind (·.zero) = some (.agg (List.replicate 1026 (Value.slice none 0 0)).toArray) := by kernel_rfl
theorem prsS_nil (j : Nat) (H : Heap) : (prS [] j).ok H (.slice none 0 0) := by
  match j with
  | 0 => exact SlO.nil
  | 1 => exact SlO.nil
  | h + 2 => exact SlO.nil
theorem prs_new {H0 H : Heap} {ps : List Pc} {K : Value → Heap → Prop} (st : St H0 H ps) (k : ∀ b H', St H0 H' (ps ++ [pPrs b (List.replicate 1026 (.slice none 0 0)) []]) → K (.pointer (some ⟨b, 0, none⟩)) H') : VEff Try.prog (Instr.box 139 (.agg (List.replicate 1026 (Value.slice none 0 0)).toArray)) H K := by
  refine vbox (List.replicate 1026 (Value.slice none 0 0)) rfl ?_
  intro b H' hb hs hk ha
  have st1 := st.box hb hs hk ha
  have st2 := st1.fldNew (ss := prS []) ps.length (by rw [List.getElem?_append_right (Nat.le_refl _), Nat.sub_self]; rfl) prsS_nil
  refine k b H' ?_
  have e : (ps ++ [pB 139 b (List.replicate 1026 (Value.slice none 0 0))]).set ps.length (pF 139 b (List.replicate 1026 (.slice none 0 0)) (prS [])) = ps ++ [pPrs b (List.replicate 1026 (.slice none 0 0)) []] := by
    rw [List.set_append_right _ _ (Nat.le_refl _), Nat.sub_self]; rfl
  rw [e] at st2
  exact st2
theorem prsP_new : PrsP (List.replicate 1026 (.slice none 0 0)) [] := ⟨by simp, List.nodup_nil⟩
theorem meet_reach {a b : Option AM} {A B : DM} (sa : StepOk a) (sb : StepOk b) : ∀ n, Reach (meetG a b) (repsD A B) root n → MeetR a b n := fun n hn => by
  induction hn with
  | refl => exact ⟨rfl, sa.zero, sb.zero⟩
  | step _ hb ht ih =>
    obtain rfl := List.mem_singleton.1 ht
    exact ⟨rfl, sa.step _ _ ih.2.1 (repsD_lt A B _ hb), sb.step _ _ ih.2.2 (repsD_lt A B _ hb)⟩
theorem BfsOk.size {g : Gr} {by_ : List Nat} {a : Nd} {F : List NW} {i k : Nat} (h : BfsOk g by_ a F i k) : ∀ (m : Nat) (y : NW), F[m]? = some y → y.2.length ≤ m := fun m => by
  induction m using Nat.strongRecOn with
  | _ m ih =>
    intro y hy
    rcases h.par m y hy with rfl | ⟨j, l, b, x, hx, -, e, -⟩
    · rw [h.zero] at hy; cases hy; exact Nat.le_refl _
    · have hyl : y.2.length = x.2.length + 1 := by rw [e, List.length_append]; rfl
      have hjm : j < m := by
        apply Classical.byContradiction
        intro hn
        rcases Nat.lt_or_eq_of_le (Nat.not_lt.1 hn) with hlt | rfl
        · rcases (h.up m j y x hlt hy hx).1 with h1 | ⟨h1, -⟩ <;> omega
        · rw [hx] at hy; cases hy; omega
      have := ih j hjm x hx
      omega
set_option maxHeartbeats 32000000 in
theorem first7_c {S : Nat → Prop} {H : Heap} {vA vB : Value} {a b : Option AM} {A B : DM} (hS : ∀ k, S k → k < H.size) (hvA : DfaV S H vA A) (hvB : DfaV S H vB B) (ha : Both a A) (hb : Both b B) (sa : StepOk a) (sb : StepOk b) :
    FnOk Try.prog 78 #[vA, vB, .int .i64 2] H fun v H' => Agr (Old H) H H' ∧ ∃ w ok, v = .tuple #[.string (bA w), .bool ok] ∧ FirstR (meetG a b) w ok := by
  have aok := ha.ok
  have bok := hb.ok
  have afl := aok.fl
  have bfl := bok.fl
  have lenA := cellsD_len A
  have lenB := cellsD_len B
  have hg : GraphOk (meetG a b) (repsD A B) 4294967296 1 := meet_ok sa sb (repsD_lt A B) (repsD_len A B)
  have hcov : ∀ c, c < 256 → ∃ r ∈ repsD A B, r ≤ c ∧ ∀ n, (meetG a b).next n r = (meetG a b).next n c := fun c hc => by
    obtain ⟨r, hr, hrc, h1, h2⟩ := repsD_cov A B c hc
    have hr8 := repsD_lt A B r hr
    exact ⟨r, hr, hrc, fun n => meet_cov (fun q => by rw [ha.step q r hr8, ha.step q c hc, h1]) (fun q => by rw [hb.step q r hr8, hb.step q c hc, h2])⟩
  have hup2 := repsD_up A B
  have hmr := meet_reach (A := A) (B := B) sa sb
  refine FnOk.of_vc Try.func78 rfl (Try.call78 _) ?_
  have hup : ∀ {H' : Heap} {ps : List Pc}, St H H' ps → ∀ k, S k → k < H'.size := fun st k hk => st.up (hS k hk)
  (conv => whnf); refine dfa_box hvA fun ra rc na nc fal fc he a1 a2 a3 => ?_
  subst he
  intro p1 H1 hp1 hs1 hb1 ha1
  have st1 := (St.nil H).box hp1 hs1 hb1 ha1
  (conv => whnf); refine dfa_box (hvB.frame (st1.old.mono hS)) fun ra' rc' na' nc' fal' fc' he b1 b2 b3 => ?_
  subst he
  intro p2 H2 hp2 hs2 hb2 ha2
  have st2 := st1.box hp2 hs2 hb2 ha2
  have hfA := (dfa_len hvA)
  have hfB := (dfa_len hvB)
  generalize dfaL A.cell (.slice ra A.reps.length rc) (.slice na A.next.length nc) (.slice fal A.final.length fc) = la at *
  generalize dfaL B.cell (.slice ra' B.reps.length rc') (.slice na' B.next.length nc') (.slice fal' B.final.length fc') = lb at *
  obtain ⟨hlA, fA, cA, hgA, hsA⟩ := hfA
  obtain ⟨hlB, fB, cB, hgB, hsB⟩ := hfB
  have hldA : ∀ {H' : Heap} {ps : List Pc} (S0 : Nat → Prop) {K : Value → Prop} (st : St H H' ps), ps[0]? = some (pB 37 p1 la) → S0 p1 → K (.agg la.toArray) → VDet Try.prog (Instr.loadAt 37 (.pointer (some ⟨p1, 0, none⟩))) S0 H' K := fun S0 K st hp hS0 hK =>
    ldN (cs := la) (by rw [hlA]; exact ag37) ((st.blk 0 hp).cells fun j v hv => by rw [Nat.zero_add]; exact hv) hS0 hK
  have hldB : ∀ {H' : Heap} {ps : List Pc} (S0 : Nat → Prop) {K : Value → Prop} (st : St H H' ps), ps[1]? = some (pB 37 p2 lb) → S0 p2 → K (.agg lb.toArray) → VDet Try.prog (Instr.loadAt 37 (.pointer (some ⟨p2, 0, none⟩))) S0 H' K := fun S0 K st hp hS0 hK =>
    ldN (cs := lb) (by rw [hlB]; exact ag37) ((st.blk 1 hp).cells fun j v hv => by rw [Nat.zero_add]; exact hv) hS0 hK
  (conv => whnf); refine vbuildS Try.underlying139 rfl _ prs_z (List.replicate 1026 (.slice none 0 0)) rfl ?_
  (conv => whnf); refine prs_new st2 fun pp3 H3 st3 => ?_
  (conv => whnf); refine add_v (n := root) (w := []) st3 2 rfl prsP_new rfl (by decide) (by decide) (by decide) (by decide) (fun x hx => by cases hx) (by simp) fun vs5 F5 H5 st5 hr5 hadd5 => ?_
  have hF5 : F5 = [(root, [])] := by
    rcases hadd5 with ⟨⟨y, hy, -⟩, -⟩ | ⟨-, h⟩
    · cases hy
    · exact h
  subst hF5
  have hA : DfaV (Old H5) H5 (.agg la.toArray) A := (hvA.frame (st5.old.mono hS)).mono (hup st5)
  have hB : DfaV (Old H5) H5 (.agg lb.toArray) B := (hvB.frame (st5.old.mono hS)).mono (hup st5)
  (conv => whnf); refine VDraw.cut [9] (fun p : Nat => [.pointer (some ⟨p, 0, none⟩)]) (fun p H' => ∃ cell ra rc S', cell.length = 256 ∧ St H5 H' [pB 37 p (dfaL cell (.slice ra (repsD A B).length rc) (.slice none 0 0) (.slice none 0 0)), pV ra rc (asI (repsD A B)) S']) ?_ ?_
  · refine VDraw.held (Old H5) 7 (sq [0,2] (.b 1 (.b 3 (.b 4 (.b 5 (.f 6 (.f 7 .e)) 6 (.f 5 (.f 7 .e))) 6 (.f 4 (.f 5 (.f 7 .e)))) 6 (.f 3 (.f 4 (.f 5 (.f 7 .e))))) 6 (.f 1 (.f 3 (.f 4 (.f 5 (.f 7 .e))))))) rfl (by kernel_rfl) ?_
    (conv => whnf); refine hldA _ st5 rfl (st5.in_ 0 rfl rfl).2 ?_
    (conv => whnf); refine hldB _ st5 rfl (st5.in_ 1 rfl rfl).2 ?_
    have sx0 := St.nil H5
    (conv => whnf); refine ⟨?_, ?_⟩
    · -- c1 first
      refine VCall.mk (refcellsB (S := Old H5) (fun k hk => old_lt sx0.old hk) (hA.frame sx0.old) aok) ?_
      rintro _ G1 ⟨ga1, go1⟩
      obtain ⟨xa1, xc1, rfl, sx1⟩ := sx0.got ga1 go1
      refine ⟨sx1.old, ?_⟩
      (conv => whnf); refine ⟨?_, ?_⟩
      · -- c2 first
        refine VCall.mk (refcellsB (S := Old H5) (fun k hk => old_lt sx1.old hk) (hB.frame sx1.old) bok) ?_
        rintro _ G2 ⟨ga2, go2⟩
        obtain ⟨xa2, xc2, rfl, sx2⟩ := sx1.got ga2 go2
        refine ⟨sx2.old, ?_⟩
        (conv => whnf); refine ⟨?_, ?_⟩
        · -- app first
          refine appSS sx2 0 1 slB_ rfl rfl lenB.1 tB_ones (by omega) (by decide) fun xa3 xc3 G3 sx3 _ => ?_
          refine ⟨sx3.old, ?_⟩
          (conv => whnf); refine ⟨?_, ?_⟩
          · -- par first
            refine VCall.mk (partedB List.length_append.symm (fun k hk => hk) (sx3.view 0 rfl) (by rw [List.length_append]; omega)) ?_
            rintro _ G4 ⟨ga4, cell, ra, rc, hcl, rfl, gr4⟩
            have sx4 := sx3.add ga4 (pV ra rc (asI (repsD A B)) (Fresh G3 G4)) gr4 (fun k hk => hk)
            refine ⟨sx4.old, ?_⟩
            (conv => whnf); refine valloc _ (dfaL (List.replicate 256 0) (.slice none 0 0) (.slice none 0 0) (.slice none 0 0)) rfl (by kernel_rfl) ?_
            intro pp G5 gp5 gs5 gb5 ga5
            have sx5 := sx4.box gp5 gs5 gb5 ga5
            refine ⟨sx5.old, ?_⟩
            (conv => whnf); refine stNB (cs := dfaL cell (.slice ra (repsD A B).length rc) (.slice none 0 0) (.slice none 0 0)) sx5 3 (by rw [dfaL_len hcl]; rfl) rfl (by rw [dfaL_len hcl]; decide) (dfaL_ones rfl rfl rfl) fun GF sf => ?_
            rw [splice_whole (by rw [dfaL_len hcl]; rfl)] at sf
            (conv => whnf); exact ⟨rfl, pp, rfl, cell, ra, rc, _, hcl, sf.pick [3, 2] (by decide)⟩
          · -- the block first
            refine valloc _ (dfaL (List.replicate 256 0) (.slice none 0 0) (.slice none 0 0) (.slice none 0 0)) rfl (by kernel_rfl) ?_
            intro pp G4 gp4 gs4 gb4 ga4
            have sx4 := sx3.box gp4 gs4 gb4 ga4
            refine ⟨sx4.old, ?_⟩
            (conv => whnf); refine VCall.mk (partedB List.length_append.symm (fun k hk => hk) (sx4.view 0 rfl) (by rw [List.length_append]; omega)) ?_
            rintro _ G5 ⟨ga5, cell, ra, rc, hcl, rfl, gr5⟩
            have sx5 := sx4.add ga5 (pV ra rc (asI (repsD A B)) (Fresh G4 G5)) gr5 (fun k hk => hk)
            refine ⟨sx5.old, ?_⟩
            (conv => whnf); refine stNB (cs := dfaL cell (.slice ra (repsD A B).length rc) (.slice none 0 0) (.slice none 0 0)) sx5 2 (by rw [dfaL_len hcl]; rfl) rfl (by rw [dfaL_len hcl]; decide) (dfaL_ones rfl rfl rfl) fun GF sf => ?_
            rw [splice_whole (by rw [dfaL_len hcl]; rfl)] at sf
            (conv => whnf); exact ⟨rfl, pp, rfl, cell, ra, rc, _, hcl, sf.pick [2, 3] (by decide)⟩
        · -- the block first
          refine valloc _ (dfaL (List.replicate 256 0) (.slice none 0 0) (.slice none 0 0) (.slice none 0 0)) rfl (by kernel_rfl) ?_
          intro pp G3 gp3 gs3 gb3 ga3
          have sx3 := sx2.box gp3 gs3 gb3 ga3
          refine ⟨sx3.old, ?_⟩
          (conv => whnf); refine appSS sx3 0 1 slB_ rfl rfl lenB.1 tB_ones (by omega) (by decide) fun xa4 xc4 G4 sx4 _ => ?_
          refine ⟨sx4.old, ?_⟩
          (conv => whnf); refine VCall.mk (partedB List.length_append.symm (fun k hk => hk) (sx4.view 0 rfl) (by rw [List.length_append]; omega)) ?_
          rintro _ G5 ⟨ga5, cell, ra, rc, hcl, rfl, gr5⟩
          have sx5 := sx4.add ga5 (pV ra rc (asI (repsD A B)) (Fresh G4 G5)) gr5 (fun k hk => hk)
          refine ⟨sx5.old, ?_⟩
          (conv => whnf); refine stNB (cs := dfaL cell (.slice ra (repsD A B).length rc) (.slice none 0 0) (.slice none 0 0)) sx5 2 (by rw [dfaL_len hcl]; rfl) rfl (by rw [dfaL_len hcl]; decide) (dfaL_ones rfl rfl rfl) fun GF sf => ?_
          rw [splice_whole (by rw [dfaL_len hcl]; rfl)] at sf
          (conv => whnf); exact ⟨rfl, pp, rfl, cell, ra, rc, _, hcl, sf.pick [2, 3] (by decide)⟩
      · -- the block first
        refine valloc _ (dfaL (List.replicate 256 0) (.slice none 0 0) (.slice none 0 0) (.slice none 0 0)) rfl (by kernel_rfl) ?_
        intro pp G2 gp2 gs2 gb2 ga2
        have sx2 := sx1.box gp2 gs2 gb2 ga2
        refine ⟨sx2.old, ?_⟩
        (conv => whnf); refine VCall.mk (refcellsB (S := Old H5) (fun k hk => old_lt sx2.old hk) (hB.frame sx2.old) bok) ?_
        rintro _ G3 ⟨ga3, go3⟩
        obtain ⟨xa3, xc3, rfl, sx3⟩ := sx2.got ga3 go3
        refine ⟨sx3.old, ?_⟩
        (conv => whnf); refine appSS sx3 0 2 slB_ rfl rfl lenB.1 tB_ones (by omega) (by decide) fun xa4 xc4 G4 sx4 _ => ?_
        refine ⟨sx4.old, ?_⟩
        (conv => whnf); refine VCall.mk (partedB List.length_append.symm (fun k hk => hk) (sx4.view 0 rfl) (by rw [List.length_append]; omega)) ?_
        rintro _ G5 ⟨ga5, cell, ra, rc, hcl, rfl, gr5⟩
        have sx5 := sx4.add ga5 (pV ra rc (asI (repsD A B)) (Fresh G4 G5)) gr5 (fun k hk => hk)
        refine ⟨sx5.old, ?_⟩
        (conv => whnf); refine stNB (cs := dfaL cell (.slice ra (repsD A B).length rc) (.slice none 0 0) (.slice none 0 0)) sx5 1 (by rw [dfaL_len hcl]; rfl) rfl (by rw [dfaL_len hcl]; decide) (dfaL_ones rfl rfl rfl) fun GF sf => ?_
        rw [splice_whole (by rw [dfaL_len hcl]; rfl)] at sf
        (conv => whnf); exact ⟨rfl, pp, rfl, cell, ra, rc, _, hcl, sf.pick [1, 3] (by decide)⟩
    · -- the block first
      refine valloc _ (dfaL (List.replicate 256 0) (.slice none 0 0) (.slice none 0 0) (.slice none 0 0)) rfl (by kernel_rfl) ?_
      intro pp G1 gp1 gs1 gb1 ga1
      have sx1 := sx0.box gp1 gs1 gb1 ga1
      refine ⟨sx1.old, ?_⟩
      (conv => whnf); refine VCall.mk (refcellsB (S := Old H5) (fun k hk => old_lt sx1.old hk) (hA.frame sx1.old) aok) ?_
      rintro _ G2 ⟨ga2, go2⟩
      obtain ⟨xa2, xc2, rfl, sx2⟩ := sx1.got ga2 go2
      refine ⟨sx2.old, ?_⟩
      (conv => whnf); refine VCall.mk (refcellsB (S := Old H5) (fun k hk => old_lt sx2.old hk) (hB.frame sx2.old) bok) ?_
      rintro _ G3 ⟨ga3, go3⟩
      obtain ⟨xa3, xc3, rfl, sx3⟩ := sx2.got ga3 go3
      refine ⟨sx3.old, ?_⟩
      (conv => whnf); refine appSS sx3 1 2 slB_ rfl rfl lenB.1 tB_ones (by omega) (by decide) fun xa4 xc4 G4 sx4 _ => ?_
      refine ⟨sx4.old, ?_⟩
      (conv => whnf); refine VCall.mk (partedB List.length_append.symm (fun k hk => hk) (sx4.view 1 rfl) (by rw [List.length_append]; omega)) ?_
      rintro _ G5 ⟨ga5, cell, ra, rc, hcl, rfl, gr5⟩
      have sx5 := sx4.add ga5 (pV ra rc (asI (repsD A B)) (Fresh G4 G5)) gr5 (fun k hk => hk)
      refine ⟨sx5.old, ?_⟩
      (conv => whnf); refine stNB (cs := dfaL cell (.slice ra (repsD A B).length rc) (.slice none 0 0) (.slice none 0 0)) sx5 0 (by rw [dfaL_len hcl]; rfl) rfl (by rw [dfaL_len hcl]; decide) (dfaL_ones rfl rfl rfl) fun GF sf => ?_
      rw [splice_whole (by rw [dfaL_len hcl]; rfl)] at sf
      (conv => whnf); exact ⟨rfl, pp, rfl, cell, ra, rc, _, hcl, sf.pick [0, 3] (by decide)⟩
  · rintro p4 H6 junk6 ⟨cell, ra, rc, S', hcl, sr6⟩
    have st6 := st5.cat sr6
    have hlt8 := repsD_lt A B
    have hrl : (asI (repsD A B)).length = (repsD A B).length := by unfold asI; rw [List.length_map]
    have hrg : ∀ (k r : Nat), (repsD A B)[k]? = some r → (asI (repsD A B))[k]? = some (r : Int) := fun k r h => by unfold asI; rw [List.getElem?_map, h]; rfl
    have hnb := hg.nb
    generalize repsD A B = by_ at *
    have hstA : ∀ {H' : Heap} {ps : List Pc}, St H H' ps → ∀ {q : Int} {c : Nat}, c < 256 → Pure Try.prog 22 #[.agg la.toArray, .int .i64 q, .int .u8 (c : Int)] H' (.int .i64 (stepM a q c)) := fun st q c hc => by
      rw [ha.step q c hc]; exact refstep_p (hup st) (hvA.frame (st.old.mono hS)) aok hc
    have hstB : ∀ {H' : Heap} {ps : List Pc}, St H H' ps → ∀ {q : Int} {c : Nat}, c < 256 → Pure Try.prog 22 #[.agg lb.toArray, .int .i64 q, .int .u8 (c : Int)] H' (.int .i64 (stepM b q c)) := fun st q c hc => by
      rw [hb.step q c hc]; exact refstep_p (hup st) (hvB.frame (st.old.mono hS)) bok hc
    (conv => whnf)
    refine VLoop.mk [10] (fun x : Nat × List NW => match x with | (i, F) => [.int .i64 (i : Int)])
      (fun x H7 => x.1 ≤ x.2.length ∧ BfsOk (meetG a b) by_ root x.2 x.1 0 ∧ (∀ (m : Nat) (y : NW), m < x.1 → x.2[m]? = some y → (meetG a b).ends y.1 = false) ∧ ∃ vs, PrsP vs x.2 ∧ St H H7 [pB 37 p1 la, pB 37 p2 lb, pPrs pp3 vs x.2, pB 37 p4 (dfaL cell (.slice ra by_.length rc) (.slice none 0 0) (.slice none 0 0)), pV ra rc (asI by_) S']) (fun x _ => 4294967296 - x.1) ?_ ?_
    · (conv => whnf)
      exact ⟨(0, [(root, [])]), rfl, Nat.zero_le _, BfsOk.start, fun m y hm => absurd hm (Nat.not_lt_zero _), vs5, hr5, st6⟩
    · rintro ⟨i, F⟩ H7 junk7 ⟨hi, hbfs, hno, vs7, hr7, st7⟩
      simp only at hi hbfs hno hr7 st7
      have hrch : ∀ (F' : List NW) (i' k' : Nat), BfsOk (meetG a b) by_ root F' i' k' → ∀ x ∈ F', Reach (meetG a b) by_ root x.1 := fun F' i' k' h x hx => to_reach .refl (h.ok x hx).1 (h.ok x hx).2
      have hFM : ∀ (F' : List NW) (i' k' : Nat), BfsOk (meetG a b) by_ root F' i' k' → F'.length ≤ 4294967296 := fun F' i' k' h => by
        rw [← List.length_map (f := (·.1))]
        exact hg.card _ h.nd fun n hn => by
          obtain ⟨x, hx, rfl⟩ := List.mem_map.1 hn
          exact hrch F' i' k' h x hx
      have hFM7 := hFM F i 0 hbfs
      obtain ⟨v0, hv0⟩ := get_some (l := vs7) (k := 0) (by rw [hr7.len]; decide)
      have hk7 : Blk H7 pp3 139 vs7 := st7.fblk 2 rfl
      obtain ⟨a0, c0, e0, hvs⟩ := st7.fview 2 rfl hv0 (xs := F.map (·.1)) (T := tPr) (e := 141) rfl
      rw [List.length_map] at e0
      subst e0
      (conv => whnf); refine VC.fa fl139_0 ?_
      (conv => whnf); refine ld1 (v := .slice a0 F.length c0) ct135 (by rw [hk7.cell]; exact hv0) trivial ?_
      (conv => whnf); refine VIte.mk (fun hz => ?_) (fun hz => ?_) <;> simp only [decide_eq_true_eq, decide_eq_false_iff_not] at hz
      · obtain ⟨y, hy⟩ := get_some (l := F) (k := i) (by omega)
        have hymem := List.mem_of_getElem? hy
        have hyr := hrch F i 0 hbfs y hymem
        have hym := hmr y.1 hyr
        obtain ⟨hy0, hyx, hyy⟩ := hym
        have hy1 : (F.map (·.1))[i]? = some y.1 := by rw [List.getElem?_map, hy]; rfl
        (conv => whnf); refine VDraw.lex rfl (by kernel_rfl) ?_
        (conv => whnf); refine VC.fa fl139_0 ?_
        (conv => whnf); refine ld1 (v := .slice a0 F.length c0) ct135 (by rw [hk7.cell]; exact hv0) trivial ?_
        (conv => whnf); refine ixrn (i := i) (x := y.1) sl135 hvs (by simp) hy1 rfl ?_
        rintro b8 o8 cs8 hS8 hc8 ⟨-, rfl⟩
        (conv => whnf); refine ixa ar141 (by decide) (by decide) ?_
        (conv => whnf); refine ld1 (v := .int .i64 y.1.x) ct3 (hc8 0 _ rfl) trivial ?_
        (conv => whnf); refine VC.fa fl139_0 ?_
        (conv => whnf); refine ld1 (v := .slice a0 F.length c0) ct135 (by rw [hk7.cell]; exact hv0) trivial ?_
        (conv => whnf); refine ixrn (i := i) (x := y.1) sl135 hvs (by simp) hy1 rfl ?_
        rintro b9 o9 cs9 hS9 hc9 ⟨-, rfl⟩
        (conv => whnf); refine ixa ar141 (by decide) (by decide) ?_
        (conv => whnf); refine ld1 (v := .int .i64 y.1.y) ct3 (hc9 1 _ rfl) trivial ?_
        have hfxA : 0 ≤ y.1.x ∧ y.1.x < A.final.length := ⟨hyx.1, by have := hyx.2; rw [ha.n] at this; omega⟩
        have hfxB : 0 ≤ y.1.y ∧ y.1.y < B.final.length := ⟨hyy.1, by have := hyy.2; rw [hb.n] at this; omega⟩
        have hfinA : ∀ (S0 : Nat → Prop) (K : Value → Prop), (∀ p o, VC.cell H7 p o = some (.bool (finM a y.1.x)) → K (.pointer (some ⟨p, o, none⟩))) → VDet Try.prog (Instr.indexAt 24 (.slice fA A.final.length cA) (.int .i64 y.1.x)) S0 H7 K := fun S0 K hK =>
          fin_ix (hsA.frame (st7.old.mono hS)) hfxA.1 hfxA.2 fun p o _ hc => hK p o (by rw [hc, ha.fin])
        have hfinB : ∀ (S0 : Nat → Prop) (K : Value → Prop), (∀ p o, VC.cell H7 p o = some (.bool (finM b y.1.y)) → K (.pointer (some ⟨p, o, none⟩))) → VDet Try.prog (Instr.indexAt 24 (.slice fB B.final.length cB) (.int .i64 y.1.y)) S0 H7 K := fun S0 K hK =>
          fin_ix (hsB.frame (st7.old.mono hS)) hfxB.1 hfxB.2 fun p o _ hc => hK p o (by rw [hc, hb.fin])
        have hends : (meetG a b).ends y.1 = (finM a y.1.x && finM b y.1.y) := rfl
        have hb1 : Blk H7 p1 37 la := st7.blk 0 rfl
        have hb2 : Blk H7 p2 37 lb := st7.blk 1 rfl
        (conv => whnf); refine VDraw.lex rfl (by kernel_rfl) ?_
        (conv => whnf); refine VC.fa fl37_3 ?_
        (conv => whnf); refine ld1 (v := .slice fA A.final.length cA) ct24 (by rw [hb1.cell]; exact hgA) trivial ?_
        (conv => whnf); refine hfinA _ _ fun q1 o1 hq1 => ?_
        (conv => whnf); refine ld1 ct4 hq1 trivial ?_
        (conv => whnf); refine VC.fa fl37_3 ?_
        (conv => whnf); refine ld1 (v := .slice fB B.final.length cB) ct24 (by rw [hb2.cell]; exact hgB) trivial ?_
        (conv => whnf); refine hfinB _ _ fun q2 o2 hq2 => ?_
        (conv => whnf); refine ld1 ct4 hq2 trivial ?_
        (conv => whnf); refine bneq_b (by kernel_rfl) ?_
        (conv => whnf); refine VSeq.run ?_
        (conv => whnf)
        refine VSeq.cut [13] (fun _ : Unit => [.bool ((meetG a b).ends y.1)]) (fun _ H' => H' = H7) ?_ ?_
        · (conv => whnf); refine VC.fa fl37_3 ?_
          (conv => whnf); refine ld1 (v := .slice fA A.final.length cA) ct24 (by rw [hb1.cell]; exact hgA) trivial ?_
          (conv => whnf); refine hfinA _ _ fun q3 o3 hq3 => ?_
          (conv => whnf); refine ld1 ct4 hq3 trivial ?_
          rw [hends]
          cases finM a y.1.x with
          | false =>
            (conv => whnf)
            exact ⟨rfl, (), rfl, rfl⟩
          | true =>
            (conv => whnf); refine VC.fa fl37_3 ?_
            (conv => whnf); refine ld1 (v := .slice fB B.final.length cB) ct24 (by rw [hb2.cell]; exact hgB) trivial ?_
            (conv => whnf); refine hfinB _ _ fun q4 o4 hq4 => ?_
            (conv => whnf); refine ld1 ct4 hq4 trivial ?_
            (conv => whnf)
            exact ⟨rfl, (), rfl, rfl⟩
        · rintro ⟨⟩ _ junk8 rfl
          (conv => whnf)
          cases he : (meetG a b).ends y.1
          case true =>
            obtain ⟨v1, hv1⟩ := get_some (l := vs7) (k := 1) (by rw [hr7.len]; decide)
            obtain ⟨a1, c1, e1, hvw⟩ := st7.fview 2 rfl hv1 (xs := F.map (·.2)) (T := tW) (e := 9) rfl
            rw [List.length_map] at e1
            subst e1
            have hy2 : (F.map (·.2))[i]? = some y.2 := by rw [List.getElem?_map, hy]; rfl
            (conv => whnf); refine VC.fa fl139_1 ?_
            (conv => whnf); refine ld1 (v := .slice a1 F.length c1) ct136 (by rw [hk7.cell]; exact hv1) trivial ?_
            (conv => whnf); refine ixrn (i := i) (x := y.2) sl136 hvw (by simp) hy2 rfl ?_
            rintro b10 o10 cs10 hS10 hc10 rfl
            (conv => whnf); refine ld1 (v := .string (bA y.2)) ct9 (hc10 0 _ rfl) trivial ?_
            (conv => whnf)
            exact ⟨st7.old, y.2, true, rfl, And.intro (fun _ => hbfs.found hcov hlt8 hy he hno) (fun h => by cases h)⟩
          case false =>
            (conv => whnf)
            refine VLoop.mk [14] (fun x : Nat × List NW => match x with | (k, F') => [.int .i64 (k : Int)])
              (fun x H9 => x.1 ≤ by_.length ∧ BfsOk (meetG a b) by_ root x.2 i x.1 ∧ (∀ m, m ≤ i → x.2[m]? = F[m]?) ∧ ∃ vs, PrsP vs x.2 ∧ St H H9 [pB 37 p1 la, pB 37 p2 lb, pPrs pp3 vs x.2, pB 37 p4 (dfaL cell (.slice ra by_.length rc) (.slice none 0 0) (.slice none 0 0)), pV ra rc (asI by_) S']) (fun x _ => by_.length - x.1) ?_ ?_
            · (conv => whnf)
              exact ⟨(0, F), rfl, Nat.zero_le _, hbfs, fun _ _ => rfl, vs7, hr7, st7⟩
            · rintro ⟨k, F9⟩ H9 junk9 ⟨hk, hbfs9, hpre, vs9, hr9, st9⟩
              simp only at hk hbfs9 hpre hr9 st9
              have hb4 : Blk H9 p4 37 (dfaL cell (.slice ra by_.length rc) (.slice none 0 0) (.slice none 0 0)) := st9.blk 3 rfl
              have hy9 : F9[i]? = some y := by rw [hpre i (Nat.le_refl _)]; exact hy
              have hi9 := (List.getElem?_eq_some_iff.1 hy9).1
              have hFM9 := hFM F9 i k hbfs9
              (conv => whnf); refine VC.fa fl37_1 ?_
              (conv => whnf); refine ld1 (v := .slice ra by_.length rc) ct35 (by rw [hb4.cell]; exact dfaL_256 hcl) trivial ?_
              (conv => whnf); refine VIte.mk (fun hz => ?_) (fun hz => ?_) <;> simp only [decide_eq_true_eq, decide_eq_false_iff_not] at hz
              · obtain ⟨c, hc⟩ := get_some (l := by_) (k := k) (by omega)
                have hc8 := hlt8 c (List.mem_of_getElem? hc)
                (conv => whnf); refine VC.fa fl37_1 ?_
                (conv => whnf); refine ld1 (v := .slice ra by_.length rc) ct35 (by rw [hb4.cell]; exact dfaL_256 hcl) trivial ?_
                (conv => whnf); refine ixrn (i := k) (x := (c : Int)) sl35 (st9.at_ 4 rfl) hrl.symm (hrg k c hc) rfl ?_
                rintro b11 o11 cs11 hS11 hc11 ⟨rfl, -⟩
                (conv => whnf); refine ld1 (v := .int .i64 (c : Int)) ct3 hc11.one trivial ?_
                (conv => whnf); rw [w8 (x := (c : Int)) (by omega) (by omega)]
                have hstA : ∀ {H' : Heap} {ps : List Pc}, St H H' ps → Pure Try.prog 22 #[.agg la.toArray, .int .i64 y.1.x, .int .u8 (c : Int)] H' (.int .i64 (stepM a y.1.x c)) := fun st => hstA st hc8
                have hstB : ∀ {H' : Heap} {ps : List Pc}, St H H' ps → Pure Try.prog 22 #[.agg lb.toArray, .int .i64 y.1.y, .int .u8 (c : Int)] H' (.int .i64 (stepM b y.1.y c)) := fun st => hstB st hc8
                have htx : (0 : Int) ≤ stepM a y.1.x c ∧ stepM a y.1.x c < 65536 ∧ (0 : Int) ≤ stepM b y.1.y c ∧ stepM b y.1.y c < 65536 := by
                  have h1 := sa.step _ _ hyx hc8
                  have h2 := sb.step _ _ hyy hc8
                  have h3 := sa.n2
                  have h4 := sb.n2
                  unfold inA at h1 h2
                  omega
                have hyl := hbfs9.size i y hy9
                have hsz : (bA y.2).size + (bA [c]).size ≤ maxLen := by
                  rw [bA_size, bA_size]
                  unfold maxLen
                  simp only [List.length_singleton]
                  omega
                have hcat : bA y.2 ++ (⟨([c].map UInt8.ofNat).toArray⟩ : ByteArray) = bA (y.2 ++ [c]) := bA_append _ _
                have hFs : ∀ x ∈ F9, x.1.s = 0 := fun x hx => (hmr x.1 (hrch F9 i k hbfs9 x hx)).1
                have hone : ∀ {G : Heap} {q t : Nat} {j x : Nat}, Blk G q t [.int .u8 (c : Int)] → [c][j]? = some x → VC.cell G q (0 + j) = some (.int .u8 (x : Int)) := fun {G q t j x} hq hx => by
                  cases j with
                  | zero => cases hx; rw [hq.cell]; rfl
                  | succ j => simp at hx
                have hclose : ∀ (vsn : List Value) (Fn : List NW) (GN : Heap), St H GN [pB 37 p1 la, pB 37 p2 lb, pPrs pp3 vsn Fn, pB 37 p4 (dfaL cell (.slice ra by_.length rc) (.slice none 0 0) (.slice none 0 0)), pV ra rc (asI by_) S'] → PrsP vsn Fn → Add F9 ⟨0, stepM a y.1.x c, stepM b y.1.y c⟩ (y.2 ++ [c]) Fn → k + 1 ≤ by_.length ∧ BfsOk (meetG a b) by_ root Fn i (k + 1) ∧ (∀ m, m ≤ i → Fn[m]? = F[m]?) ∧ ∃ vs, PrsP vs Fn ∧ St H GN [pB 37 p1 la, pB 37 p2 lb, pPrs pp3 vs Fn, pB 37 p4 (dfaL cell (.slice ra by_.length rc) (.slice none 0 0) (.slice none 0 0)), pV ra rc (asI by_) S'] := fun vsn Fn GN hst hr hadd => by
                  refine ⟨by omega, hbfs9.add hup2 hy9 hc rfl hadd, fun m hm => ?_, vsn, hr, hst⟩
                  rw [← hpre m hm]
                  rcases hadd with ⟨-, rfl⟩ | ⟨-, rfl⟩
                  · rfl
                  · rw [List.getElem?_append_left (by omega)]
                obtain ⟨v9, hv9⟩ := get_some (l := vs9) (k := 1) (by rw [hr9.len]; decide)
                obtain ⟨a9, c9, e9, hvw9⟩ := st9.fview 2 rfl hv9 (xs := F9.map (·.2)) (T := tW) (e := 9) rfl
                rw [List.length_map] at e9
                subst e9
                have hk9 : Blk H9 pp3 139 vs9 := st9.fblk 2 rfl
                have hy92 : (F9.map (·.2))[i]? = some y.2 := by rw [List.getElem?_map, hy9]; rfl
                have hin : ∀ {j : Nat}, Old H9 j ↔ j < H9.size := Iff.rfl
                (conv => whnf); refine VDraw.heldZ (Old H9) [20] (sq [0,1,2,3,5,6,7,9,10,11,12,13,14,15,16] (.b 4 (.b 8 (.f 17 (.f 18 (sq [19] (.f 20 .e)))) 17 (.b 8 (.f 18 (sq [19] (.f 20 .e))) 18 (sq [19] (.f 8 (.f 20 .e))))) 17 (.b 4 (.b 8 (.f 18 (sq [19] (.f 20 .e))) 18 (sq [19] (.f 8 (.f 20 .e)))) 18 (sq [19] (.f 4 (.f 8 (.f 20 .e))))))) rfl (by kernel_rfl) ?_
                (conv => whnf); refine hldA _ st9 rfl (st9.in_ 0 rfl rfl).2 ?_
                (conv => whnf); refine hldB _ st9 rfl (st9.in_ 1 rfl rfl).2 ?_
                (conv => whnf); refine VC.fa fl139_1 ?_
                (conv => whnf); refine ld1 (v := .slice a9 F9.length c9) ct136 (by rw [hk9.cell]; exact hv9) hk9.lt ?_
                (conv => whnf); refine ixrn (i := i) (x := y.2) sl136 hvw9 (by simp) hy92 rfl ?_
                rintro b12 o12 cs12 hS12 hc12 rfl
                (conv => whnf); refine ld1 (v := .string (bA y.2)) ct9 (hc12 0 _ rfl) hS12 ?_
                have sx0 := st9
                have gg0 : Agr (Old H9) H9 H9 := Agr.refl _ _
                (conv => whnf); refine ⟨?_, ?_⟩
                · -- 4
                  refine pures (hstA sx0) fun G1 gc1 => ?_
                  have sx1 := sx0.call gc1
                  have gg1 := gg0.trans (gc1.mono fun k hk => old_lt gg0 hk)
                  refine ⟨gg1, ?_⟩
                  (conv => whnf); refine ⟨?_, ?_⟩
                  · -- 8
                    refine pures (hstB sx1) fun G2 gc2 => ?_
                    have sx2 := sx1.call gc2
                    have gg2 := gg1.trans (gc2.mono fun k hk => old_lt gg1 hk)
                    refine ⟨gg2, ?_⟩
                    (conv => whnf); refine vbuild1 sl107 [.int .u8 (c : Int)] rfl rfl (by decide) (by decide) ?_
                    intro qq G3 gq3 gs3 gb3 ga3
                    have sx3 := sx2.box gq3 gs3 gb3 ga3
                    have gg3 := gg2.trans (ga3.mono fun k hk => by have := old_lt gg2 hk; omega)
                    refine ⟨gg3, ?_⟩
                    (conv => whnf); refine vb2s [c] rfl rfl rfl (fun j x hx => hone (sx3.blk 5 rfl) hx) rfl ?_
                    have sx4 := sx3
                    have gg4 := gg3
                    refine ⟨gg4, ?_⟩
                    (conv => whnf); refine vcat hsz ?_
                    rw [hcat]
                    (conv => whnf); refine add_v (n := ⟨0, stepM a y.1.x c, stepM b y.1.y c⟩) (w := y.2 ++ [c]) sx4 2 rfl hr9 rfl htx.1 htx.2.1 htx.2.2.1 htx.2.2.2 hFs (by omega) fun vsn Fn GN sN hrN hadd => ?_
                    (conv => whnf); rw [w64 (x := (k : Int) + 1) (by omega) (by omega)]
                    exact ⟨rfl, (k + 1, Fn), rfl, hclose vsn Fn GN (sN.pick [0, 1, 2, 3, 4] (by decide)) hrN hadd, by omega⟩
                  · -- 17
                    refine vbuild1 sl107 [.int .u8 (c : Int)] rfl rfl (by decide) (by decide) ?_
                    intro qq G2 gq2 gs2 gb2 ga2
                    have sx2 := sx1.box gq2 gs2 gb2 ga2
                    have gg2 := gg1.trans (ga2.mono fun k hk => by have := old_lt gg1 hk; omega)
                    refine ⟨gg2, ?_⟩
                    (conv => whnf); refine ⟨?_, ?_⟩
                    · -- 8
                      refine pures (hstB sx2) fun G3 gc3 => ?_
                      have sx3 := sx2.call gc3
                      have gg3 := gg2.trans (gc3.mono fun k hk => old_lt gg2 hk)
                      refine ⟨gg3, ?_⟩
                      (conv => whnf); refine vb2s [c] rfl rfl rfl (fun j x hx => hone (sx3.blk 5 rfl) hx) rfl ?_
                      have sx4 := sx3
                      have gg4 := gg3
                      refine ⟨gg4, ?_⟩
                      (conv => whnf); refine vcat hsz ?_
                      rw [hcat]
                      (conv => whnf); refine add_v (n := ⟨0, stepM a y.1.x c, stepM b y.1.y c⟩) (w := y.2 ++ [c]) sx4 2 rfl hr9 rfl htx.1 htx.2.1 htx.2.2.1 htx.2.2.2 hFs (by omega) fun vsn Fn GN sN hrN hadd => ?_
                      (conv => whnf); rw [w64 (x := (k : Int) + 1) (by omega) (by omega)]
                      exact ⟨rfl, (k + 1, Fn), rfl, hclose vsn Fn GN (sN.pick [0, 1, 2, 3, 4] (by decide)) hrN hadd, by omega⟩
                    · -- 18
                      refine vb2s [c] rfl rfl rfl (fun j x hx => hone (sx2.blk 5 rfl) hx) rfl ?_
                      have sx3 := sx2
                      have gg3 := gg2
                      refine ⟨gg3, ?_⟩
                      (conv => whnf); refine vcat hsz ?_
                      rw [hcat]
                      (conv => whnf); refine pures (hstB sx3) fun G4 gc4 => ?_
                      have sx4 := sx3.call gc4
                      have gg4 := gg3.trans (gc4.mono fun k hk => old_lt gg3 hk)
                      refine ⟨gg4, ?_⟩
                      (conv => whnf); refine add_v (n := ⟨0, stepM a y.1.x c, stepM b y.1.y c⟩) (w := y.2 ++ [c]) sx4 2 rfl hr9 rfl htx.1 htx.2.1 htx.2.2.1 htx.2.2.2 hFs (by omega) fun vsn Fn GN sN hrN hadd => ?_
                      (conv => whnf); rw [w64 (x := (k : Int) + 1) (by omega) (by omega)]
                      exact ⟨rfl, (k + 1, Fn), rfl, hclose vsn Fn GN (sN.pick [0, 1, 2, 3, 4] (by decide)) hrN hadd, by omega⟩
                · -- 17
                  refine vbuild1 sl107 [.int .u8 (c : Int)] rfl rfl (by decide) (by decide) ?_
                  intro qq G1 gq1 gs1 gb1 ga1
                  have sx1 := sx0.box gq1 gs1 gb1 ga1
                  have gg1 := gg0.trans (ga1.mono fun k hk => by have := old_lt gg0 hk; omega)
                  refine ⟨gg1, ?_⟩
                  (conv => whnf); refine ⟨?_, ?_⟩
                  · -- 4
                    refine pures (hstA sx1) fun G2 gc2 => ?_
                    have sx2 := sx1.call gc2
                    have gg2 := gg1.trans (gc2.mono fun k hk => old_lt gg1 hk)
                    refine ⟨gg2, ?_⟩
                    (conv => whnf); refine ⟨?_, ?_⟩
                    · -- 8
                      refine pures (hstB sx2) fun G3 gc3 => ?_
                      have sx3 := sx2.call gc3
                      have gg3 := gg2.trans (gc3.mono fun k hk => old_lt gg2 hk)
                      refine ⟨gg3, ?_⟩
                      (conv => whnf); refine vb2s [c] rfl rfl rfl (fun j x hx => hone (sx3.blk 5 rfl) hx) rfl ?_
                      have sx4 := sx3
                      have gg4 := gg3
                      refine ⟨gg4, ?_⟩
                      (conv => whnf); refine vcat hsz ?_
                      rw [hcat]
                      (conv => whnf); refine add_v (n := ⟨0, stepM a y.1.x c, stepM b y.1.y c⟩) (w := y.2 ++ [c]) sx4 2 rfl hr9 rfl htx.1 htx.2.1 htx.2.2.1 htx.2.2.2 hFs (by omega) fun vsn Fn GN sN hrN hadd => ?_
                      (conv => whnf); rw [w64 (x := (k : Int) + 1) (by omega) (by omega)]
                      exact ⟨rfl, (k + 1, Fn), rfl, hclose vsn Fn GN (sN.pick [0, 1, 2, 3, 4] (by decide)) hrN hadd, by omega⟩
                    · -- 18
                      refine vb2s [c] rfl rfl rfl (fun j x hx => hone (sx2.blk 5 rfl) hx) rfl ?_
                      have sx3 := sx2
                      have gg3 := gg2
                      refine ⟨gg3, ?_⟩
                      (conv => whnf); refine vcat hsz ?_
                      rw [hcat]
                      (conv => whnf); refine pures (hstB sx3) fun G4 gc4 => ?_
                      have sx4 := sx3.call gc4
                      have gg4 := gg3.trans (gc4.mono fun k hk => old_lt gg3 hk)
                      refine ⟨gg4, ?_⟩
                      (conv => whnf); refine add_v (n := ⟨0, stepM a y.1.x c, stepM b y.1.y c⟩) (w := y.2 ++ [c]) sx4 2 rfl hr9 rfl htx.1 htx.2.1 htx.2.2.1 htx.2.2.2 hFs (by omega) fun vsn Fn GN sN hrN hadd => ?_
                      (conv => whnf); rw [w64 (x := (k : Int) + 1) (by omega) (by omega)]
                      exact ⟨rfl, (k + 1, Fn), rfl, hclose vsn Fn GN (sN.pick [0, 1, 2, 3, 4] (by decide)) hrN hadd, by omega⟩
                  · -- 18
                    refine vb2s [c] rfl rfl rfl (fun j x hx => hone (sx1.blk 5 rfl) hx) rfl ?_
                    have sx2 := sx1
                    have gg2 := gg1
                    refine ⟨gg2, ?_⟩
                    (conv => whnf); refine vcat hsz ?_
                    rw [hcat]
                    (conv => whnf); refine pures (hstA sx2) fun G3 gc3 => ?_
                    have sx3 := sx2.call gc3
                    have gg3 := gg2.trans (gc3.mono fun k hk => old_lt gg2 hk)
                    refine ⟨gg3, ?_⟩
                    (conv => whnf); refine pures (hstB sx3) fun G4 gc4 => ?_
                    have sx4 := sx3.call gc4
                    have gg4 := gg3.trans (gc4.mono fun k hk => old_lt gg3 hk)
                    refine ⟨gg4, ?_⟩
                    (conv => whnf); refine add_v (n := ⟨0, stepM a y.1.x c, stepM b y.1.y c⟩) (w := y.2 ++ [c]) sx4 2 rfl hr9 rfl htx.1 htx.2.1 htx.2.2.1 htx.2.2.2 hFs (by omega) fun vsn Fn GN sN hrN hadd => ?_
                    (conv => whnf); rw [w64 (x := (k : Int) + 1) (by omega) (by omega)]
                    exact ⟨rfl, (k + 1, Fn), rfl, hclose vsn Fn GN (sN.pick [0, 1, 2, 3, 4] (by decide)) hrN hadd, by omega⟩
              · have : k = by_.length := Nat.le_antisymm hk (by omega)
                subst this
                (conv => whnf); rw [w64 (x := (i : Int) + 1) (by omega) (by omega)]
                refine ⟨rfl, (i + 1, F9), rfl, ⟨hi9, hbfs9.turn (Nat.le_refl _), fun m z hm hz => ?_, vs9, hr9, st9⟩, show 4294967296 - (i + 1) < 4294967296 - i by omega⟩
                rcases Nat.lt_or_eq_of_le (Nat.le_of_lt_succ (show m < i + 1 from hm)) with hm | rfl
                · exact hno m z hm (by rw [← hpre m (Nat.le_of_lt hm)]; exact hz)
                · rw [hy9] at hz; cases hz; exact he
      · obtain rfl : i = F.length := by omega
        (conv => whnf)
        exact ⟨st7.old, [], false, rfl, And.intro (fun h => by cases h) fun _ => ⟨rfl, hbfs.none hcov fun y hy => by
          obtain ⟨m, hm⟩ := List.getElem?_of_mem hy
          exact hno m y (List.getElem?_eq_some_iff.1 hm).1 hm⟩⟩
end Go.Proofs.Ytpnnedkpbmilkaa
