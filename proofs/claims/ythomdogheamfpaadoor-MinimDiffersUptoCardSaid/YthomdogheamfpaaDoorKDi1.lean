/- The law MinimDiffers returns true for every two tables, where what it reads is of bulk at most 1048576, and changes nothing: no other condition. -/
import Derived.Test.YthomdogheamfpaaDoorKN5
import Derived.Test.YthomdogheamfpaaDoorKN4
import Derived.Test.YthomdogheamfpaaDoorKN6
import Derived.Test.YthomdogheamfpaaDoorCards
import Derived.Test.YthomdogheamfpaaDoorTie
import Derived.Deep.DeepHandedRow
/- louperef07.First, louperef09.Meets: the walks. -/
set_option linter.unusedVariables false
set_option linter.unusedSimpArgs false
set_option maxRecDepth 100000
namespace Go.Proofs.YthomdogheamfpaaDoor
open Go.VC
attribute [local irreducible] oneM mRun gRun atRun
theorem addP_v {B : Nat → Prop} {H0 H : Heap} {ps : List Pc} {b : Nat} {vs : List Value} {F : List NW} {n : Nd} {w : List Nat} {K : Value → Heap → Prop} (st : StB B H0 H ps) (i : Nat) (hp : ps[i]? = some (pPrs b vs F)) (hr : PrsP vs F) (h0 : n.s = 0) (hx0 : 0 ≤ n.x) (hx1 : n.x < 65536) (hy0 : 0 ≤ n.y) (hy1 : n.y < 65536) (hF : ∀ x ∈ F, x.1.s = 0) (hlen : F.length + 1 ≤ 5864062014805)
    (k : ∀ vs' F' H', StB B H0 H' (ps.set i (pPrs b vs' F')) → PrsP vs' F' → Add F n w F' → K (.tuple #[]) H') : VCall Tryd.prog 63 #[.pointer (some ⟨b, 0, none⟩), .int .i64 n.x, .int .i64 n.y, .string (bA w)] H K := by
  refine VCall.mk (add_c (StB.start (st.at_ i hp) fun k hk => (st.in_ i hp hk).2) hr h0 hx0 hx1 hy0 hy1 hF hlen) ?_
  rintro _ H' ⟨vs', F', rfl, st', hr', hadd⟩
  refine k vs' F' H' (st.upd i hp st'.old _ (st'.at_ 0 rfl) (fun k hk => ?_) (fun k hk => (st'.in_ 0 rfl hk).2) st'.size) hr' hadd
  have := (st'.in_ 0 rfl hk).1
  by_cases h1 : k < H.size
  · by_cases h2 : (pPrs b vs F).foot k
    · exact .inl h2
    · exact absurd ⟨h1, h2⟩ this
  · exact .inr (by omega)
theorem prs_z : (Tryd.prog.info? 121).bind (·.zero) = some (.agg (List.replicate 1026 (Value.slice none 0 0)).toArray) := by kernel_rfl
theorem prsS_nil (j : Nat) (H : Heap) : (prS [] j).ok H (.slice none 0 0) := by
  match j with
  | 0 => exact SlO.nil
  | 1 => exact SlO.nil
  | h + 2 => exact SlO.nil
theorem prs_new {H0 H : Heap} {ps : List Pc} {K : Value → Heap → Prop} (st : St H0 H ps) (k : ∀ b H', St H0 H' (ps ++ [pPrs b (List.replicate 1026 (.slice none 0 0)) []]) → K (.pointer (some ⟨b, 0, none⟩)) H') : VEff Tryd.prog (Instr.box 121 (.agg (List.replicate 1026 (Value.slice none 0 0)).toArray)) H K := by
  refine vbox (List.replicate 1026 (Value.slice none 0 0)) rfl ?_
  intro b H' hb hs hk ha
  have st1 := st.box hb hs hk ha
  have st2 := st1.fldNew (ss := prS []) ps.length (by rw [List.getElem?_append_right (Nat.le_refl _), Nat.sub_self]; rfl) prsS_nil
  refine k b H' ?_
  have e : (ps ++ [pB 121 b (List.replicate 1026 (Value.slice none 0 0))]).set ps.length (pF 121 b (List.replicate 1026 (.slice none 0 0)) (prS [])) = ps ++ [pPrs b (List.replicate 1026 (.slice none 0 0)) []] := by
    rw [List.set_append_right _ _ (Nat.le_refl _), Nat.sub_self]; rfl
  rw [e] at st2
  exact st2
theorem prsP_new : PrsP (List.replicate 1026 (.slice none 0 0)) [] := ⟨by simp, List.nodup_nil⟩
theorem BfsOk.size {g : Gr} {by_ : List Nat} {a : Nd} {F : List NW} {i k : Nat} (h : BfsOk g by_ a F i k) : ∀ (m : Nat) (y : NW), F[m]? = some y → y.2.length ≤ m := fun m => by
  induction m using Nat.strongRecOn with
  | _ m ih =>
    intro y hy
    rcases h.par m y hy with rfl | ⟨j, l, b, x, hx, -, e, -⟩
    · rw [h.zero] at hy; cases hy; exact Nat.le_refl _
    · have hyl : y.2.length = x.2.length + 1 := by rw [e, List.length_append]; rfl
      have hjm : j < m := by
        apply Classical.byContradiction
        intro hn
        rcases Nat.lt_or_eq_of_le (Nat.not_lt.1 hn) with hlt | rfl
        · rcases (h.up m j y x hlt hy hx).1 with h1 | ⟨h1, -⟩ <;> omega
        · rw [hx] at hy; cases hy; omega
      have := ih j hjm x hx
      omega
end Go.Proofs.YthomdogheamfpaaDoor
/- louperef07.First for the questions 0 and 1: the walks (printed by mkmin12.py). -/
set_option linter.unusedVariables false
set_option linter.unusedSimpArgs false
set_option maxRecDepth 100000
namespace Go.Proofs.YthomdogheamfpaaDoor
open Go.VC
attribute [local irreducible] oneM mRun gRun atRun
theorem bneq_z {P : Program} {t : TypeId} {x y : Operand} {S : Nat → Prop} {H : Heap} {K : Value → Prop} {a b z : Bool} (h : P.underlying t = some .bool) (hz : (a != b) = z) (k : K (.bool z)) : VDet P (do eqGuard .neq t x y (.bool a) (.bool b); binOp .neq t (.bool a) (.bool b)) S H K := by
  subst hz
  exact bneq_b h k
theorem ask_cov {ask : Bool → Bool → Bool} {a b : Option AM} {n : Nd} {r c : Nat} (h1 : ∀ q, stepM a q r = stepM a q c) (h2 : ∀ q, stepM b q r = stepM b q c) : (askG ask a b).next n r = (askG ask a b).next n c := by
  show [_] = [_]
  rw [h1, h2]
set_option maxHeartbeats 32000000 in
theorem first70_c {S : Nat → Prop} {H : Heap} {vA vB : Value} {a b : Option AM} {A B : DM} (hS : ∀ k, S k → k < H.size) (hvA : DfaV S H vA A) (hvB : DfaV S H vB B) (ha : Both a A) (hb : Both b B) (sa : StepOk a) (sb : StepOk b) :
    FnOk Tryd.prog 23 #[vA, vB, .int .i64 0] H fun v H' => Agr (Old H) H H' ∧ ∃ w ok, v = .tuple #[.string (bA w), .bool ok] ∧ FirstR (askG xorB a b) w ok := by
  have aok := ha.ok
  have bok := hb.ok
  have afl := aok.fl
  have bfl := bok.fl
  have lenA := cellsD_len A
  have lenB := cellsD_len B
  have hg : GraphOk (askG xorB a b) (repsD A B) 4294967296 1 := ask_ok sa sb (repsD_lt A B) (repsD_len A B)
  have hcov : ∀ c, c < 256 → ∃ r ∈ repsD A B, r ≤ c ∧ ∀ n, (askG xorB a b).next n r = (askG xorB a b).next n c := fun c hc => by
    obtain ⟨r, hr, hrc, h1, h2⟩ := repsD_cov A B c hc
    have hr8 := repsD_lt A B r hr
    exact ⟨r, hr, hrc, fun n => ask_cov (fun q => by rw [ha.step q r hr8, ha.step q c hc, h1]) (fun q => by rw [hb.step q r hr8, hb.step q c hc, h2])⟩
  have hup2 := repsD_up A B
  have hmr := ask_reach (ask := xorB) sa sb (repsD_lt A B)
  refine FnOk.of_vc Tryd.func23 rfl (Tryd.call23 _) ?_
  have hup : ∀ {H' : Heap} {ps : List Pc}, St H H' ps → ∀ k, S k → k < H'.size := fun st k hk => st.up (hS k hk)
  (conv => whnf); refine dfa_box hvA fun ra rc na nc fal fc he a1 a2 a3 => ?_
  subst he
  intro p1 H1 hp1 hs1 hb1 ha1
  have st1 := (St.nil H).box hp1 hs1 hb1 ha1
  (conv => whnf); refine dfa_box (hvB.frame (st1.old.mono hS)) fun ra' rc' na' nc' fal' fc' he b1 b2 b3 => ?_
  subst he
  intro p2 H2 hp2 hs2 hb2 ha2
  have st2 := st1.box hp2 hs2 hb2 ha2
  have hfA := (dfa_len hvA)
  have hfB := (dfa_len hvB)
  generalize dfaL A.cell (.slice ra A.reps.length rc) (.slice na A.next.length nc) (.slice fal A.final.length fc) = la at *
  generalize dfaL B.cell (.slice ra' B.reps.length rc') (.slice na' B.next.length nc') (.slice fal' B.final.length fc') = lb at *
  obtain ⟨hlA, fA, cA, hgA, hsA⟩ := hfA
  obtain ⟨hlB, fB, cB, hgB, hsB⟩ := hfB
  have hldA : ∀ {H' : Heap} {ps : List Pc} (S0 : Nat → Prop) {K : Value → Prop} (st : St H H' ps), ps[0]? = some (pB 35 p1 la) → S0 p1 → K (.agg la.toArray) → VDet Tryd.prog (Instr.loadAt 35 (.pointer (some ⟨p1, 0, none⟩))) S0 H' K := fun S0 K st hp hS0 hK =>
    ldN (cs := la) (by rw [hlA]; exact ag35) ((st.blk 0 hp).cells fun j v hv => by rw [Nat.zero_add]; exact hv) hS0 hK
  have hldB : ∀ {H' : Heap} {ps : List Pc} (S0 : Nat → Prop) {K : Value → Prop} (st : St H H' ps), ps[1]? = some (pB 35 p2 lb) → S0 p2 → K (.agg lb.toArray) → VDet Tryd.prog (Instr.loadAt 35 (.pointer (some ⟨p2, 0, none⟩))) S0 H' K := fun S0 K st hp hS0 hK =>
    ldN (cs := lb) (by rw [hlB]; exact ag35) ((st.blk 1 hp).cells fun j v hv => by rw [Nat.zero_add]; exact hv) hS0 hK
  (conv => whnf); refine vbuildS Tryd.underlying121 rfl _ prs_z (List.replicate 1026 (.slice none 0 0)) rfl ?_
  (conv => whnf); refine prs_new st2 fun pp3 H3 st3 => ?_
  (conv => whnf); refine addP_v (n := root) (w := []) st3 2 rfl prsP_new rfl (by decide) (by decide) (by decide) (by decide) (fun x hx => by cases hx) (by simp) fun vs5 F5 H5 st5 hr5 hadd5 => ?_
  have hF5 : F5 = [(root, [])] := by
    rcases hadd5 with ⟨⟨y, hy, -⟩, -⟩ | ⟨-, h⟩
    · cases hy
    · exact h
  subst hF5
  have hA : DfaV (Old H5) H5 (.agg la.toArray) A := (hvA.frame (st5.old.mono hS)).mono (hup st5)
  have hB : DfaV (Old H5) H5 (.agg lb.toArray) B := (hvB.frame (st5.old.mono hS)).mono (hup st5)
  (conv => whnf); refine VDraw.cut [9] (fun p : Nat => [.pointer (some ⟨p, 0, none⟩)]) (fun p H' => ∃ cell ra rc S', cell.length = 256 ∧ St H5 H' [pB 35 p (dfaL cell (.slice ra (repsD A B).length rc) (.slice none 0 0) (.slice none 0 0)), pV ra rc (asI (repsD A B)) S']) ?_ ?_
  · refine VDraw.held (Old H5) 7 (sq [0,2] (.b 1 (.b 3 (.b 4 (.b 5 (.f 6 (.f 7 .e)) 6 (.f 5 (.f 7 .e))) 6 (.f 4 (.f 5 (.f 7 .e)))) 6 (.f 3 (.f 4 (.f 5 (.f 7 .e))))) 6 (.f 1 (.f 3 (.f 4 (.f 5 (.f 7 .e))))))) rfl (by kernel_rfl) ?_
    (conv => whnf); refine hldA _ st5 rfl (st5.in_ 0 rfl rfl).2 ?_
    (conv => whnf); refine hldB _ st5 rfl (st5.in_ 1 rfl rfl).2 ?_
    have sx0 := St.nil H5
    (conv => whnf); refine ⟨?_, ?_⟩
    · -- c1 first
      refine VCall.mk (refcellsB (S := Old H5) (fun k hk => old_lt sx0.old hk) (hA.frame sx0.old) aok) ?_
      rintro _ G1 ⟨ga1, go1⟩
      obtain ⟨xa1, xc1, rfl, sx1⟩ := sx0.got ga1 go1
      refine ⟨sx1.old, ?_⟩
      (conv => whnf); refine ⟨?_, ?_⟩
      · -- c2 first
        refine VCall.mk (refcellsB (S := Old H5) (fun k hk => old_lt sx1.old hk) (hB.frame sx1.old) bok) ?_
        rintro _ G2 ⟨ga2, go2⟩
        obtain ⟨xa2, xc2, rfl, sx2⟩ := sx1.got ga2 go2
        refine ⟨sx2.old, ?_⟩
        (conv => whnf); refine ⟨?_, ?_⟩
        · -- app first
          refine appSS sx2 0 1 slB_ rfl rfl lenB.1 tB_ones (by omega) (by decide) fun xa3 xc3 G3 sx3 _ => ?_
          refine ⟨sx3.old, ?_⟩
          (conv => whnf); refine ⟨?_, ?_⟩
          · -- par first
            refine VCall.mk (partedB List.length_append.symm (fun k hk => hk) (sx3.view 0 rfl) (by rw [List.length_append]; omega)) ?_
            rintro _ G4 ⟨ga4, cell, ra, rc, hcl, rfl, gr4⟩
            have sx4 := sx3.add ga4 (pV ra rc (asI (repsD A B)) (Fresh G3 G4)) gr4 (fun k hk => hk)
            refine ⟨sx4.old, ?_⟩
            (conv => whnf); refine valloc _ (dfaL (List.replicate 256 0) (.slice none 0 0) (.slice none 0 0) (.slice none 0 0)) rfl (by kernel_rfl) ?_
            intro pp G5 gp5 gs5 gb5 ga5
            have sx5 := sx4.box gp5 gs5 gb5 ga5
            refine ⟨sx5.old, ?_⟩
            (conv => whnf); refine stNB (cs := dfaL cell (.slice ra (repsD A B).length rc) (.slice none 0 0) (.slice none 0 0)) sx5 3 (by rw [dfaL_len hcl]; rfl) rfl (by rw [dfaL_len hcl]; decide) (dfaL_ones rfl rfl rfl) fun GF sf => ?_
            rw [splice_whole (by rw [dfaL_len hcl]; rfl)] at sf
            (conv => whnf); exact ⟨rfl, pp, rfl, cell, ra, rc, _, hcl, sf.pick [3, 2] (by decide)⟩
          · -- the block first
            refine valloc _ (dfaL (List.replicate 256 0) (.slice none 0 0) (.slice none 0 0) (.slice none 0 0)) rfl (by kernel_rfl) ?_
            intro pp G4 gp4 gs4 gb4 ga4
            have sx4 := sx3.box gp4 gs4 gb4 ga4
            refine ⟨sx4.old, ?_⟩
            (conv => whnf); refine VCall.mk (partedB List.length_append.symm (fun k hk => hk) (sx4.view 0 rfl) (by rw [List.length_append]; omega)) ?_
            rintro _ G5 ⟨ga5, cell, ra, rc, hcl, rfl, gr5⟩
            have sx5 := sx4.add ga5 (pV ra rc (asI (repsD A B)) (Fresh G4 G5)) gr5 (fun k hk => hk)
            refine ⟨sx5.old, ?_⟩
            (conv => whnf); refine stNB (cs := dfaL cell (.slice ra (repsD A B).length rc) (.slice none 0 0) (.slice none 0 0)) sx5 2 (by rw [dfaL_len hcl]; rfl) rfl (by rw [dfaL_len hcl]; decide) (dfaL_ones rfl rfl rfl) fun GF sf => ?_
            rw [splice_whole (by rw [dfaL_len hcl]; rfl)] at sf
            (conv => whnf); exact ⟨rfl, pp, rfl, cell, ra, rc, _, hcl, sf.pick [2, 3] (by decide)⟩
        · -- the block first
          refine valloc _ (dfaL (List.replicate 256 0) (.slice none 0 0) (.slice none 0 0) (.slice none 0 0)) rfl (by kernel_rfl) ?_
          intro pp G3 gp3 gs3 gb3 ga3
          have sx3 := sx2.box gp3 gs3 gb3 ga3
          refine ⟨sx3.old, ?_⟩
          (conv => whnf); refine appSS sx3 0 1 slB_ rfl rfl lenB.1 tB_ones (by omega) (by decide) fun xa4 xc4 G4 sx4 _ => ?_
          refine ⟨sx4.old, ?_⟩
          (conv => whnf); refine VCall.mk (partedB List.length_append.symm (fun k hk => hk) (sx4.view 0 rfl) (by rw [List.length_append]; omega)) ?_
          rintro _ G5 ⟨ga5, cell, ra, rc, hcl, rfl, gr5⟩
          have sx5 := sx4.add ga5 (pV ra rc (asI (repsD A B)) (Fresh G4 G5)) gr5 (fun k hk => hk)
          refine ⟨sx5.old, ?_⟩
          (conv => whnf); refine stNB (cs := dfaL cell (.slice ra (repsD A B).length rc) (.slice none 0 0) (.slice none 0 0)) sx5 2 (by rw [dfaL_len hcl]; rfl) rfl (by rw [dfaL_len hcl]; decide) (dfaL_ones rfl rfl rfl) fun GF sf => ?_
          rw [splice_whole (by rw [dfaL_len hcl]; rfl)] at sf
          (conv => whnf); exact ⟨rfl, pp, rfl, cell, ra, rc, _, hcl, sf.pick [2, 3] (by decide)⟩
      · -- the block first
        refine valloc _ (dfaL (List.replicate 256 0) (.slice none 0 0) (.slice none 0 0) (.slice none 0 0)) rfl (by kernel_rfl) ?_
        intro pp G2 gp2 gs2 gb2 ga2
        have sx2 := sx1.box gp2 gs2 gb2 ga2
        refine ⟨sx2.old, ?_⟩
        (conv => whnf); refine VCall.mk (refcellsB (S := Old H5) (fun k hk => old_lt sx2.old hk) (hB.frame sx2.old) bok) ?_
        rintro _ G3 ⟨ga3, go3⟩
        obtain ⟨xa3, xc3, rfl, sx3⟩ := sx2.got ga3 go3
        refine ⟨sx3.old, ?_⟩
        (conv => whnf); refine appSS sx3 0 2 slB_ rfl rfl lenB.1 tB_ones (by omega) (by decide) fun xa4 xc4 G4 sx4 _ => ?_
        refine ⟨sx4.old, ?_⟩
        (conv => whnf); refine VCall.mk (partedB List.length_append.symm (fun k hk => hk) (sx4.view 0 rfl) (by rw [List.length_append]; omega)) ?_
        rintro _ G5 ⟨ga5, cell, ra, rc, hcl, rfl, gr5⟩
        have sx5 := sx4.add ga5 (pV ra rc (asI (repsD A B)) (Fresh G4 G5)) gr5 (fun k hk => hk)
        refine ⟨sx5.old, ?_⟩
        (conv => whnf); refine stNB (cs := dfaL cell (.slice ra (repsD A B).length rc) (.slice none 0 0) (.slice none 0 0)) sx5 1 (by rw [dfaL_len hcl]; rfl) rfl (by rw [dfaL_len hcl]; decide) (dfaL_ones rfl rfl rfl) fun GF sf => ?_
        rw [splice_whole (by rw [dfaL_len hcl]; rfl)] at sf
        (conv => whnf); exact ⟨rfl, pp, rfl, cell, ra, rc, _, hcl, sf.pick [1, 3] (by decide)⟩
    · -- the block first
      refine valloc _ (dfaL (List.replicate 256 0) (.slice none 0 0) (.slice none 0 0) (.slice none 0 0)) rfl (by kernel_rfl) ?_
      intro pp G1 gp1 gs1 gb1 ga1
      have sx1 := sx0.box gp1 gs1 gb1 ga1
      refine ⟨sx1.old, ?_⟩
      (conv => whnf); refine VCall.mk (refcellsB (S := Old H5) (fun k hk => old_lt sx1.old hk) (hA.frame sx1.old) aok) ?_
      rintro _ G2 ⟨ga2, go2⟩
      obtain ⟨xa2, xc2, rfl, sx2⟩ := sx1.got ga2 go2
      refine ⟨sx2.old, ?_⟩
      (conv => whnf); refine VCall.mk (refcellsB (S := Old H5) (fun k hk => old_lt sx2.old hk) (hB.frame sx2.old) bok) ?_
      rintro _ G3 ⟨ga3, go3⟩
      obtain ⟨xa3, xc3, rfl, sx3⟩ := sx2.got ga3 go3
      refine ⟨sx3.old, ?_⟩
      (conv => whnf); refine appSS sx3 1 2 slB_ rfl rfl lenB.1 tB_ones (by omega) (by decide) fun xa4 xc4 G4 sx4 _ => ?_
      refine ⟨sx4.old, ?_⟩
      (conv => whnf); refine VCall.mk (partedB List.length_append.symm (fun k hk => hk) (sx4.view 1 rfl) (by rw [List.length_append]; omega)) ?_
      rintro _ G5 ⟨ga5, cell, ra, rc, hcl, rfl, gr5⟩
      have sx5 := sx4.add ga5 (pV ra rc (asI (repsD A B)) (Fresh G4 G5)) gr5 (fun k hk => hk)
      refine ⟨sx5.old, ?_⟩
      (conv => whnf); refine stNB (cs := dfaL cell (.slice ra (repsD A B).length rc) (.slice none 0 0) (.slice none 0 0)) sx5 0 (by rw [dfaL_len hcl]; rfl) rfl (by rw [dfaL_len hcl]; decide) (dfaL_ones rfl rfl rfl) fun GF sf => ?_
      rw [splice_whole (by rw [dfaL_len hcl]; rfl)] at sf
      (conv => whnf); exact ⟨rfl, pp, rfl, cell, ra, rc, _, hcl, sf.pick [0, 3] (by decide)⟩
  · rintro p4 H6 junk6 ⟨cell, ra, rc, S', hcl, sr6⟩
    have st6 := st5.cat sr6
    have hlt8 := repsD_lt A B
    have hrl : (asI (repsD A B)).length = (repsD A B).length := by unfold asI; rw [List.length_map]
    have hrg : ∀ (k r : Nat), (repsD A B)[k]? = some r → (asI (repsD A B))[k]? = some (r : Int) := fun k r h => by unfold asI; rw [List.getElem?_map, h]; rfl
    have hnb := hg.nb
    generalize repsD A B = by_ at *
    have hstA : ∀ {H' : Heap} {ps : List Pc}, St H H' ps → ∀ {q : Int} {c : Nat}, c < 256 → Pure Tryd.prog 60 #[.agg la.toArray, .int .i64 q, .int .u8 (c : Int)] H' (.int .i64 (stepM a q c)) := fun st q c hc => by
      rw [ha.step q c hc]; exact refstep_p (hup st) (hvA.frame (st.old.mono hS)) aok hc
    have hstB : ∀ {H' : Heap} {ps : List Pc}, St H H' ps → ∀ {q : Int} {c : Nat}, c < 256 → Pure Tryd.prog 60 #[.agg lb.toArray, .int .i64 q, .int .u8 (c : Int)] H' (.int .i64 (stepM b q c)) := fun st q c hc => by
      rw [hb.step q c hc]; exact refstep_p (hup st) (hvB.frame (st.old.mono hS)) bok hc
    (conv => whnf)
    refine VLoop.mk [10] (fun x : Nat × List NW => match x with | (i, F) => [.int .i64 (i : Int)])
      (fun x H7 => x.1 ≤ x.2.length ∧ BfsOk (askG xorB a b) by_ root x.2 x.1 0 ∧ (∀ (m : Nat) (y : NW), m < x.1 → x.2[m]? = some y → (askG xorB a b).ends y.1 = false) ∧ ∃ vs, PrsP vs x.2 ∧ St H H7 [pB 35 p1 la, pB 35 p2 lb, pPrs pp3 vs x.2, pB 35 p4 (dfaL cell (.slice ra by_.length rc) (.slice none 0 0) (.slice none 0 0)), pV ra rc (asI by_) S']) (fun x _ => 4294967296 - x.1) ?_ ?_
    · (conv => whnf)
      exact ⟨(0, [(root, [])]), rfl, Nat.zero_le _, BfsOk.start, fun m y hm => absurd hm (Nat.not_lt_zero _), vs5, hr5, st6⟩
    · rintro ⟨i, F⟩ H7 junk7 ⟨hi, hbfs, hno, vs7, hr7, st7⟩
      simp only at hi hbfs hno hr7 st7
      have hrch : ∀ (F' : List NW) (i' k' : Nat), BfsOk (askG xorB a b) by_ root F' i' k' → ∀ x ∈ F', Reach (askG xorB a b) by_ root x.1 := fun F' i' k' h x hx => to_reach .refl (h.ok x hx).1 (h.ok x hx).2
      have hFM : ∀ (F' : List NW) (i' k' : Nat), BfsOk (askG xorB a b) by_ root F' i' k' → F'.length ≤ 4294967296 := fun F' i' k' h => by
        rw [← List.length_map (f := (·.1))]
        exact hg.card _ h.nd fun n hn => by
          obtain ⟨x, hx, rfl⟩ := List.mem_map.1 hn
          exact hrch F' i' k' h x hx
      have hFM7 := hFM F i 0 hbfs
      obtain ⟨v0, hv0⟩ := get_some (l := vs7) (k := 0) (by rw [hr7.len]; decide)
      have hk7 : Blk H7 pp3 121 vs7 := st7.fblk 2 rfl
      obtain ⟨a0, c0, e0, hvs⟩ := st7.fview 2 rfl hv0 (xs := F.map (·.1)) (T := tPr) (e := 124) rfl
      rw [List.length_map] at e0
      subst e0
      (conv => whnf); refine VC.fa fl121_0 ?_
      (conv => whnf); refine ld1 (v := .slice a0 F.length c0) ct118 (by rw [hk7.cell]; exact hv0) trivial ?_
      (conv => whnf); refine VIte.mk (fun hz => ?_) (fun hz => ?_) <;> simp only [decide_eq_true_eq, decide_eq_false_iff_not] at hz
      · obtain ⟨y, hy⟩ := get_some (l := F) (k := i) (by omega)
        have hymem := List.mem_of_getElem? hy
        have hyr := hrch F i 0 hbfs y hymem
        have hym := hmr y.1 hyr
        obtain ⟨hy0, hyx, hyy⟩ := hym
        have hy1 : (F.map (·.1))[i]? = some y.1 := by rw [List.getElem?_map, hy]; rfl
        (conv => whnf); refine VDraw.lex rfl (by kernel_rfl) ?_
        (conv => whnf); refine VC.fa fl121_0 ?_
        (conv => whnf); refine ld1 (v := .slice a0 F.length c0) ct118 (by rw [hk7.cell]; exact hv0) trivial ?_
        (conv => whnf); refine ixrn (i := i) (x := y.1) sl118 hvs (by simp) hy1 rfl ?_
        rintro b8 o8 cs8 hS8 hc8 ⟨-, rfl⟩
        (conv => whnf); refine ixa ar124 (by decide) (by decide) ?_
        (conv => whnf); refine ld1 (v := .int .i64 y.1.x) ct3 (hc8 0 _ rfl) trivial ?_
        (conv => whnf); refine VC.fa fl121_0 ?_
        (conv => whnf); refine ld1 (v := .slice a0 F.length c0) ct118 (by rw [hk7.cell]; exact hv0) trivial ?_
        (conv => whnf); refine ixrn (i := i) (x := y.1) sl118 hvs (by simp) hy1 rfl ?_
        rintro b9 o9 cs9 hS9 hc9 ⟨-, rfl⟩
        (conv => whnf); refine ixa ar124 (by decide) (by decide) ?_
        (conv => whnf); refine ld1 (v := .int .i64 y.1.y) ct3 (hc9 1 _ rfl) trivial ?_
        have hfxA : 0 ≤ y.1.x ∧ y.1.x < A.final.length := ⟨hyx.1, by have := hyx.2; rw [ha.n] at this; omega⟩
        have hfxB : 0 ≤ y.1.y ∧ y.1.y < B.final.length := ⟨hyy.1, by have := hyy.2; rw [hb.n] at this; omega⟩
        have hfinA : ∀ (S0 : Nat → Prop) (K : Value → Prop), (∀ p o, VC.cell H7 p o = some (.bool (finM a y.1.x)) → K (.pointer (some ⟨p, o, none⟩))) → VDet Tryd.prog (Instr.indexAt 24 (.slice fA A.final.length cA) (.int .i64 y.1.x)) S0 H7 K := fun S0 K hK =>
          fin_ix (hsA.frame (st7.old.mono hS)) hfxA.1 hfxA.2 fun p o _ hc => hK p o (by rw [hc, ha.fin])
        have hfinB : ∀ (S0 : Nat → Prop) (K : Value → Prop), (∀ p o, VC.cell H7 p o = some (.bool (finM b y.1.y)) → K (.pointer (some ⟨p, o, none⟩))) → VDet Tryd.prog (Instr.indexAt 24 (.slice fB B.final.length cB) (.int .i64 y.1.y)) S0 H7 K := fun S0 K hK =>
          fin_ix (hsB.frame (st7.old.mono hS)) hfxB.1 hfxB.2 fun p o _ hc => hK p o (by rw [hc, hb.fin])
        have hends : (askG xorB a b).ends y.1 = xorB (finM a y.1.x) (finM b y.1.y) := rfl
        have hb1 : Blk H7 p1 35 la := st7.blk 0 rfl
        have hb2 : Blk H7 p2 35 lb := st7.blk 1 rfl
        (conv => whnf); refine VDraw.lex rfl (by kernel_rfl) ?_
        (conv => whnf); refine VC.fa fl35_3 ?_
        (conv => whnf); refine ld1 (v := .slice fA A.final.length cA) ct24 (by rw [hb1.cell]; exact hgA) trivial ?_
        (conv => whnf); refine hfinA _ _ fun q1 o1 hq1 => ?_
        (conv => whnf); refine ld1 ct4 hq1 trivial ?_
        (conv => whnf); refine VC.fa fl35_3 ?_
        (conv => whnf); refine ld1 (v := .slice fB B.final.length cB) ct24 (by rw [hb2.cell]; exact hgB) trivial ?_
        (conv => whnf); refine hfinB _ _ fun q2 o2 hq2 => ?_
        (conv => whnf); refine ld1 ct4 hq2 trivial ?_
        (conv => whnf); refine bneq_z (z := (askG xorB a b).ends y.1) (by kernel_rfl) rfl ?_
        (conv => whnf); refine VSeq.run ?_
        (conv => whnf); refine VSeq.run ?_
        (conv => whnf)
        cases he : (askG xorB a b).ends y.1
        case true =>
          obtain ⟨v1, hv1⟩ := get_some (l := vs7) (k := 1) (by rw [hr7.len]; decide)
          obtain ⟨a1, c1, e1, hvw⟩ := st7.fview 2 rfl hv1 (xs := F.map (·.2)) (T := tW) (e := 9) rfl
          rw [List.length_map] at e1
          subst e1
          have hy2 : (F.map (·.2))[i]? = some y.2 := by rw [List.getElem?_map, hy]; rfl
          (conv => whnf); refine VC.fa fl121_1 ?_
          (conv => whnf); refine ld1 (v := .slice a1 F.length c1) ct98 (by rw [hk7.cell]; exact hv1) trivial ?_
          (conv => whnf); refine ixrn (i := i) (x := y.2) sl98 hvw (by simp) hy2 rfl ?_
          rintro b10 o10 cs10 hS10 hc10 rfl
          (conv => whnf); refine ld1 (v := .string (bA y.2)) ct9 (hc10 0 _ rfl) trivial ?_
          (conv => whnf)
          exact ⟨st7.old, y.2, true, rfl, And.intro (fun _ => hbfs.found hcov hlt8 hy he hno) (fun h => by cases h)⟩
        case false =>
          (conv => whnf)
          refine VLoop.mk [14] (fun x : Nat × List NW => match x with | (k, F') => [.int .i64 (k : Int)])
            (fun x H9 => x.1 ≤ by_.length ∧ BfsOk (askG xorB a b) by_ root x.2 i x.1 ∧ (∀ m, m ≤ i → x.2[m]? = F[m]?) ∧ ∃ vs, PrsP vs x.2 ∧ St H H9 [pB 35 p1 la, pB 35 p2 lb, pPrs pp3 vs x.2, pB 35 p4 (dfaL cell (.slice ra by_.length rc) (.slice none 0 0) (.slice none 0 0)), pV ra rc (asI by_) S']) (fun x _ => by_.length - x.1) ?_ ?_
          · (conv => whnf)
            exact ⟨(0, F), rfl, Nat.zero_le _, hbfs, fun _ _ => rfl, vs7, hr7, st7⟩
          · rintro ⟨k, F9⟩ H9 junk9 ⟨hk, hbfs9, hpre, vs9, hr9, st9⟩
            simp only at hk hbfs9 hpre hr9 st9
            have hb4 : Blk H9 p4 35 (dfaL cell (.slice ra by_.length rc) (.slice none 0 0) (.slice none 0 0)) := st9.blk 3 rfl
            have hy9 : F9[i]? = some y := by rw [hpre i (Nat.le_refl _)]; exact hy
            have hi9 := (List.getElem?_eq_some_iff.1 hy9).1
            have hFM9 := hFM F9 i k hbfs9
            (conv => whnf); refine VC.fa fl35_1 ?_
            (conv => whnf); refine ld1 (v := .slice ra by_.length rc) ct33 (by rw [hb4.cell]; exact dfaL_256 hcl) trivial ?_
            (conv => whnf); refine VIte.mk (fun hz => ?_) (fun hz => ?_) <;> simp only [decide_eq_true_eq, decide_eq_false_iff_not] at hz
            · obtain ⟨c, hc⟩ := get_some (l := by_) (k := k) (by omega)
              have hc8 := hlt8 c (List.mem_of_getElem? hc)
              (conv => whnf); refine VC.fa fl35_1 ?_
              (conv => whnf); refine ld1 (v := .slice ra by_.length rc) ct33 (by rw [hb4.cell]; exact dfaL_256 hcl) trivial ?_
              (conv => whnf); refine ixrn (i := k) (x := (c : Int)) sl33 (st9.at_ 4 rfl) hrl.symm (hrg k c hc) rfl ?_
              rintro b11 o11 cs11 hS11 hc11 ⟨rfl, -⟩
              (conv => whnf); refine ld1 (v := .int .i64 (c : Int)) ct3 hc11.one trivial ?_
              (conv => whnf); rw [w8 (x := (c : Int)) (by omega) (by omega)]
              have hstA : ∀ {H' : Heap} {ps : List Pc}, St H H' ps → Pure Tryd.prog 60 #[.agg la.toArray, .int .i64 y.1.x, .int .u8 (c : Int)] H' (.int .i64 (stepM a y.1.x c)) := fun st => hstA st hc8
              have hstB : ∀ {H' : Heap} {ps : List Pc}, St H H' ps → Pure Tryd.prog 60 #[.agg lb.toArray, .int .i64 y.1.y, .int .u8 (c : Int)] H' (.int .i64 (stepM b y.1.y c)) := fun st => hstB st hc8
              have htx : (0 : Int) ≤ stepM a y.1.x c ∧ stepM a y.1.x c < 65536 ∧ (0 : Int) ≤ stepM b y.1.y c ∧ stepM b y.1.y c < 65536 := by
                have h1 := sa.step _ _ hyx hc8
                have h2 := sb.step _ _ hyy hc8
                have h3 := sa.n2
                have h4 := sb.n2
                unfold inA at h1 h2
                omega
              have hyl := hbfs9.size i y hy9
              have hsz : (bA y.2).size + (bA [c]).size ≤ maxLen := by
                rw [bA_size, bA_size]
                unfold maxLen
                simp only [List.length_singleton]
                omega
              have hcat : bA y.2 ++ (⟨([c].map UInt8.ofNat).toArray⟩ : ByteArray) = bA (y.2 ++ [c]) := bA_append _ _
              have hFs : ∀ x ∈ F9, x.1.s = 0 := fun x hx => (hmr x.1 (hrch F9 i k hbfs9 x hx)).1
              have hone : ∀ {G : Heap} {q t : Nat} {j x : Nat}, Blk G q t [.int .u8 (c : Int)] → [c][j]? = some x → VC.cell G q (0 + j) = some (.int .u8 (x : Int)) := fun {G q t j x} hq hx => by
                cases j with
                | zero => cases hx; rw [hq.cell]; rfl
                | succ j => simp at hx
              have hclose : ∀ (vsn : List Value) (Fn : List NW) (GN : Heap), St H GN [pB 35 p1 la, pB 35 p2 lb, pPrs pp3 vsn Fn, pB 35 p4 (dfaL cell (.slice ra by_.length rc) (.slice none 0 0) (.slice none 0 0)), pV ra rc (asI by_) S'] → PrsP vsn Fn → Add F9 ⟨0, stepM a y.1.x c, stepM b y.1.y c⟩ (y.2 ++ [c]) Fn → k + 1 ≤ by_.length ∧ BfsOk (askG xorB a b) by_ root Fn i (k + 1) ∧ (∀ m, m ≤ i → Fn[m]? = F[m]?) ∧ ∃ vs, PrsP vs Fn ∧ St H GN [pB 35 p1 la, pB 35 p2 lb, pPrs pp3 vs Fn, pB 35 p4 (dfaL cell (.slice ra by_.length rc) (.slice none 0 0) (.slice none 0 0)), pV ra rc (asI by_) S'] := fun vsn Fn GN hst hr hadd => by
                refine ⟨by omega, hbfs9.add hup2 hy9 hc rfl hadd, fun m hm => ?_, vsn, hr, hst⟩
                rw [← hpre m hm]
                rcases hadd with ⟨-, rfl⟩ | ⟨-, rfl⟩
                · rfl
                · rw [List.getElem?_append_left (by omega)]
              obtain ⟨v9, hv9⟩ := get_some (l := vs9) (k := 1) (by rw [hr9.len]; decide)
              obtain ⟨a9, c9, e9, hvw9⟩ := st9.fview 2 rfl hv9 (xs := F9.map (·.2)) (T := tW) (e := 9) rfl
              rw [List.length_map] at e9
              subst e9
              have hk9 : Blk H9 pp3 121 vs9 := st9.fblk 2 rfl
              have hy92 : (F9.map (·.2))[i]? = some y.2 := by rw [List.getElem?_map, hy9]; rfl
              have hin : ∀ {j : Nat}, Old H9 j ↔ j < H9.size := Iff.rfl
              (conv => whnf); refine VDraw.heldZ (Old H9) [20] (sq [0,1,2,3,5,6,7,9,10,11,12,13,14,15,16] (.b 4 (.b 8 (.f 17 (.f 18 (sq [19] (.f 20 .e)))) 17 (.b 8 (.f 18 (sq [19] (.f 20 .e))) 18 (sq [19] (.f 8 (.f 20 .e))))) 17 (.b 4 (.b 8 (.f 18 (sq [19] (.f 20 .e))) 18 (sq [19] (.f 8 (.f 20 .e)))) 18 (sq [19] (.f 4 (.f 8 (.f 20 .e))))))) rfl (by kernel_rfl) ?_
              (conv => whnf); refine hldA _ st9 rfl (st9.in_ 0 rfl rfl).2 ?_
              (conv => whnf); refine hldB _ st9 rfl (st9.in_ 1 rfl rfl).2 ?_
              (conv => whnf); refine VC.fa fl121_1 ?_
              (conv => whnf); refine ld1 (v := .slice a9 F9.length c9) ct98 (by rw [hk9.cell]; exact hv9) hk9.lt ?_
              (conv => whnf); refine ixrn (i := i) (x := y.2) sl98 hvw9 (by simp) hy92 rfl ?_
              rintro b12 o12 cs12 hS12 hc12 rfl
              (conv => whnf); refine ld1 (v := .string (bA y.2)) ct9 (hc12 0 _ rfl) hS12 ?_
              have sx0 := st9
              have gg0 : Agr (Old H9) H9 H9 := Agr.refl _ _
              (conv => whnf); refine ⟨?_, ?_⟩
              · -- 4
                refine pures (hstA sx0) fun G1 gc1 => ?_
                have sx1 := sx0.call gc1
                have gg1 := gg0.trans (gc1.mono fun k hk => old_lt gg0 hk)
                refine ⟨gg1, ?_⟩
                (conv => whnf); refine ⟨?_, ?_⟩
                · -- 8
                  refine pures (hstB sx1) fun G2 gc2 => ?_
                  have sx2 := sx1.call gc2
                  have gg2 := gg1.trans (gc2.mono fun k hk => old_lt gg1 hk)
                  refine ⟨gg2, ?_⟩
                  (conv => whnf); refine vbuild1 sl85 [.int .u8 (c : Int)] rfl rfl (by decide) (by decide) ?_
                  intro qq G3 gq3 gs3 gb3 ga3
                  have sx3 := sx2.box gq3 gs3 gb3 ga3
                  have gg3 := gg2.trans (ga3.mono fun k hk => by have := old_lt gg2 hk; omega)
                  refine ⟨gg3, ?_⟩
                  (conv => whnf); refine vb2s [c] rfl rfl rfl (fun j x hx => hone (sx3.blk 5 rfl) hx) rfl ?_
                  have sx4 := sx3
                  have gg4 := gg3
                  refine ⟨gg4, ?_⟩
                  (conv => whnf); refine vcat hsz ?_
                  rw [hcat]
                  (conv => whnf); refine addP_v (n := ⟨0, stepM a y.1.x c, stepM b y.1.y c⟩) (w := y.2 ++ [c]) sx4 2 rfl hr9 rfl htx.1 htx.2.1 htx.2.2.1 htx.2.2.2 hFs (by omega) fun vsn Fn GN sN hrN hadd => ?_
                  (conv => whnf); rw [w64 (x := (k : Int) + 1) (by omega) (by omega)]
                  exact ⟨rfl, (k + 1, Fn), rfl, hclose vsn Fn GN (sN.pick [0, 1, 2, 3, 4] (by decide)) hrN hadd, by omega⟩
                · -- 17
                  refine vbuild1 sl85 [.int .u8 (c : Int)] rfl rfl (by decide) (by decide) ?_
                  intro qq G2 gq2 gs2 gb2 ga2
                  have sx2 := sx1.box gq2 gs2 gb2 ga2
                  have gg2 := gg1.trans (ga2.mono fun k hk => by have := old_lt gg1 hk; omega)
                  refine ⟨gg2, ?_⟩
                  (conv => whnf); refine ⟨?_, ?_⟩
                  · -- 8
                    refine pures (hstB sx2) fun G3 gc3 => ?_
                    have sx3 := sx2.call gc3
                    have gg3 := gg2.trans (gc3.mono fun k hk => old_lt gg2 hk)
                    refine ⟨gg3, ?_⟩
                    (conv => whnf); refine vb2s [c] rfl rfl rfl (fun j x hx => hone (sx3.blk 5 rfl) hx) rfl ?_
                    have sx4 := sx3
                    have gg4 := gg3
                    refine ⟨gg4, ?_⟩
                    (conv => whnf); refine vcat hsz ?_
                    rw [hcat]
                    (conv => whnf); refine addP_v (n := ⟨0, stepM a y.1.x c, stepM b y.1.y c⟩) (w := y.2 ++ [c]) sx4 2 rfl hr9 rfl htx.1 htx.2.1 htx.2.2.1 htx.2.2.2 hFs (by omega) fun vsn Fn GN sN hrN hadd => ?_
                    (conv => whnf); rw [w64 (x := (k : Int) + 1) (by omega) (by omega)]
                    exact ⟨rfl, (k + 1, Fn), rfl, hclose vsn Fn GN (sN.pick [0, 1, 2, 3, 4] (by decide)) hrN hadd, by omega⟩
                  · -- 18
                    refine vb2s [c] rfl rfl rfl (fun j x hx => hone (sx2.blk 5 rfl) hx) rfl ?_
                    have sx3 := sx2
                    have gg3 := gg2
                    refine ⟨gg3, ?_⟩
                    (conv => whnf); refine vcat hsz ?_
                    rw [hcat]
                    (conv => whnf); refine pures (hstB sx3) fun G4 gc4 => ?_
                    have sx4 := sx3.call gc4
                    have gg4 := gg3.trans (gc4.mono fun k hk => old_lt gg3 hk)
                    refine ⟨gg4, ?_⟩
                    (conv => whnf); refine addP_v (n := ⟨0, stepM a y.1.x c, stepM b y.1.y c⟩) (w := y.2 ++ [c]) sx4 2 rfl hr9 rfl htx.1 htx.2.1 htx.2.2.1 htx.2.2.2 hFs (by omega) fun vsn Fn GN sN hrN hadd => ?_
                    (conv => whnf); rw [w64 (x := (k : Int) + 1) (by omega) (by omega)]
                    exact ⟨rfl, (k + 1, Fn), rfl, hclose vsn Fn GN (sN.pick [0, 1, 2, 3, 4] (by decide)) hrN hadd, by omega⟩
              · -- 17
                refine vbuild1 sl85 [.int .u8 (c : Int)] rfl rfl (by decide) (by decide) ?_
                intro qq G1 gq1 gs1 gb1 ga1
                have sx1 := sx0.box gq1 gs1 gb1 ga1
                have gg1 := gg0.trans (ga1.mono fun k hk => by have := old_lt gg0 hk; omega)
                refine ⟨gg1, ?_⟩
                (conv => whnf); refine ⟨?_, ?_⟩
                · -- 4
                  refine pures (hstA sx1) fun G2 gc2 => ?_
                  have sx2 := sx1.call gc2
                  have gg2 := gg1.trans (gc2.mono fun k hk => old_lt gg1 hk)
                  refine ⟨gg2, ?_⟩
                  (conv => whnf); refine ⟨?_, ?_⟩
                  · -- 8
                    refine pures (hstB sx2) fun G3 gc3 => ?_
                    have sx3 := sx2.call gc3
                    have gg3 := gg2.trans (gc3.mono fun k hk => old_lt gg2 hk)
                    refine ⟨gg3, ?_⟩
                    (conv => whnf); refine vb2s [c] rfl rfl rfl (fun j x hx => hone (sx3.blk 5 rfl) hx) rfl ?_
                    have sx4 := sx3
                    have gg4 := gg3
                    refine ⟨gg4, ?_⟩
                    (conv => whnf); refine vcat hsz ?_
                    rw [hcat]
                    (conv => whnf); refine addP_v (n := ⟨0, stepM a y.1.x c, stepM b y.1.y c⟩) (w := y.2 ++ [c]) sx4 2 rfl hr9 rfl htx.1 htx.2.1 htx.2.2.1 htx.2.2.2 hFs (by omega) fun vsn Fn GN sN hrN hadd => ?_
                    (conv => whnf); rw [w64 (x := (k : Int) + 1) (by omega) (by omega)]
                    exact ⟨rfl, (k + 1, Fn), rfl, hclose vsn Fn GN (sN.pick [0, 1, 2, 3, 4] (by decide)) hrN hadd, by omega⟩
                  · -- 18
                    refine vb2s [c] rfl rfl rfl (fun j x hx => hone (sx2.blk 5 rfl) hx) rfl ?_
                    have sx3 := sx2
                    have gg3 := gg2
                    refine ⟨gg3, ?_⟩
                    (conv => whnf); refine vcat hsz ?_
                    rw [hcat]
                    (conv => whnf); refine pures (hstB sx3) fun G4 gc4 => ?_
                    have sx4 := sx3.call gc4
                    have gg4 := gg3.trans (gc4.mono fun k hk => old_lt gg3 hk)
                    refine ⟨gg4, ?_⟩
                    (conv => whnf); refine addP_v (n := ⟨0, stepM a y.1.x c, stepM b y.1.y c⟩) (w := y.2 ++ [c]) sx4 2 rfl hr9 rfl htx.1 htx.2.1 htx.2.2.1 htx.2.2.2 hFs (by omega) fun vsn Fn GN sN hrN hadd => ?_
                    (conv => whnf); rw [w64 (x := (k : Int) + 1) (by omega) (by omega)]
                    exact ⟨rfl, (k + 1, Fn), rfl, hclose vsn Fn GN (sN.pick [0, 1, 2, 3, 4] (by decide)) hrN hadd, by omega⟩
                · -- 18
                  refine vb2s [c] rfl rfl rfl (fun j x hx => hone (sx1.blk 5 rfl) hx) rfl ?_
                  have sx2 := sx1
                  have gg2 := gg1
                  refine ⟨gg2, ?_⟩
                  (conv => whnf); refine vcat hsz ?_
                  rw [hcat]
                  (conv => whnf); refine pures (hstA sx2) fun G3 gc3 => ?_
                  have sx3 := sx2.call gc3
                  have gg3 := gg2.trans (gc3.mono fun k hk => old_lt gg2 hk)
                  refine ⟨gg3, ?_⟩
                  (conv => whnf); refine pures (hstB sx3) fun G4 gc4 => ?_
                  have sx4 := sx3.call gc4
                  have gg4 := gg3.trans (gc4.mono fun k hk => old_lt gg3 hk)
                  refine ⟨gg4, ?_⟩
                  (conv => whnf); refine addP_v (n := ⟨0, stepM a y.1.x c, stepM b y.1.y c⟩) (w := y.2 ++ [c]) sx4 2 rfl hr9 rfl htx.1 htx.2.1 htx.2.2.1 htx.2.2.2 hFs (by omega) fun vsn Fn GN sN hrN hadd => ?_
                  (conv => whnf); rw [w64 (x := (k : Int) + 1) (by omega) (by omega)]
                  exact ⟨rfl, (k + 1, Fn), rfl, hclose vsn Fn GN (sN.pick [0, 1, 2, 3, 4] (by decide)) hrN hadd, by omega⟩
            · have : k = by_.length := Nat.le_antisymm hk (by omega)
              subst this
              (conv => whnf); rw [w64 (x := (i : Int) + 1) (by omega) (by omega)]
              refine ⟨rfl, (i + 1, F9), rfl, ⟨hi9, hbfs9.turn (Nat.le_refl _), fun m z hm hz => ?_, vs9, hr9, st9⟩, show 4294967296 - (i + 1) < 4294967296 - i by omega⟩
              rcases Nat.lt_or_eq_of_le (Nat.le_of_lt_succ (show m < i + 1 from hm)) with hm | rfl
              · exact hno m z hm (by rw [← hpre m (Nat.le_of_lt hm)]; exact hz)
              · rw [hy9] at hz; cases hz; exact he
      · obtain rfl : i = F.length := by omega
        (conv => whnf)
        exact ⟨st7.old, [], false, rfl, And.intro (fun h => by cases h) fun _ => ⟨rfl, hbfs.none hcov fun y hy => by
          obtain ⟨m, hm⟩ := List.getElem?_of_mem hy
          exact hno m y (List.getElem?_eq_some_iff.1 hm).1 hm⟩⟩
set_option maxHeartbeats 32000000 in
theorem first71_c {S : Nat → Prop} {H : Heap} {vA vB : Value} {a b : Option AM} {A B : DM} (hS : ∀ k, S k → k < H.size) (hvA : DfaV S H vA A) (hvB : DfaV S H vB B) (ha : Both a A) (hb : Both b B) (sa : StepOk a) (sb : StepOk b) :
    FnOk Tryd.prog 23 #[vA, vB, .int .i64 1] H fun v H' => Agr (Old H) H H' ∧ ∃ w ok, v = .tuple #[.string (bA w), .bool ok] ∧ FirstR (askG outB a b) w ok := by
  have aok := ha.ok
  have bok := hb.ok
  have afl := aok.fl
  have bfl := bok.fl
  have lenA := cellsD_len A
  have lenB := cellsD_len B
  have hg : GraphOk (askG outB a b) (repsD A B) 4294967296 1 := ask_ok sa sb (repsD_lt A B) (repsD_len A B)
  have hcov : ∀ c, c < 256 → ∃ r ∈ repsD A B, r ≤ c ∧ ∀ n, (askG outB a b).next n r = (askG outB a b).next n c := fun c hc => by
    obtain ⟨r, hr, hrc, h1, h2⟩ := repsD_cov A B c hc
    have hr8 := repsD_lt A B r hr
    exact ⟨r, hr, hrc, fun n => ask_cov (fun q => by rw [ha.step q r hr8, ha.step q c hc, h1]) (fun q => by rw [hb.step q r hr8, hb.step q c hc, h2])⟩
  have hup2 := repsD_up A B
  have hmr := ask_reach (ask := outB) sa sb (repsD_lt A B)
  refine FnOk.of_vc Tryd.func23 rfl (Tryd.call23 _) ?_
  have hup : ∀ {H' : Heap} {ps : List Pc}, St H H' ps → ∀ k, S k → k < H'.size := fun st k hk => st.up (hS k hk)
  (conv => whnf); refine dfa_box hvA fun ra rc na nc fal fc he a1 a2 a3 => ?_
  subst he
  intro p1 H1 hp1 hs1 hb1 ha1
  have st1 := (St.nil H).box hp1 hs1 hb1 ha1
  (conv => whnf); refine dfa_box (hvB.frame (st1.old.mono hS)) fun ra' rc' na' nc' fal' fc' he b1 b2 b3 => ?_
  subst he
  intro p2 H2 hp2 hs2 hb2 ha2
  have st2 := st1.box hp2 hs2 hb2 ha2
  have hfA := (dfa_len hvA)
  have hfB := (dfa_len hvB)
  generalize dfaL A.cell (.slice ra A.reps.length rc) (.slice na A.next.length nc) (.slice fal A.final.length fc) = la at *
  generalize dfaL B.cell (.slice ra' B.reps.length rc') (.slice na' B.next.length nc') (.slice fal' B.final.length fc') = lb at *
  obtain ⟨hlA, fA, cA, hgA, hsA⟩ := hfA
  obtain ⟨hlB, fB, cB, hgB, hsB⟩ := hfB
  have hldA : ∀ {H' : Heap} {ps : List Pc} (S0 : Nat → Prop) {K : Value → Prop} (st : St H H' ps), ps[0]? = some (pB 35 p1 la) → S0 p1 → K (.agg la.toArray) → VDet Tryd.prog (Instr.loadAt 35 (.pointer (some ⟨p1, 0, none⟩))) S0 H' K := fun S0 K st hp hS0 hK =>
    ldN (cs := la) (by rw [hlA]; exact ag35) ((st.blk 0 hp).cells fun j v hv => by rw [Nat.zero_add]; exact hv) hS0 hK
  have hldB : ∀ {H' : Heap} {ps : List Pc} (S0 : Nat → Prop) {K : Value → Prop} (st : St H H' ps), ps[1]? = some (pB 35 p2 lb) → S0 p2 → K (.agg lb.toArray) → VDet Tryd.prog (Instr.loadAt 35 (.pointer (some ⟨p2, 0, none⟩))) S0 H' K := fun S0 K st hp hS0 hK =>
    ldN (cs := lb) (by rw [hlB]; exact ag35) ((st.blk 1 hp).cells fun j v hv => by rw [Nat.zero_add]; exact hv) hS0 hK
  (conv => whnf); refine vbuildS Tryd.underlying121 rfl _ prs_z (List.replicate 1026 (.slice none 0 0)) rfl ?_
  (conv => whnf); refine prs_new st2 fun pp3 H3 st3 => ?_
  (conv => whnf); refine addP_v (n := root) (w := []) st3 2 rfl prsP_new rfl (by decide) (by decide) (by decide) (by decide) (fun x hx => by cases hx) (by simp) fun vs5 F5 H5 st5 hr5 hadd5 => ?_
  have hF5 : F5 = [(root, [])] := by
    rcases hadd5 with ⟨⟨y, hy, -⟩, -⟩ | ⟨-, h⟩
    · cases hy
    · exact h
  subst hF5
  have hA : DfaV (Old H5) H5 (.agg la.toArray) A := (hvA.frame (st5.old.mono hS)).mono (hup st5)
  have hB : DfaV (Old H5) H5 (.agg lb.toArray) B := (hvB.frame (st5.old.mono hS)).mono (hup st5)
  (conv => whnf); refine VDraw.cut [9] (fun p : Nat => [.pointer (some ⟨p, 0, none⟩)]) (fun p H' => ∃ cell ra rc S', cell.length = 256 ∧ St H5 H' [pB 35 p (dfaL cell (.slice ra (repsD A B).length rc) (.slice none 0 0) (.slice none 0 0)), pV ra rc (asI (repsD A B)) S']) ?_ ?_
  · refine VDraw.held (Old H5) 7 (sq [0,2] (.b 1 (.b 3 (.b 4 (.b 5 (.f 6 (.f 7 .e)) 6 (.f 5 (.f 7 .e))) 6 (.f 4 (.f 5 (.f 7 .e)))) 6 (.f 3 (.f 4 (.f 5 (.f 7 .e))))) 6 (.f 1 (.f 3 (.f 4 (.f 5 (.f 7 .e))))))) rfl (by kernel_rfl) ?_
    (conv => whnf); refine hldA _ st5 rfl (st5.in_ 0 rfl rfl).2 ?_
    (conv => whnf); refine hldB _ st5 rfl (st5.in_ 1 rfl rfl).2 ?_
    have sx0 := St.nil H5
    (conv => whnf); refine ⟨?_, ?_⟩
    · -- c1 first
      refine VCall.mk (refcellsB (S := Old H5) (fun k hk => old_lt sx0.old hk) (hA.frame sx0.old) aok) ?_
      rintro _ G1 ⟨ga1, go1⟩
      obtain ⟨xa1, xc1, rfl, sx1⟩ := sx0.got ga1 go1
      refine ⟨sx1.old, ?_⟩
      (conv => whnf); refine ⟨?_, ?_⟩
      · -- c2 first
        refine VCall.mk (refcellsB (S := Old H5) (fun k hk => old_lt sx1.old hk) (hB.frame sx1.old) bok) ?_
        rintro _ G2 ⟨ga2, go2⟩
        obtain ⟨xa2, xc2, rfl, sx2⟩ := sx1.got ga2 go2
        refine ⟨sx2.old, ?_⟩
        (conv => whnf); refine ⟨?_, ?_⟩
        · -- app first
          refine appSS sx2 0 1 slB_ rfl rfl lenB.1 tB_ones (by omega) (by decide) fun xa3 xc3 G3 sx3 _ => ?_
          refine ⟨sx3.old, ?_⟩
          (conv => whnf); refine ⟨?_, ?_⟩
          · -- par first
            refine VCall.mk (partedB List.length_append.symm (fun k hk => hk) (sx3.view 0 rfl) (by rw [List.length_append]; omega)) ?_
            rintro _ G4 ⟨ga4, cell, ra, rc, hcl, rfl, gr4⟩
            have sx4 := sx3.add ga4 (pV ra rc (asI (repsD A B)) (Fresh G3 G4)) gr4 (fun k hk => hk)
            refine ⟨sx4.old, ?_⟩
            (conv => whnf); refine valloc _ (dfaL (List.replicate 256 0) (.slice none 0 0) (.slice none 0 0) (.slice none 0 0)) rfl (by kernel_rfl) ?_
            intro pp G5 gp5 gs5 gb5 ga5
            have sx5 := sx4.box gp5 gs5 gb5 ga5
            refine ⟨sx5.old, ?_⟩
            (conv => whnf); refine stNB (cs := dfaL cell (.slice ra (repsD A B).length rc) (.slice none 0 0) (.slice none 0 0)) sx5 3 (by rw [dfaL_len hcl]; rfl) rfl (by rw [dfaL_len hcl]; decide) (dfaL_ones rfl rfl rfl) fun GF sf => ?_
            rw [splice_whole (by rw [dfaL_len hcl]; rfl)] at sf
            (conv => whnf); exact ⟨rfl, pp, rfl, cell, ra, rc, _, hcl, sf.pick [3, 2] (by decide)⟩
          · -- the block first
            refine valloc _ (dfaL (List.replicate 256 0) (.slice none 0 0) (.slice none 0 0) (.slice none 0 0)) rfl (by kernel_rfl) ?_
            intro pp G4 gp4 gs4 gb4 ga4
            have sx4 := sx3.box gp4 gs4 gb4 ga4
            refine ⟨sx4.old, ?_⟩
            (conv => whnf); refine VCall.mk (partedB List.length_append.symm (fun k hk => hk) (sx4.view 0 rfl) (by rw [List.length_append]; omega)) ?_
            rintro _ G5 ⟨ga5, cell, ra, rc, hcl, rfl, gr5⟩
            have sx5 := sx4.add ga5 (pV ra rc (asI (repsD A B)) (Fresh G4 G5)) gr5 (fun k hk => hk)
            refine ⟨sx5.old, ?_⟩
            (conv => whnf); refine stNB (cs := dfaL cell (.slice ra (repsD A B).length rc) (.slice none 0 0) (.slice none 0 0)) sx5 2 (by rw [dfaL_len hcl]; rfl) rfl (by rw [dfaL_len hcl]; decide) (dfaL_ones rfl rfl rfl) fun GF sf => ?_
            rw [splice_whole (by rw [dfaL_len hcl]; rfl)] at sf
            (conv => whnf); exact ⟨rfl, pp, rfl, cell, ra, rc, _, hcl, sf.pick [2, 3] (by decide)⟩
        · -- the block first
          refine valloc _ (dfaL (List.replicate 256 0) (.slice none 0 0) (.slice none 0 0) (.slice none 0 0)) rfl (by kernel_rfl) ?_
          intro pp G3 gp3 gs3 gb3 ga3
          have sx3 := sx2.box gp3 gs3 gb3 ga3
          refine ⟨sx3.old, ?_⟩
          (conv => whnf); refine appSS sx3 0 1 slB_ rfl rfl lenB.1 tB_ones (by omega) (by decide) fun xa4 xc4 G4 sx4 _ => ?_
          refine ⟨sx4.old, ?_⟩
          (conv => whnf); refine VCall.mk (partedB List.length_append.symm (fun k hk => hk) (sx4.view 0 rfl) (by rw [List.length_append]; omega)) ?_
          rintro _ G5 ⟨ga5, cell, ra, rc, hcl, rfl, gr5⟩
          have sx5 := sx4.add ga5 (pV ra rc (asI (repsD A B)) (Fresh G4 G5)) gr5 (fun k hk => hk)
          refine ⟨sx5.old, ?_⟩
          (conv => whnf); refine stNB (cs := dfaL cell (.slice ra (repsD A B).length rc) (.slice none 0 0) (.slice none 0 0)) sx5 2 (by rw [dfaL_len hcl]; rfl) rfl (by rw [dfaL_len hcl]; decide) (dfaL_ones rfl rfl rfl) fun GF sf => ?_
          rw [splice_whole (by rw [dfaL_len hcl]; rfl)] at sf
          (conv => whnf); exact ⟨rfl, pp, rfl, cell, ra, rc, _, hcl, sf.pick [2, 3] (by decide)⟩
      · -- the block first
        refine valloc _ (dfaL (List.replicate 256 0) (.slice none 0 0) (.slice none 0 0) (.slice none 0 0)) rfl (by kernel_rfl) ?_
        intro pp G2 gp2 gs2 gb2 ga2
        have sx2 := sx1.box gp2 gs2 gb2 ga2
        refine ⟨sx2.old, ?_⟩
        (conv => whnf); refine VCall.mk (refcellsB (S := Old H5) (fun k hk => old_lt sx2.old hk) (hB.frame sx2.old) bok) ?_
        rintro _ G3 ⟨ga3, go3⟩
        obtain ⟨xa3, xc3, rfl, sx3⟩ := sx2.got ga3 go3
        refine ⟨sx3.old, ?_⟩
        (conv => whnf); refine appSS sx3 0 2 slB_ rfl rfl lenB.1 tB_ones (by omega) (by decide) fun xa4 xc4 G4 sx4 _ => ?_
        refine ⟨sx4.old, ?_⟩
        (conv => whnf); refine VCall.mk (partedB List.length_append.symm (fun k hk => hk) (sx4.view 0 rfl) (by rw [List.length_append]; omega)) ?_
        rintro _ G5 ⟨ga5, cell, ra, rc, hcl, rfl, gr5⟩
        have sx5 := sx4.add ga5 (pV ra rc (asI (repsD A B)) (Fresh G4 G5)) gr5 (fun k hk => hk)
        refine ⟨sx5.old, ?_⟩
        (conv => whnf); refine stNB (cs := dfaL cell (.slice ra (repsD A B).length rc) (.slice none 0 0) (.slice none 0 0)) sx5 1 (by rw [dfaL_len hcl]; rfl) rfl (by rw [dfaL_len hcl]; decide) (dfaL_ones rfl rfl rfl) fun GF sf => ?_
        rw [splice_whole (by rw [dfaL_len hcl]; rfl)] at sf
        (conv => whnf); exact ⟨rfl, pp, rfl, cell, ra, rc, _, hcl, sf.pick [1, 3] (by decide)⟩
    · -- the block first
      refine valloc _ (dfaL (List.replicate 256 0) (.slice none 0 0) (.slice none 0 0) (.slice none 0 0)) rfl (by kernel_rfl) ?_
      intro pp G1 gp1 gs1 gb1 ga1
      have sx1 := sx0.box gp1 gs1 gb1 ga1
      refine ⟨sx1.old, ?_⟩
      (conv => whnf); refine VCall.mk (refcellsB (S := Old H5) (fun k hk => old_lt sx1.old hk) (hA.frame sx1.old) aok) ?_
      rintro _ G2 ⟨ga2, go2⟩
      obtain ⟨xa2, xc2, rfl, sx2⟩ := sx1.got ga2 go2
      refine ⟨sx2.old, ?_⟩
      (conv => whnf); refine VCall.mk (refcellsB (S := Old H5) (fun k hk => old_lt sx2.old hk) (hB.frame sx2.old) bok) ?_
      rintro _ G3 ⟨ga3, go3⟩
      obtain ⟨xa3, xc3, rfl, sx3⟩ := sx2.got ga3 go3
      refine ⟨sx3.old, ?_⟩
      (conv => whnf); refine appSS sx3 1 2 slB_ rfl rfl lenB.1 tB_ones (by omega) (by decide) fun xa4 xc4 G4 sx4 _ => ?_
      refine ⟨sx4.old, ?_⟩
      (conv => whnf); refine VCall.mk (partedB List.length_append.symm (fun k hk => hk) (sx4.view 1 rfl) (by rw [List.length_append]; omega)) ?_
      rintro _ G5 ⟨ga5, cell, ra, rc, hcl, rfl, gr5⟩
      have sx5 := sx4.add ga5 (pV ra rc (asI (repsD A B)) (Fresh G4 G5)) gr5 (fun k hk => hk)
      refine ⟨sx5.old, ?_⟩
      (conv => whnf); refine stNB (cs := dfaL cell (.slice ra (repsD A B).length rc) (.slice none 0 0) (.slice none 0 0)) sx5 0 (by rw [dfaL_len hcl]; rfl) rfl (by rw [dfaL_len hcl]; decide) (dfaL_ones rfl rfl rfl) fun GF sf => ?_
      rw [splice_whole (by rw [dfaL_len hcl]; rfl)] at sf
      (conv => whnf); exact ⟨rfl, pp, rfl, cell, ra, rc, _, hcl, sf.pick [0, 3] (by decide)⟩
  · rintro p4 H6 junk6 ⟨cell, ra, rc, S', hcl, sr6⟩
    have st6 := st5.cat sr6
    have hlt8 := repsD_lt A B
    have hrl : (asI (repsD A B)).length = (repsD A B).length := by unfold asI; rw [List.length_map]
    have hrg : ∀ (k r : Nat), (repsD A B)[k]? = some r → (asI (repsD A B))[k]? = some (r : Int) := fun k r h => by unfold asI; rw [List.getElem?_map, h]; rfl
    have hnb := hg.nb
    generalize repsD A B = by_ at *
    have hstA : ∀ {H' : Heap} {ps : List Pc}, St H H' ps → ∀ {q : Int} {c : Nat}, c < 256 → Pure Tryd.prog 60 #[.agg la.toArray, .int .i64 q, .int .u8 (c : Int)] H' (.int .i64 (stepM a q c)) := fun st q c hc => by
      rw [ha.step q c hc]; exact refstep_p (hup st) (hvA.frame (st.old.mono hS)) aok hc
    have hstB : ∀ {H' : Heap} {ps : List Pc}, St H H' ps → ∀ {q : Int} {c : Nat}, c < 256 → Pure Tryd.prog 60 #[.agg lb.toArray, .int .i64 q, .int .u8 (c : Int)] H' (.int .i64 (stepM b q c)) := fun st q c hc => by
      rw [hb.step q c hc]; exact refstep_p (hup st) (hvB.frame (st.old.mono hS)) bok hc
    (conv => whnf)
    refine VLoop.mk [10] (fun x : Nat × List NW => match x with | (i, F) => [.int .i64 (i : Int)])
      (fun x H7 => x.1 ≤ x.2.length ∧ BfsOk (askG outB a b) by_ root x.2 x.1 0 ∧ (∀ (m : Nat) (y : NW), m < x.1 → x.2[m]? = some y → (askG outB a b).ends y.1 = false) ∧ ∃ vs, PrsP vs x.2 ∧ St H H7 [pB 35 p1 la, pB 35 p2 lb, pPrs pp3 vs x.2, pB 35 p4 (dfaL cell (.slice ra by_.length rc) (.slice none 0 0) (.slice none 0 0)), pV ra rc (asI by_) S']) (fun x _ => 4294967296 - x.1) ?_ ?_
    · (conv => whnf)
      exact ⟨(0, [(root, [])]), rfl, Nat.zero_le _, BfsOk.start, fun m y hm => absurd hm (Nat.not_lt_zero _), vs5, hr5, st6⟩
    · rintro ⟨i, F⟩ H7 junk7 ⟨hi, hbfs, hno, vs7, hr7, st7⟩
      simp only at hi hbfs hno hr7 st7
      have hrch : ∀ (F' : List NW) (i' k' : Nat), BfsOk (askG outB a b) by_ root F' i' k' → ∀ x ∈ F', Reach (askG outB a b) by_ root x.1 := fun F' i' k' h x hx => to_reach .refl (h.ok x hx).1 (h.ok x hx).2
      have hFM : ∀ (F' : List NW) (i' k' : Nat), BfsOk (askG outB a b) by_ root F' i' k' → F'.length ≤ 4294967296 := fun F' i' k' h => by
        rw [← List.length_map (f := (·.1))]
        exact hg.card _ h.nd fun n hn => by
          obtain ⟨x, hx, rfl⟩ := List.mem_map.1 hn
          exact hrch F' i' k' h x hx
      have hFM7 := hFM F i 0 hbfs
      obtain ⟨v0, hv0⟩ := get_some (l := vs7) (k := 0) (by rw [hr7.len]; decide)
      have hk7 : Blk H7 pp3 121 vs7 := st7.fblk 2 rfl
      obtain ⟨a0, c0, e0, hvs⟩ := st7.fview 2 rfl hv0 (xs := F.map (·.1)) (T := tPr) (e := 124) rfl
      rw [List.length_map] at e0
      subst e0
      (conv => whnf); refine VC.fa fl121_0 ?_
      (conv => whnf); refine ld1 (v := .slice a0 F.length c0) ct118 (by rw [hk7.cell]; exact hv0) trivial ?_
      (conv => whnf); refine VIte.mk (fun hz => ?_) (fun hz => ?_) <;> simp only [decide_eq_true_eq, decide_eq_false_iff_not] at hz
      · obtain ⟨y, hy⟩ := get_some (l := F) (k := i) (by omega)
        have hymem := List.mem_of_getElem? hy
        have hyr := hrch F i 0 hbfs y hymem
        have hym := hmr y.1 hyr
        obtain ⟨hy0, hyx, hyy⟩ := hym
        have hy1 : (F.map (·.1))[i]? = some y.1 := by rw [List.getElem?_map, hy]; rfl
        (conv => whnf); refine VDraw.lex rfl (by kernel_rfl) ?_
        (conv => whnf); refine VC.fa fl121_0 ?_
        (conv => whnf); refine ld1 (v := .slice a0 F.length c0) ct118 (by rw [hk7.cell]; exact hv0) trivial ?_
        (conv => whnf); refine ixrn (i := i) (x := y.1) sl118 hvs (by simp) hy1 rfl ?_
        rintro b8 o8 cs8 hS8 hc8 ⟨-, rfl⟩
        (conv => whnf); refine ixa ar124 (by decide) (by decide) ?_
        (conv => whnf); refine ld1 (v := .int .i64 y.1.x) ct3 (hc8 0 _ rfl) trivial ?_
        (conv => whnf); refine VC.fa fl121_0 ?_
        (conv => whnf); refine ld1 (v := .slice a0 F.length c0) ct118 (by rw [hk7.cell]; exact hv0) trivial ?_
        (conv => whnf); refine ixrn (i := i) (x := y.1) sl118 hvs (by simp) hy1 rfl ?_
        rintro b9 o9 cs9 hS9 hc9 ⟨-, rfl⟩
        (conv => whnf); refine ixa ar124 (by decide) (by decide) ?_
        (conv => whnf); refine ld1 (v := .int .i64 y.1.y) ct3 (hc9 1 _ rfl) trivial ?_
        have hfxA : 0 ≤ y.1.x ∧ y.1.x < A.final.length := ⟨hyx.1, by have := hyx.2; rw [ha.n] at this; omega⟩
        have hfxB : 0 ≤ y.1.y ∧ y.1.y < B.final.length := ⟨hyy.1, by have := hyy.2; rw [hb.n] at this; omega⟩
        have hfinA : ∀ (S0 : Nat → Prop) (K : Value → Prop), (∀ p o, VC.cell H7 p o = some (.bool (finM a y.1.x)) → K (.pointer (some ⟨p, o, none⟩))) → VDet Tryd.prog (Instr.indexAt 24 (.slice fA A.final.length cA) (.int .i64 y.1.x)) S0 H7 K := fun S0 K hK =>
          fin_ix (hsA.frame (st7.old.mono hS)) hfxA.1 hfxA.2 fun p o _ hc => hK p o (by rw [hc, ha.fin])
        have hfinB : ∀ (S0 : Nat → Prop) (K : Value → Prop), (∀ p o, VC.cell H7 p o = some (.bool (finM b y.1.y)) → K (.pointer (some ⟨p, o, none⟩))) → VDet Tryd.prog (Instr.indexAt 24 (.slice fB B.final.length cB) (.int .i64 y.1.y)) S0 H7 K := fun S0 K hK =>
          fin_ix (hsB.frame (st7.old.mono hS)) hfxB.1 hfxB.2 fun p o _ hc => hK p o (by rw [hc, hb.fin])
        have hends : (askG outB a b).ends y.1 = outB (finM a y.1.x) (finM b y.1.y) := rfl
        have hb1 : Blk H7 p1 35 la := st7.blk 0 rfl
        have hb2 : Blk H7 p2 35 lb := st7.blk 1 rfl
        (conv => whnf); refine VDraw.lex rfl (by kernel_rfl) ?_
        (conv => whnf); refine VC.fa fl35_3 ?_
        (conv => whnf); refine ld1 (v := .slice fA A.final.length cA) ct24 (by rw [hb1.cell]; exact hgA) trivial ?_
        (conv => whnf); refine hfinA _ _ fun q1 o1 hq1 => ?_
        (conv => whnf); refine ld1 ct4 hq1 trivial ?_
        (conv => whnf); refine VC.fa fl35_3 ?_
        (conv => whnf); refine ld1 (v := .slice fB B.final.length cB) ct24 (by rw [hb2.cell]; exact hgB) trivial ?_
        (conv => whnf); refine hfinB _ _ fun q2 o2 hq2 => ?_
        (conv => whnf); refine ld1 ct4 hq2 trivial ?_
        (conv => whnf); refine bneq_b (by kernel_rfl) ?_
        (conv => whnf)
        refine VSeq.cut [13] (fun _ : Unit => [.bool ((askG outB a b).ends y.1)]) (fun _ H' => H' = H7) ?_ ?_
        · (conv => whnf); refine VC.fa fl35_3 ?_
          (conv => whnf); refine ld1 (v := .slice fA A.final.length cA) ct24 (by rw [hb1.cell]; exact hgA) trivial ?_
          (conv => whnf); refine hfinA _ _ fun q3 o3 hq3 => ?_
          (conv => whnf); refine ld1 ct4 hq3 trivial ?_
          rw [hends]
          cases finM a y.1.x with
          | false =>
            (conv => whnf)
            exact ⟨rfl, (), rfl, rfl⟩
          | true =>
            (conv => whnf); refine VC.fa fl35_3 ?_
            (conv => whnf); refine ld1 (v := .slice fB B.final.length cB) ct24 (by rw [hb2.cell]; exact hgB) trivial ?_
            (conv => whnf); refine hfinB _ _ fun q4 o4 hq4 => ?_
            (conv => whnf); refine ld1 ct4 hq4 trivial ?_
            (conv => whnf)
            exact ⟨rfl, (), rfl, rfl⟩
        · rintro ⟨⟩ _ junk8 rfl
          (conv => whnf); refine VSeq.run ?_
          (conv => whnf)
          cases he : (askG outB a b).ends y.1
          case true =>
            obtain ⟨v1, hv1⟩ := get_some (l := vs7) (k := 1) (by rw [hr7.len]; decide)
            obtain ⟨a1, c1, e1, hvw⟩ := st7.fview 2 rfl hv1 (xs := F.map (·.2)) (T := tW) (e := 9) rfl
            rw [List.length_map] at e1
            subst e1
            have hy2 : (F.map (·.2))[i]? = some y.2 := by rw [List.getElem?_map, hy]; rfl
            (conv => whnf); refine VC.fa fl121_1 ?_
            (conv => whnf); refine ld1 (v := .slice a1 F.length c1) ct98 (by rw [hk7.cell]; exact hv1) trivial ?_
            (conv => whnf); refine ixrn (i := i) (x := y.2) sl98 hvw (by simp) hy2 rfl ?_
            rintro b10 o10 cs10 hS10 hc10 rfl
            (conv => whnf); refine ld1 (v := .string (bA y.2)) ct9 (hc10 0 _ rfl) trivial ?_
            (conv => whnf)
            exact ⟨st7.old, y.2, true, rfl, And.intro (fun _ => hbfs.found hcov hlt8 hy he hno) (fun h => by cases h)⟩
          case false =>
            (conv => whnf)
            refine VLoop.mk [14] (fun x : Nat × List NW => match x with | (k, F') => [.int .i64 (k : Int)])
              (fun x H9 => x.1 ≤ by_.length ∧ BfsOk (askG outB a b) by_ root x.2 i x.1 ∧ (∀ m, m ≤ i → x.2[m]? = F[m]?) ∧ ∃ vs, PrsP vs x.2 ∧ St H H9 [pB 35 p1 la, pB 35 p2 lb, pPrs pp3 vs x.2, pB 35 p4 (dfaL cell (.slice ra by_.length rc) (.slice none 0 0) (.slice none 0 0)), pV ra rc (asI by_) S']) (fun x _ => by_.length - x.1) ?_ ?_
            · (conv => whnf)
              exact ⟨(0, F), rfl, Nat.zero_le _, hbfs, fun _ _ => rfl, vs7, hr7, st7⟩
            · rintro ⟨k, F9⟩ H9 junk9 ⟨hk, hbfs9, hpre, vs9, hr9, st9⟩
              simp only at hk hbfs9 hpre hr9 st9
              have hb4 : Blk H9 p4 35 (dfaL cell (.slice ra by_.length rc) (.slice none 0 0) (.slice none 0 0)) := st9.blk 3 rfl
              have hy9 : F9[i]? = some y := by rw [hpre i (Nat.le_refl _)]; exact hy
              have hi9 := (List.getElem?_eq_some_iff.1 hy9).1
              have hFM9 := hFM F9 i k hbfs9
              (conv => whnf); refine VC.fa fl35_1 ?_
              (conv => whnf); refine ld1 (v := .slice ra by_.length rc) ct33 (by rw [hb4.cell]; exact dfaL_256 hcl) trivial ?_
              (conv => whnf); refine VIte.mk (fun hz => ?_) (fun hz => ?_) <;> simp only [decide_eq_true_eq, decide_eq_false_iff_not] at hz
              · obtain ⟨c, hc⟩ := get_some (l := by_) (k := k) (by omega)
                have hc8 := hlt8 c (List.mem_of_getElem? hc)
                (conv => whnf); refine VC.fa fl35_1 ?_
                (conv => whnf); refine ld1 (v := .slice ra by_.length rc) ct33 (by rw [hb4.cell]; exact dfaL_256 hcl) trivial ?_
                (conv => whnf); refine ixrn (i := k) (x := (c : Int)) sl33 (st9.at_ 4 rfl) hrl.symm (hrg k c hc) rfl ?_
                rintro b11 o11 cs11 hS11 hc11 ⟨rfl, -⟩
                (conv => whnf); refine ld1 (v := .int .i64 (c : Int)) ct3 hc11.one trivial ?_
                (conv => whnf); rw [w8 (x := (c : Int)) (by omega) (by omega)]
                have hstA : ∀ {H' : Heap} {ps : List Pc}, St H H' ps → Pure Tryd.prog 60 #[.agg la.toArray, .int .i64 y.1.x, .int .u8 (c : Int)] H' (.int .i64 (stepM a y.1.x c)) := fun st => hstA st hc8
                have hstB : ∀ {H' : Heap} {ps : List Pc}, St H H' ps → Pure Tryd.prog 60 #[.agg lb.toArray, .int .i64 y.1.y, .int .u8 (c : Int)] H' (.int .i64 (stepM b y.1.y c)) := fun st => hstB st hc8
                have htx : (0 : Int) ≤ stepM a y.1.x c ∧ stepM a y.1.x c < 65536 ∧ (0 : Int) ≤ stepM b y.1.y c ∧ stepM b y.1.y c < 65536 := by
                  have h1 := sa.step _ _ hyx hc8
                  have h2 := sb.step _ _ hyy hc8
                  have h3 := sa.n2
                  have h4 := sb.n2
                  unfold inA at h1 h2
                  omega
                have hyl := hbfs9.size i y hy9
                have hsz : (bA y.2).size + (bA [c]).size ≤ maxLen := by
                  rw [bA_size, bA_size]
                  unfold maxLen
                  simp only [List.length_singleton]
                  omega
                have hcat : bA y.2 ++ (⟨([c].map UInt8.ofNat).toArray⟩ : ByteArray) = bA (y.2 ++ [c]) := bA_append _ _
                have hFs : ∀ x ∈ F9, x.1.s = 0 := fun x hx => (hmr x.1 (hrch F9 i k hbfs9 x hx)).1
                have hone : ∀ {G : Heap} {q t : Nat} {j x : Nat}, Blk G q t [.int .u8 (c : Int)] → [c][j]? = some x → VC.cell G q (0 + j) = some (.int .u8 (x : Int)) := fun {G q t j x} hq hx => by
                  cases j with
                  | zero => cases hx; rw [hq.cell]; rfl
                  | succ j => simp at hx
                have hclose : ∀ (vsn : List Value) (Fn : List NW) (GN : Heap), St H GN [pB 35 p1 la, pB 35 p2 lb, pPrs pp3 vsn Fn, pB 35 p4 (dfaL cell (.slice ra by_.length rc) (.slice none 0 0) (.slice none 0 0)), pV ra rc (asI by_) S'] → PrsP vsn Fn → Add F9 ⟨0, stepM a y.1.x c, stepM b y.1.y c⟩ (y.2 ++ [c]) Fn → k + 1 ≤ by_.length ∧ BfsOk (askG outB a b) by_ root Fn i (k + 1) ∧ (∀ m, m ≤ i → Fn[m]? = F[m]?) ∧ ∃ vs, PrsP vs Fn ∧ St H GN [pB 35 p1 la, pB 35 p2 lb, pPrs pp3 vs Fn, pB 35 p4 (dfaL cell (.slice ra by_.length rc) (.slice none 0 0) (.slice none 0 0)), pV ra rc (asI by_) S'] := fun vsn Fn GN hst hr hadd => by
                  refine ⟨by omega, hbfs9.add hup2 hy9 hc rfl hadd, fun m hm => ?_, vsn, hr, hst⟩
                  rw [← hpre m hm]
                  rcases hadd with ⟨-, rfl⟩ | ⟨-, rfl⟩
                  · rfl
                  · rw [List.getElem?_append_left (by omega)]
                obtain ⟨v9, hv9⟩ := get_some (l := vs9) (k := 1) (by rw [hr9.len]; decide)
                obtain ⟨a9, c9, e9, hvw9⟩ := st9.fview 2 rfl hv9 (xs := F9.map (·.2)) (T := tW) (e := 9) rfl
                rw [List.length_map] at e9
                subst e9
                have hk9 : Blk H9 pp3 121 vs9 := st9.fblk 2 rfl
                have hy92 : (F9.map (·.2))[i]? = some y.2 := by rw [List.getElem?_map, hy9]; rfl
                have hin : ∀ {j : Nat}, Old H9 j ↔ j < H9.size := Iff.rfl
                (conv => whnf); refine VDraw.heldZ (Old H9) [20] (sq [0,1,2,3,5,6,7,9,10,11,12,13,14,15,16] (.b 4 (.b 8 (.f 17 (.f 18 (sq [19] (.f 20 .e)))) 17 (.b 8 (.f 18 (sq [19] (.f 20 .e))) 18 (sq [19] (.f 8 (.f 20 .e))))) 17 (.b 4 (.b 8 (.f 18 (sq [19] (.f 20 .e))) 18 (sq [19] (.f 8 (.f 20 .e)))) 18 (sq [19] (.f 4 (.f 8 (.f 20 .e))))))) rfl (by kernel_rfl) ?_
                (conv => whnf); refine hldA _ st9 rfl (st9.in_ 0 rfl rfl).2 ?_
                (conv => whnf); refine hldB _ st9 rfl (st9.in_ 1 rfl rfl).2 ?_
                (conv => whnf); refine VC.fa fl121_1 ?_
                (conv => whnf); refine ld1 (v := .slice a9 F9.length c9) ct98 (by rw [hk9.cell]; exact hv9) hk9.lt ?_
                (conv => whnf); refine ixrn (i := i) (x := y.2) sl98 hvw9 (by simp) hy92 rfl ?_
                rintro b12 o12 cs12 hS12 hc12 rfl
                (conv => whnf); refine ld1 (v := .string (bA y.2)) ct9 (hc12 0 _ rfl) hS12 ?_
                have sx0 := st9
                have gg0 : Agr (Old H9) H9 H9 := Agr.refl _ _
                (conv => whnf); refine ⟨?_, ?_⟩
                · -- 4
                  refine pures (hstA sx0) fun G1 gc1 => ?_
                  have sx1 := sx0.call gc1
                  have gg1 := gg0.trans (gc1.mono fun k hk => old_lt gg0 hk)
                  refine ⟨gg1, ?_⟩
                  (conv => whnf); refine ⟨?_, ?_⟩
                  · -- 8
                    refine pures (hstB sx1) fun G2 gc2 => ?_
                    have sx2 := sx1.call gc2
                    have gg2 := gg1.trans (gc2.mono fun k hk => old_lt gg1 hk)
                    refine ⟨gg2, ?_⟩
                    (conv => whnf); refine vbuild1 sl85 [.int .u8 (c : Int)] rfl rfl (by decide) (by decide) ?_
                    intro qq G3 gq3 gs3 gb3 ga3
                    have sx3 := sx2.box gq3 gs3 gb3 ga3
                    have gg3 := gg2.trans (ga3.mono fun k hk => by have := old_lt gg2 hk; omega)
                    refine ⟨gg3, ?_⟩
                    (conv => whnf); refine vb2s [c] rfl rfl rfl (fun j x hx => hone (sx3.blk 5 rfl) hx) rfl ?_
                    have sx4 := sx3
                    have gg4 := gg3
                    refine ⟨gg4, ?_⟩
                    (conv => whnf); refine vcat hsz ?_
                    rw [hcat]
                    (conv => whnf); refine addP_v (n := ⟨0, stepM a y.1.x c, stepM b y.1.y c⟩) (w := y.2 ++ [c]) sx4 2 rfl hr9 rfl htx.1 htx.2.1 htx.2.2.1 htx.2.2.2 hFs (by omega) fun vsn Fn GN sN hrN hadd => ?_
                    (conv => whnf); rw [w64 (x := (k : Int) + 1) (by omega) (by omega)]
                    exact ⟨rfl, (k + 1, Fn), rfl, hclose vsn Fn GN (sN.pick [0, 1, 2, 3, 4] (by decide)) hrN hadd, by omega⟩
                  · -- 17
                    refine vbuild1 sl85 [.int .u8 (c : Int)] rfl rfl (by decide) (by decide) ?_
                    intro qq G2 gq2 gs2 gb2 ga2
                    have sx2 := sx1.box gq2 gs2 gb2 ga2
                    have gg2 := gg1.trans (ga2.mono fun k hk => by have := old_lt gg1 hk; omega)
                    refine ⟨gg2, ?_⟩
                    (conv => whnf); refine ⟨?_, ?_⟩
                    · -- 8
                      refine pures (hstB sx2) fun G3 gc3 => ?_
                      have sx3 := sx2.call gc3
                      have gg3 := gg2.trans (gc3.mono fun k hk => old_lt gg2 hk)
                      refine ⟨gg3, ?_⟩
                      (conv => whnf); refine vb2s [c] rfl rfl rfl (fun j x hx => hone (sx3.blk 5 rfl) hx) rfl ?_
                      have sx4 := sx3
                      have gg4 := gg3
                      refine ⟨gg4, ?_⟩
                      (conv => whnf); refine vcat hsz ?_
                      rw [hcat]
                      (conv => whnf); refine addP_v (n := ⟨0, stepM a y.1.x c, stepM b y.1.y c⟩) (w := y.2 ++ [c]) sx4 2 rfl hr9 rfl htx.1 htx.2.1 htx.2.2.1 htx.2.2.2 hFs (by omega) fun vsn Fn GN sN hrN hadd => ?_
                      (conv => whnf); rw [w64 (x := (k : Int) + 1) (by omega) (by omega)]
                      exact ⟨rfl, (k + 1, Fn), rfl, hclose vsn Fn GN (sN.pick [0, 1, 2, 3, 4] (by decide)) hrN hadd, by omega⟩
                    · -- 18
                      refine vb2s [c] rfl rfl rfl (fun j x hx => hone (sx2.blk 5 rfl) hx) rfl ?_
                      have sx3 := sx2
                      have gg3 := gg2
                      refine ⟨gg3, ?_⟩
                      (conv => whnf); refine vcat hsz ?_
                      rw [hcat]
                      (conv => whnf); refine pures (hstB sx3) fun G4 gc4 => ?_
                      have sx4 := sx3.call gc4
                      have gg4 := gg3.trans (gc4.mono fun k hk => old_lt gg3 hk)
                      refine ⟨gg4, ?_⟩
                      (conv => whnf); refine addP_v (n := ⟨0, stepM a y.1.x c, stepM b y.1.y c⟩) (w := y.2 ++ [c]) sx4 2 rfl hr9 rfl htx.1 htx.2.1 htx.2.2.1 htx.2.2.2 hFs (by omega) fun vsn Fn GN sN hrN hadd => ?_
                      (conv => whnf); rw [w64 (x := (k : Int) + 1) (by omega) (by omega)]
                      exact ⟨rfl, (k + 1, Fn), rfl, hclose vsn Fn GN (sN.pick [0, 1, 2, 3, 4] (by decide)) hrN hadd, by omega⟩
                · -- 17
                  refine vbuild1 sl85 [.int .u8 (c : Int)] rfl rfl (by decide) (by decide) ?_
                  intro qq G1 gq1 gs1 gb1 ga1
                  have sx1 := sx0.box gq1 gs1 gb1 ga1
                  have gg1 := gg0.trans (ga1.mono fun k hk => by have := old_lt gg0 hk; omega)
                  refine ⟨gg1, ?_⟩
                  (conv => whnf); refine ⟨?_, ?_⟩
                  · -- 4
                    refine pures (hstA sx1) fun G2 gc2 => ?_
                    have sx2 := sx1.call gc2
                    have gg2 := gg1.trans (gc2.mono fun k hk => old_lt gg1 hk)
                    refine ⟨gg2, ?_⟩
                    (conv => whnf); refine ⟨?_, ?_⟩
                    · -- 8
                      refine pures (hstB sx2) fun G3 gc3 => ?_
                      have sx3 := sx2.call gc3
                      have gg3 := gg2.trans (gc3.mono fun k hk => old_lt gg2 hk)
                      refine ⟨gg3, ?_⟩
                      (conv => whnf); refine vb2s [c] rfl rfl rfl (fun j x hx => hone (sx3.blk 5 rfl) hx) rfl ?_
                      have sx4 := sx3
                      have gg4 := gg3
                      refine ⟨gg4, ?_⟩
                      (conv => whnf); refine vcat hsz ?_
                      rw [hcat]
                      (conv => whnf); refine addP_v (n := ⟨0, stepM a y.1.x c, stepM b y.1.y c⟩) (w := y.2 ++ [c]) sx4 2 rfl hr9 rfl htx.1 htx.2.1 htx.2.2.1 htx.2.2.2 hFs (by omega) fun vsn Fn GN sN hrN hadd => ?_
                      (conv => whnf); rw [w64 (x := (k : Int) + 1) (by omega) (by omega)]
                      exact ⟨rfl, (k + 1, Fn), rfl, hclose vsn Fn GN (sN.pick [0, 1, 2, 3, 4] (by decide)) hrN hadd, by omega⟩
                    · -- 18
                      refine vb2s [c] rfl rfl rfl (fun j x hx => hone (sx2.blk 5 rfl) hx) rfl ?_
                      have sx3 := sx2
                      have gg3 := gg2
                      refine ⟨gg3, ?_⟩
                      (conv => whnf); refine vcat hsz ?_
                      rw [hcat]
                      (conv => whnf); refine pures (hstB sx3) fun G4 gc4 => ?_
                      have sx4 := sx3.call gc4
                      have gg4 := gg3.trans (gc4.mono fun k hk => old_lt gg3 hk)
                      refine ⟨gg4, ?_⟩
                      (conv => whnf); refine addP_v (n := ⟨0, stepM a y.1.x c, stepM b y.1.y c⟩) (w := y.2 ++ [c]) sx4 2 rfl hr9 rfl htx.1 htx.2.1 htx.2.2.1 htx.2.2.2 hFs (by omega) fun vsn Fn GN sN hrN hadd => ?_
                      (conv => whnf); rw [w64 (x := (k : Int) + 1) (by omega) (by omega)]
                      exact ⟨rfl, (k + 1, Fn), rfl, hclose vsn Fn GN (sN.pick [0, 1, 2, 3, 4] (by decide)) hrN hadd, by omega⟩
                  · -- 18
                    refine vb2s [c] rfl rfl rfl (fun j x hx => hone (sx1.blk 5 rfl) hx) rfl ?_
                    have sx2 := sx1
                    have gg2 := gg1
                    refine ⟨gg2, ?_⟩
                    (conv => whnf); refine vcat hsz ?_
                    rw [hcat]
                    (conv => whnf); refine pures (hstA sx2) fun G3 gc3 => ?_
                    have sx3 := sx2.call gc3
                    have gg3 := gg2.trans (gc3.mono fun k hk => old_lt gg2 hk)
                    refine ⟨gg3, ?_⟩
                    (conv => whnf); refine pures (hstB sx3) fun G4 gc4 => ?_
                    have sx4 := sx3.call gc4
                    have gg4 := gg3.trans (gc4.mono fun k hk => old_lt gg3 hk)
                    refine ⟨gg4, ?_⟩
                    (conv => whnf); refine addP_v (n := ⟨0, stepM a y.1.x c, stepM b y.1.y c⟩) (w := y.2 ++ [c]) sx4 2 rfl hr9 rfl htx.1 htx.2.1 htx.2.2.1 htx.2.2.2 hFs (by omega) fun vsn Fn GN sN hrN hadd => ?_
                    (conv => whnf); rw [w64 (x := (k : Int) + 1) (by omega) (by omega)]
                    exact ⟨rfl, (k + 1, Fn), rfl, hclose vsn Fn GN (sN.pick [0, 1, 2, 3, 4] (by decide)) hrN hadd, by omega⟩
              · have : k = by_.length := Nat.le_antisymm hk (by omega)
                subst this
                (conv => whnf); rw [w64 (x := (i : Int) + 1) (by omega) (by omega)]
                refine ⟨rfl, (i + 1, F9), rfl, ⟨hi9, hbfs9.turn (Nat.le_refl _), fun m z hm hz => ?_, vs9, hr9, st9⟩, show 4294967296 - (i + 1) < 4294967296 - i by omega⟩
                rcases Nat.lt_or_eq_of_le (Nat.le_of_lt_succ (show m < i + 1 from hm)) with hm | rfl
                · exact hno m z hm (by rw [← hpre m (Nat.le_of_lt hm)]; exact hz)
                · rw [hy9] at hz; cases hz; exact he
      · obtain rfl : i = F.length := by omega
        (conv => whnf)
        exact ⟨st7.old, [], false, rfl, And.intro (fun h => by cases h) fun _ => ⟨rfl, hbfs.none hcov fun y hy => by
          obtain ⟨m, hm⟩ := List.getElem?_of_mem hy
          exact hno m y (List.getElem?_eq_some_iff.1 hm).1 hm⟩⟩
end Go.Proofs.YthomdogheamfpaaDoor
/- Regions whose order is open, where three operations may be ready at a time. -/
set_option linter.unusedVariables false
set_option linter.unusedSimpArgs false
namespace Go.VC
inductive Sc3 where
  | e
  | q (i : Nat) (s : Sc3)
  | f (i : Nat) (s : Sc3)
  | b (i : Nat) (s : Sc3) (j : Nat) (s' : Sc3)
  | t (i : Nat) (s : Sc3) (j : Nat) (s' : Sc3) (k : Nat) (s'' : Sc3)
def sq3 : List Nat → Sc3 → Sc3
  | [], s => s
  | i :: l, s => .q i (sq3 l s)
def Sc3.len : Sc3 → Nat
  | .e => 0
  | .q _ s => s.len + 1
  | .f _ s => s.len + 1
  | .b _ s _ _ => s.len + 1
  | .t _ s _ _ _ _ => s.len + 1
def Sc3.even : Sc3 → Bool
  | .e => true
  | .q _ s => s.even
  | .f _ s => s.even
  | .b _ s _ s' => s.even && s'.even && s.len == s'.len
  | .t _ s _ s' _ s'' => s.even && s'.even && s''.even && s.len == s'.len && s.len == s''.len
def heldB3 (ops : Array Oper) : Sc3 → Array Bool → Bool
  | .e, listed => (Region.ready .any ops listed).isEmpty
  | .q i s, listed => (Region.ready .any ops listed).contains i && Region.free .any ops listed i && heldB3 ops s (listed.setIfInBounds i true)
  | .f i s, listed => Region.ready .any ops listed == [i] && heldB3 ops s (listed.setIfInBounds i true)
  | .b i s j s', listed => Region.ready .any ops listed == [i, j] && heldB3 ops s (listed.setIfInBounds i true) && heldB3 ops s' (listed.setIfInBounds j true)
  | .t i s j s' k s'', listed => Region.ready .any ops listed == [i, j, k] && heldB3 ops s (listed.setIfInBounds i true) && heldB3 ops s' (listed.setIfInBounds j true) && heldB3 ops s'' (listed.setIfInBounds k true)
def held3 (P : Program) (S : Nat → Prop) (H0 : Heap) (all : List Oper) (s : Sc3) : Fr → Heap → (Fr → Heap → Prop) → Prop :=
  Sc3.rec (motive := fun _ => Fr → Heap → (Fr → Heap → Prop) → Prop) (fun fr H K => K fr H)
    (fun i _ ih fr H K => match all[i]? with
      | none => False
      | some o => whenK all o fr (quietG P S o H fun fr' H' => ih fr' H' K) (skipG o H fun fr' H' => ih fr' H' K))
    (fun i _ ih fr H K => stepG P S [] H0 all i fr H fun fr' H' => ih fr' H' K)
    (fun i _ j _ ih ih' fr H K => (stepG P S [] H0 all i fr H fun fr' H' => ih fr' H' K) ∧ stepG P S [] H0 all j fr H fun fr' H' => ih' fr' H' K)
    (fun i _ j _ k _ ih ih' ih'' fr H K => (stepG P S [] H0 all i fr H fun fr' H' => ih fr' H' K) ∧ (stepG P S [] H0 all j fr H fun fr' H' => ih' fr' H' K) ∧ stepG P S [] H0 all k fr H fun fr' H' => ih'' fr' H' K) s
theorem held3_q (P : Program) (S : Nat → Prop) (H0 : Heap) (all : List Oper) (i : Nat) (s : Sc3) (fr : Fr) (H : Heap) (K : Fr → Heap → Prop) : held3 P S H0 all (.q i s) fr H K =
    (match all[i]? with
      | none => False
      | some o => whenK all o fr (quietG P S o H fun fr' H' => held3 P S H0 all s fr' H' K) (skipG o H fun fr' H' => held3 P S H0 all s fr' H' K)) := rfl
theorem held3_sound {P : Program} {S : Nat → Prop} {w0 : World} {all : List Oper} {Q : Exit → Act → World → Prop} (hs : Region.noSelect all.toArray = true)
    (hp : ∀ c a w, ¬ Q (.panic c) a w) : ∀ (l : Sc3) (listed : Array Bool) (fr : Fr) (a : Act) (w : World) (K : Fr → Heap → Prop), At fr a → Env w0 w → Cls w0 S w → Shut all.toArray listed →
    (∀ fr' a' w', At fr' a' → Env w0 w' → K fr' w'.heap → Q .normal a' w') → heldB3 all.toArray l listed = true → l.even = true →
    held3 P S w0.heap all l fr w.heap K → wpAnyZ P all.toArray Q (Cls w0 S) [] l.len listed a w
  | .e, listed, fr, a, w, K, hat, he, _, _, hq, hB, _, h => ⟨by simpa [heldB3] using hB, hq fr a w hat he h⟩
  | .q i s, listed, fr, a, w, K, hat, he, hc, hsh, hq, hB, hev, h => by
    simp only [heldB3, Bool.and_eq_true] at hB
    obtain ⟨⟨b1, b2⟩, hB2⟩ := hB
    rw [held3_q] at h
    split at h
    · exact h.elim
    · rename_i o ho
      have ho' : all.toArray[i]? = some o := by simpa using ho
      have hri : i ∈ Region.ready .any all.toArray listed := by simpa using b1
      rcases whenK_sound hat h with ⟨hwant, h⟩ | ⟨hwant, h⟩
      · unfold quietG at h
        split at h
        · obtain ⟨v, hv, hk⟩ := detK_sound h
          rw [putK_eq] at hk
          refine wpAnyZ_first (v := v) (f := all.toArray.size) ho' (Region.noSelect_spec hs) (fun c a' w' hh => (hp _ _ _ hh).elim) rfl (fun j hj => by cases hj) s.len listed a w hsh (Region.free_spec ho' b2) hri
            (.inl ⟨hwant, fun w' hw' => ?_⟩) hc ?_
          · rw [hat.evalF]
            exact hv w' fun k hk => (hw'.2 k hk).trans (hc.2 k hk).symm
          · exact held3_sound hs hp s _ _ _ w K (hat.put o.dst v) he hc (hsh.put hri) hq hB2 hev hk
        · exact h.elim
      · unfold skipG at h
        rw [putK_eq] at h
        exact wpAnyZ_first (v := undef) (f := all.toArray.size) ho' (Region.noSelect_spec hs) (fun c a' w' hh => (hp _ _ _ hh).elim) rfl (fun j hj => by cases hj) s.len listed a w hsh (Region.free_spec ho' b2) hri
          (.inr ⟨hwant, rfl⟩) hc (held3_sound hs hp s _ _ _ w K (hat.put o.dst undef) he hc (hsh.put hri) hq hB2 hev h)
  | .f i s, listed, fr, a, w, K, hat, he, hc, hsh, hq, hB, hev, h => by
    simp only [heldB3, Bool.and_eq_true, beq_iff_eq] at hB
    obtain ⟨b1, hB2⟩ := hB
    refine ⟨(fun h0 => by rw [b1] at h0; cases h0), fun j hj => ?_⟩
    have hj0 := hj
    rw [b1] at hj
    obtain rfl : j = i := by simpa using hj
    exact stepG_sound (Z := []) hat he (fun _ => hc) h fun fr' a' w' h1 h2 h3 h4 => ⟨h3, held3_sound hs hp s _ _ _ w' K h1 h2 (h3 rfl) (hsh.put hj0) hq hB2 hev h4⟩
  | .b i s j s', listed, fr, a, w, K, hat, he, hc, hsh, hq, hB, hev, h => by
    simp only [heldB3, Bool.and_eq_true, beq_iff_eq] at hB
    obtain ⟨⟨b1, hB2⟩, hB3⟩ := hB
    simp only [Sc3.even, Bool.and_eq_true, beq_iff_eq] at hev
    obtain ⟨⟨e1, e2⟩, e3⟩ := hev
    refine ⟨(fun h0 => by rw [b1] at h0; cases h0), fun k hk => ?_⟩
    have hk0 := hk
    rw [b1] at hk
    rcases List.mem_cons.1 hk with rfl | hk
    · exact stepG_sound (Z := []) hat he (fun _ => hc) h.1 fun fr' a' w' h1 h2 h3 h4 => ⟨h3, held3_sound hs hp s _ _ _ w' K h1 h2 (h3 rfl) (hsh.put hk0) hq hB2 e1 h4⟩
    · obtain rfl : k = j := by simpa using hk
      rw [e3]
      exact stepG_sound (Z := []) hat he (fun _ => hc) h.2 fun fr' a' w' h1 h2 h3 h4 => ⟨h3, held3_sound hs hp s' _ _ _ w' K h1 h2 (h3 rfl) (hsh.put hk0) hq hB3 e2 h4⟩
  | .t i s j s' m s'', listed, fr, a, w, K, hat, he, hc, hsh, hq, hB, hev, h => by
    simp only [heldB3, Bool.and_eq_true, beq_iff_eq] at hB
    obtain ⟨⟨⟨b1, hB2⟩, hB3⟩, hB4⟩ := hB
    simp only [Sc3.even, Bool.and_eq_true, beq_iff_eq] at hev
    obtain ⟨⟨⟨⟨e1, e2⟩, e3⟩, e4⟩, e5⟩ := hev
    refine ⟨(fun h0 => by rw [b1] at h0; cases h0), fun k hk => ?_⟩
    have hk0 := hk
    rw [b1] at hk
    rcases List.mem_cons.1 hk with rfl | hk
    · exact stepG_sound (Z := []) hat he (fun _ => hc) h.1 fun fr' a' w' h1 h2 h3 h4 => ⟨h3, held3_sound hs hp s _ _ _ w' K h1 h2 (h3 rfl) (hsh.put hk0) hq hB2 e1 h4⟩
    · rcases List.mem_cons.1 hk with rfl | hk
      · rw [e4]
        exact stepG_sound (Z := []) hat he (fun _ => hc) h.2.1 fun fr' a' w' h1 h2 h3 h4 => ⟨h3, held3_sound hs hp s' _ _ _ w' K h1 h2 (h3 rfl) (hsh.put hk0) hq hB3 e2 h4⟩
      · obtain rfl : k = m := by simpa using hk
        rw [e5]
        exact stepG_sound (Z := []) hat he (fun _ => hc) h.2.2 fun fr' a' w' h1 h2 h3 h4 => ⟨h3, held3_sound hs hp s'' _ _ _ w' K h1 h2 (h3 rfl) (hsh.put hk0) hq hB4 e3 h4⟩
theorem VDraw.held3 {P : Program} {l : List Oper} {fr : Fr} {H : Heap} {K : Fr → Heap → Prop} (S : Nat → Prop) (sched : Sc3) (hm : P.follows .mixedOrders = true)
    (hB : (Region.noSelect l.toArray && (sched.len == l.length) && sched.even && heldB3 l.toArray sched (Array.replicate l.length false)) = true)
    (h : VC.held3 P S H l sched fr H K) : VDraw P l fr H K := by
  refine ⟨?_⟩
  intro id Q a w hat hw hp hq
  subst hw
  simp only [Bool.and_eq_true, beq_iff_eq] at hB
  refine wp_region_any hm (wpAny_of_Z (S := Cls w S) (Z := []) _ _ _ _ ?_)
  have hsh : Shut l.toArray (Array.replicate l.length false) := fun j o _ hj => by
    rw [Array.getD_eq_getD_getElem?, Array.getElem?_replicate] at hj
    split at hj <;> simp at hj
  have := held3_sound (P := P) (S := S) (w0 := w) (Q := Q) hB.1.1.1 hp sched (Array.replicate l.length false) fr a { w with drawn := w.drawn + 1 } K hat ⟨rfl, rfl, rfl⟩ ⟨⟨rfl, rfl, rfl⟩, Agr.refl _ _⟩ hsh hq hB.2 hB.1.2 h
  rw [hB.1.1.2] at this
  simpa using this
end Go.VC
/- The law MinimDiffers: the walk. -/
set_option linter.unusedVariables false
set_option linter.unusedSimpArgs false
set_option maxRecDepth 100000
namespace Go.Proofs.YthomdogheamfpaaDoor
open Go.VC Go.Lib
attribute [local irreducible] mRun gRun atRun odd7M
/-- An automaton of the document's, as a piece. -/
def pDf (S : Nat → Prop) (v : Value) (D : DM) : Pc := ⟨S, fun H => DfaV S H v D, fun h hp => hp.frame h⟩
theorem dfa_agg {S : Nat → Prop} {H : Heap} {v : Value} {D : DM} (h : DfaV S H v D) : ∃ la : List Value, v = .agg la.toArray ∧ la.length = 259 ∧ la.all (·.oneCell') = true := by
  obtain ⟨hl, ra, rc, na, nc, fa, fc, e, -, -, -⟩ := h
  exact ⟨_, e, dfaL_len hl, dfaL_ones rfl rfl rfl⟩
set_option maxHeartbeats 16000000 in
theorem minimDiffers_p (v : Value) (cells : List (BitVec 256)) (next : List (List Int)) (final : List Bool) (v' : Value) (cells' : List (BitVec 256)) (next' : List (List Int)) (final' : List Bool) (S : Nat → Prop) (H : Heap) (ht : TabIn S H v cells next final) (hu : TabIn S H v' cells' next' final') (hpow : PowH Tryd.prog H) (hE : EscH H) :
    Pure Tryd.prog 6 #[v, v'] H (.bool true) := by
  refine FnOk.of_vc Tryd.func6 rfl (Tryd.call6 _) ?_
  (conv => whnf); refine tab_box ht fun l hl hv => ?_
  intro p H1 hp hs1 hb1 ha1
  have st1 := (St.nil H).box hp hs1 hb1 ha1
  (conv => whnf); refine tab_box (hu.frame st1.old) fun l' hl' hv' => ?_
  intro p' H2 hp' hs2 hb2 ha2
  have st2 := st1.box hp' hs2 hb2 ha2
  (conv => whnf); refine pures (speaks07_p (hpow.agr st2.old) (hE.agr st2.old)) fun H3 ha3 => ?_
  have st3 := st2.call ha3
  (conv => whnf); refine VDraw.held (Old H3) 5 (sq [0,2] (.f 1 (.f 3 (sq [4] (.f 5 .e))))) rfl (by kernel_rfl) ?_
  (conv => whnf); refine tab_load hl hv (st3.blk 0 rfl) (st3.blk 0 rfl).lt ?_
  (conv => whnf); refine tab_load hl' hv' (st3.blk 1 rfl) (st3.blk 1 rfl).lt ?_
  (conv => whnf); refine VCall.mk (auto07_c v cells next final S H3 (ht.frame st3.old)) ?_
  rintro va H4 ⟨ha4, hs4, hva⟩
  have st4 := st3.call ha4
  refine ⟨ha4, ?_⟩
  (conv => whnf); refine VCall.mk (auto07_c v' cells' next' final' S H4 (hu.frame st4.old)) ?_
  rintro vb H5 ⟨ha5, hs5, hvb⟩
  have st5 := st4.call ha5
  have h35 := ha4.trans (ha5.mono fun k hk => old_lt ha4 hk)
  refine ⟨h35, ?_⟩
  have hma : IsMade (autoOf cells next final) := ⟨_, _, _, rfl⟩
  have hmb : IsMade (autoOf cells' next' final') := ⟨_, _, _, rfl⟩
  have hva5 : AutoV (Old H5) H5 va (autoOf cells next final) := (hva.frame (ha5.mono fun k hk => hk.2)).mono fun k hk => old_lt ha5 hk.2
  have hvb5 : AutoV (Old H5) H5 vb (autoOf cells' next' final') := hvb.mono fun k hk => hk.2
  have hba := both_of cells next final
  have hbb := both_of cells' next' final'
  have hag : ∀ {G : Heap} {ps : List Pc}, St H5 G ps → Agr (Old H) H G := fun st => st5.old.trans (st.old.mono fun k hk => old_lt st5.old hk)
  have hcA : ∀ {G : Heap} {ps : List Pc} (st : St H5 G ps) {K : Value → Heap → Prop}, (∀ (la : List Value) (G' : Heap) (SA : Nat → Prop), la.length = 259 → la.all (·.oneCell') = true → St H5 G' (ps ++ [pDf SA (.agg la.toArray) (dfaOf cells next final)]) → K (.agg la.toArray) G') → VCall Tryd.prog 18 #[v] G K := fun st K k => by
    refine VCall.mk (made_c v cells next final S _ (ht.frame (hag st))) ?_
    rintro vA G' ⟨ga, gs, hA⟩
    obtain ⟨la, rfl, h1, h2⟩ := dfa_agg hA
    exact k la G' _ h1 h2 (st.add ga (pDf _ _ _) hA fun k hk => hk)
  have hcB : ∀ {G : Heap} {ps : List Pc} (st : St H5 G ps) {K : Value → Heap → Prop}, (∀ (la : List Value) (G' : Heap) (SA : Nat → Prop), la.length = 259 → la.all (·.oneCell') = true → St H5 G' (ps ++ [pDf SA (.agg la.toArray) (dfaOf cells' next' final')]) → K (.agg la.toArray) G') → VCall Tryd.prog 18 #[v'] G K := fun st K k => by
    refine VCall.mk (made_c v' cells' next' final' S _ (hu.frame (hag st))) ?_
    rintro vA G' ⟨ga, gs, hA⟩
    obtain ⟨la, rfl, h1, h2⟩ := dfa_agg hA
    exact k la G' _ h1 h2 (st.add ga (pDf _ _ _) hA fun k hk => hk)
  have hag5 : Agr (Old H5) H5 H5 := Agr.refl _ _
  have sx0 := St.nil H5
  (conv => whnf); refine VDraw.cut [7, 8] (fun x : Nat × Nat => match x with | (p7, p8) => [.pointer (some ⟨p7, 0, none⟩), .pointer (some ⟨p8, 0, none⟩)]) (fun x H' => match x with | (p7, p8) => ∃ (la lb : List Value) (SA SB : Nat → Prop), la.length = 259 ∧ lb.length = 259 ∧ St H5 H' [pB 35 p7 la, pB 35 p8 lb, pDf SA (.agg la.toArray) (dfaOf cells next final), pDf SB (.agg lb.toArray) (dfaOf cells' next' final')]) ?_ ?_
  · refine VDraw.held3 (Old H5) (sq3 [0,2] (.t 1 (.t 3 (.b 4 (.f 5 (.f 6 (.f 7 .e))) 5 (.f 4 (.f 6 (.f 7 .e)))) 4 (.b 3 (.f 5 (.f 6 (.f 7 .e))) 5 (.f 3 (.f 6 (.f 7 .e)))) 5 (.b 3 (.f 4 (.f 6 (.f 7 .e))) 4 (.f 3 (.f 6 (.f 7 .e))))) 4 (.b 1 (.b 3 (.f 5 (.f 6 (.f 7 .e))) 5 (.f 3 (.f 6 (.f 7 .e)))) 5 (.f 1 (.f 3 (.f 6 (.f 7 .e))))) 5 (.b 1 (.b 3 (.f 4 (.f 6 (.f 7 .e))) 4 (.f 3 (.f 6 (.f 7 .e)))) 4 (.f 1 (.f 3 (.f 6 (.f 7 .e))))))) rfl (by kernel_rfl) ?_
    (conv => whnf); refine tab_load hl hv (st5.blk 0 rfl) (st5.blk 0 rfl).lt ?_
    (conv => whnf); refine tab_load hl' hv' (st5.blk 1 rfl) (st5.blk 1 rfl).lt ?_
    (conv => whnf); refine ⟨?_, ?_, ?_⟩
    · refine hcA sx0 fun lA G1 SA hA oA sx1 => ?_
      refine ⟨sx1.old, ?_⟩
      (conv => whnf); refine ⟨?_, ?_, ?_⟩
      · refine hcB sx1 fun lB G2 SB hB oB sx2 => ?_
        refine ⟨sx2.old, ?_⟩
        (conv => whnf); refine ⟨?_, ?_⟩
        · refine valloc _ (dfaL (List.replicate 256 0) (.slice none 0 0) (.slice none 0 0) (.slice none 0 0)) rfl (by kernel_rfl) ?_
          intro p7 G3 gp3 gs3 gb3 ga3
          have sx3 := sx2.box gp3 gs3 gb3 ga3
          refine ⟨sx3.old, ?_⟩
          (conv => whnf)
          refine valloc _ (dfaL (List.replicate 256 0) (.slice none 0 0) (.slice none 0 0) (.slice none 0 0)) rfl (by kernel_rfl) ?_
          intro p8 G4 gp4 gs4 gb4 ga4
          have sx4 := sx3.box gp4 gs4 gb4 ga4
          refine ⟨sx4.old, ?_⟩
          (conv => whnf); refine stNB (cs := lA) sx4 2 (by rw [hA]; rfl) rfl (by rw [hA]; decide) oA fun G5 sx5 => ?_
          rw [splice_whole (by rw [hA]; rfl)] at sx5
          refine ⟨sx5.old, ?_⟩
          (conv => whnf); refine stNB (cs := lB) sx5 3 (by rw [hB]; rfl) rfl (by rw [hB]; decide) oB fun G6 sx6 => ?_
          rw [splice_whole (by rw [hB]; rfl)] at sx6
          refine ⟨sx6.old, ?_⟩
          (conv => whnf)
          exact ⟨rfl, (p7, p8), rfl, lA, lB, SA, SB, hA, hB, sx6.pick [2, 3, 0, 1] (by decide)⟩
        · (conv => whnf); refine valloc _ (dfaL (List.replicate 256 0) (.slice none 0 0) (.slice none 0 0) (.slice none 0 0)) rfl (by kernel_rfl) ?_
          intro p8 G3 gp3 gs3 gb3 ga3
          have sx3 := sx2.box gp3 gs3 gb3 ga3
          refine ⟨sx3.old, ?_⟩
          (conv => whnf)
          refine valloc _ (dfaL (List.replicate 256 0) (.slice none 0 0) (.slice none 0 0) (.slice none 0 0)) rfl (by kernel_rfl) ?_
          intro p7 G4 gp4 gs4 gb4 ga4
          have sx4 := sx3.box gp4 gs4 gb4 ga4
          refine ⟨sx4.old, ?_⟩
          (conv => whnf); refine stNB (cs := lA) sx4 3 (by rw [hA]; rfl) rfl (by rw [hA]; decide) oA fun G5 sx5 => ?_
          rw [splice_whole (by rw [hA]; rfl)] at sx5
          refine ⟨sx5.old, ?_⟩
          (conv => whnf); refine stNB (cs := lB) sx5 2 (by rw [hB]; rfl) rfl (by rw [hB]; decide) oB fun G6 sx6 => ?_
          rw [splice_whole (by rw [hB]; rfl)] at sx6
          refine ⟨sx6.old, ?_⟩
          (conv => whnf)
          exact ⟨rfl, (p7, p8), rfl, lA, lB, SA, SB, hA, hB, sx6.pick [3, 2, 0, 1] (by decide)⟩
      · (conv => whnf); refine valloc _ (dfaL (List.replicate 256 0) (.slice none 0 0) (.slice none 0 0) (.slice none 0 0)) rfl (by kernel_rfl) ?_
        intro p7 G2 gp2 gs2 gb2 ga2
        have sx2 := sx1.box gp2 gs2 gb2 ga2
        refine ⟨sx2.old, ?_⟩
        (conv => whnf); refine ⟨?_, ?_⟩
        · refine hcB sx2 fun lB G3 SB hB oB sx3 => ?_
          refine ⟨sx3.old, ?_⟩
          (conv => whnf)
          refine valloc _ (dfaL (List.replicate 256 0) (.slice none 0 0) (.slice none 0 0) (.slice none 0 0)) rfl (by kernel_rfl) ?_
          intro p8 G4 gp4 gs4 gb4 ga4
          have sx4 := sx3.box gp4 gs4 gb4 ga4
          refine ⟨sx4.old, ?_⟩
          (conv => whnf); refine stNB (cs := lA) sx4 1 (by rw [hA]; rfl) rfl (by rw [hA]; decide) oA fun G5 sx5 => ?_
          rw [splice_whole (by rw [hA]; rfl)] at sx5
          refine ⟨sx5.old, ?_⟩
          (conv => whnf); refine stNB (cs := lB) sx5 3 (by rw [hB]; rfl) rfl (by rw [hB]; decide) oB fun G6 sx6 => ?_
          rw [splice_whole (by rw [hB]; rfl)] at sx6
          refine ⟨sx6.old, ?_⟩
          (conv => whnf)
          exact ⟨rfl, (p7, p8), rfl, lA, lB, SA, SB, hA, hB, sx6.pick [1, 3, 0, 2] (by decide)⟩
        · (conv => whnf); refine valloc _ (dfaL (List.replicate 256 0) (.slice none 0 0) (.slice none 0 0) (.slice none 0 0)) rfl (by kernel_rfl) ?_
          intro p8 G3 gp3 gs3 gb3 ga3
          have sx3 := sx2.box gp3 gs3 gb3 ga3
          refine ⟨sx3.old, ?_⟩
          (conv => whnf)
          refine hcB sx3 fun lB G4 SB hB oB sx4 => ?_
          refine ⟨sx4.old, ?_⟩
          (conv => whnf); refine stNB (cs := lA) sx4 1 (by rw [hA]; rfl) rfl (by rw [hA]; decide) oA fun G5 sx5 => ?_
          rw [splice_whole (by rw [hA]; rfl)] at sx5
          refine ⟨sx5.old, ?_⟩
          (conv => whnf); refine stNB (cs := lB) sx5 2 (by rw [hB]; rfl) rfl (by rw [hB]; decide) oB fun G6 sx6 => ?_
          rw [splice_whole (by rw [hB]; rfl)] at sx6
          refine ⟨sx6.old, ?_⟩
          (conv => whnf)
          exact ⟨rfl, (p7, p8), rfl, lA, lB, SA, SB, hA, hB, sx6.pick [1, 2, 0, 3] (by decide)⟩
      · (conv => whnf); refine valloc _ (dfaL (List.replicate 256 0) (.slice none 0 0) (.slice none 0 0) (.slice none 0 0)) rfl (by kernel_rfl) ?_
        intro p8 G2 gp2 gs2 gb2 ga2
        have sx2 := sx1.box gp2 gs2 gb2 ga2
        refine ⟨sx2.old, ?_⟩
        (conv => whnf); refine ⟨?_, ?_⟩
        · refine hcB sx2 fun lB G3 SB hB oB sx3 => ?_
          refine ⟨sx3.old, ?_⟩
          (conv => whnf)
          refine valloc _ (dfaL (List.replicate 256 0) (.slice none 0 0) (.slice none 0 0) (.slice none 0 0)) rfl (by kernel_rfl) ?_
          intro p7 G4 gp4 gs4 gb4 ga4
          have sx4 := sx3.box gp4 gs4 gb4 ga4
          refine ⟨sx4.old, ?_⟩
          (conv => whnf); refine stNB (cs := lA) sx4 3 (by rw [hA]; rfl) rfl (by rw [hA]; decide) oA fun G5 sx5 => ?_
          rw [splice_whole (by rw [hA]; rfl)] at sx5
          refine ⟨sx5.old, ?_⟩
          (conv => whnf); refine stNB (cs := lB) sx5 1 (by rw [hB]; rfl) rfl (by rw [hB]; decide) oB fun G6 sx6 => ?_
          rw [splice_whole (by rw [hB]; rfl)] at sx6
          refine ⟨sx6.old, ?_⟩
          (conv => whnf)
          exact ⟨rfl, (p7, p8), rfl, lA, lB, SA, SB, hA, hB, sx6.pick [3, 1, 0, 2] (by decide)⟩
        · (conv => whnf); refine valloc _ (dfaL (List.replicate 256 0) (.slice none 0 0) (.slice none 0 0) (.slice none 0 0)) rfl (by kernel_rfl) ?_
          intro p7 G3 gp3 gs3 gb3 ga3
          have sx3 := sx2.box gp3 gs3 gb3 ga3
          refine ⟨sx3.old, ?_⟩
          (conv => whnf)
          refine hcB sx3 fun lB G4 SB hB oB sx4 => ?_
          refine ⟨sx4.old, ?_⟩
          (conv => whnf); refine stNB (cs := lA) sx4 2 (by rw [hA]; rfl) rfl (by rw [hA]; decide) oA fun G5 sx5 => ?_
          rw [splice_whole (by rw [hA]; rfl)] at sx5
          refine ⟨sx5.old, ?_⟩
          (conv => whnf); refine stNB (cs := lB) sx5 1 (by rw [hB]; rfl) rfl (by rw [hB]; decide) oB fun G6 sx6 => ?_
          rw [splice_whole (by rw [hB]; rfl)] at sx6
          refine ⟨sx6.old, ?_⟩
          (conv => whnf)
          exact ⟨rfl, (p7, p8), rfl, lA, lB, SA, SB, hA, hB, sx6.pick [2, 1, 0, 3] (by decide)⟩
    · (conv => whnf); refine valloc _ (dfaL (List.replicate 256 0) (.slice none 0 0) (.slice none 0 0) (.slice none 0 0)) rfl (by kernel_rfl) ?_
      intro p7 G1 gp1 gs1 gb1 ga1
      have sx1 := sx0.box gp1 gs1 gb1 ga1
      refine ⟨sx1.old, ?_⟩
      (conv => whnf); refine ⟨?_, ?_⟩
      · refine hcA sx1 fun lA G2 SA hA oA sx2 => ?_
        refine ⟨sx2.old, ?_⟩
        (conv => whnf); refine ⟨?_, ?_⟩
        · refine hcB sx2 fun lB G3 SB hB oB sx3 => ?_
          refine ⟨sx3.old, ?_⟩
          (conv => whnf)
          refine valloc _ (dfaL (List.replicate 256 0) (.slice none 0 0) (.slice none 0 0) (.slice none 0 0)) rfl (by kernel_rfl) ?_
          intro p8 G4 gp4 gs4 gb4 ga4
          have sx4 := sx3.box gp4 gs4 gb4 ga4
          refine ⟨sx4.old, ?_⟩
          (conv => whnf); refine stNB (cs := lA) sx4 0 (by rw [hA]; rfl) rfl (by rw [hA]; decide) oA fun G5 sx5 => ?_
          rw [splice_whole (by rw [hA]; rfl)] at sx5
          refine ⟨sx5.old, ?_⟩
          (conv => whnf); refine stNB (cs := lB) sx5 3 (by rw [hB]; rfl) rfl (by rw [hB]; decide) oB fun G6 sx6 => ?_
          rw [splice_whole (by rw [hB]; rfl)] at sx6
          refine ⟨sx6.old, ?_⟩
          (conv => whnf)
          exact ⟨rfl, (p7, p8), rfl, lA, lB, SA, SB, hA, hB, sx6.pick [0, 3, 1, 2] (by decide)⟩
        · (conv => whnf); refine valloc _ (dfaL (List.replicate 256 0) (.slice none 0 0) (.slice none 0 0) (.slice none 0 0)) rfl (by kernel_rfl) ?_
          intro p8 G3 gp3 gs3 gb3 ga3
          have sx3 := sx2.box gp3 gs3 gb3 ga3
          refine ⟨sx3.old, ?_⟩
          (conv => whnf)
          refine hcB sx3 fun lB G4 SB hB oB sx4 => ?_
          refine ⟨sx4.old, ?_⟩
          (conv => whnf); refine stNB (cs := lA) sx4 0 (by rw [hA]; rfl) rfl (by rw [hA]; decide) oA fun G5 sx5 => ?_
          rw [splice_whole (by rw [hA]; rfl)] at sx5
          refine ⟨sx5.old, ?_⟩
          (conv => whnf); refine stNB (cs := lB) sx5 2 (by rw [hB]; rfl) rfl (by rw [hB]; decide) oB fun G6 sx6 => ?_
          rw [splice_whole (by rw [hB]; rfl)] at sx6
          refine ⟨sx6.old, ?_⟩
          (conv => whnf)
          exact ⟨rfl, (p7, p8), rfl, lA, lB, SA, SB, hA, hB, sx6.pick [0, 2, 1, 3] (by decide)⟩
      · (conv => whnf); refine valloc _ (dfaL (List.replicate 256 0) (.slice none 0 0) (.slice none 0 0) (.slice none 0 0)) rfl (by kernel_rfl) ?_
        intro p8 G2 gp2 gs2 gb2 ga2
        have sx2 := sx1.box gp2 gs2 gb2 ga2
        refine ⟨sx2.old, ?_⟩
        (conv => whnf)
        refine hcA sx2 fun lA G3 SA hA oA sx3 => ?_
        refine ⟨sx3.old, ?_⟩
        (conv => whnf)
        refine hcB sx3 fun lB G4 SB hB oB sx4 => ?_
        refine ⟨sx4.old, ?_⟩
        (conv => whnf); refine stNB (cs := lA) sx4 0 (by rw [hA]; rfl) rfl (by rw [hA]; decide) oA fun G5 sx5 => ?_
        rw [splice_whole (by rw [hA]; rfl)] at sx5
        refine ⟨sx5.old, ?_⟩
        (conv => whnf); refine stNB (cs := lB) sx5 1 (by rw [hB]; rfl) rfl (by rw [hB]; decide) oB fun G6 sx6 => ?_
        rw [splice_whole (by rw [hB]; rfl)] at sx6
        refine ⟨sx6.old, ?_⟩
        (conv => whnf)
        exact ⟨rfl, (p7, p8), rfl, lA, lB, SA, SB, hA, hB, sx6.pick [0, 1, 2, 3] (by decide)⟩
    · (conv => whnf); refine valloc _ (dfaL (List.replicate 256 0) (.slice none 0 0) (.slice none 0 0) (.slice none 0 0)) rfl (by kernel_rfl) ?_
      intro p8 G1 gp1 gs1 gb1 ga1
      have sx1 := sx0.box gp1 gs1 gb1 ga1
      refine ⟨sx1.old, ?_⟩
      (conv => whnf); refine ⟨?_, ?_⟩
      · refine hcA sx1 fun lA G2 SA hA oA sx2 => ?_
        refine ⟨sx2.old, ?_⟩
        (conv => whnf); refine ⟨?_, ?_⟩
        · refine hcB sx2 fun lB G3 SB hB oB sx3 => ?_
          refine ⟨sx3.old, ?_⟩
          (conv => whnf)
          refine valloc _ (dfaL (List.replicate 256 0) (.slice none 0 0) (.slice none 0 0) (.slice none 0 0)) rfl (by kernel_rfl) ?_
          intro p7 G4 gp4 gs4 gb4 ga4
          have sx4 := sx3.box gp4 gs4 gb4 ga4
          refine ⟨sx4.old, ?_⟩
          (conv => whnf); refine stNB (cs := lA) sx4 3 (by rw [hA]; rfl) rfl (by rw [hA]; decide) oA fun G5 sx5 => ?_
          rw [splice_whole (by rw [hA]; rfl)] at sx5
          refine ⟨sx5.old, ?_⟩
          (conv => whnf); refine stNB (cs := lB) sx5 0 (by rw [hB]; rfl) rfl (by rw [hB]; decide) oB fun G6 sx6 => ?_
          rw [splice_whole (by rw [hB]; rfl)] at sx6
          refine ⟨sx6.old, ?_⟩
          (conv => whnf)
          exact ⟨rfl, (p7, p8), rfl, lA, lB, SA, SB, hA, hB, sx6.pick [3, 0, 1, 2] (by decide)⟩
        · (conv => whnf); refine valloc _ (dfaL (List.replicate 256 0) (.slice none 0 0) (.slice none 0 0) (.slice none 0 0)) rfl (by kernel_rfl) ?_
          intro p7 G3 gp3 gs3 gb3 ga3
          have sx3 := sx2.box gp3 gs3 gb3 ga3
          refine ⟨sx3.old, ?_⟩
          (conv => whnf)
          refine hcB sx3 fun lB G4 SB hB oB sx4 => ?_
          refine ⟨sx4.old, ?_⟩
          (conv => whnf); refine stNB (cs := lA) sx4 2 (by rw [hA]; rfl) rfl (by rw [hA]; decide) oA fun G5 sx5 => ?_
          rw [splice_whole (by rw [hA]; rfl)] at sx5
          refine ⟨sx5.old, ?_⟩
          (conv => whnf); refine stNB (cs := lB) sx5 0 (by rw [hB]; rfl) rfl (by rw [hB]; decide) oB fun G6 sx6 => ?_
          rw [splice_whole (by rw [hB]; rfl)] at sx6
          refine ⟨sx6.old, ?_⟩
          (conv => whnf)
          exact ⟨rfl, (p7, p8), rfl, lA, lB, SA, SB, hA, hB, sx6.pick [2, 0, 1, 3] (by decide)⟩
      · (conv => whnf); refine valloc _ (dfaL (List.replicate 256 0) (.slice none 0 0) (.slice none 0 0) (.slice none 0 0)) rfl (by kernel_rfl) ?_
        intro p7 G2 gp2 gs2 gb2 ga2
        have sx2 := sx1.box gp2 gs2 gb2 ga2
        refine ⟨sx2.old, ?_⟩
        (conv => whnf)
        refine hcA sx2 fun lA G3 SA hA oA sx3 => ?_
        refine ⟨sx3.old, ?_⟩
        (conv => whnf)
        refine hcB sx3 fun lB G4 SB hB oB sx4 => ?_
        refine ⟨sx4.old, ?_⟩
        (conv => whnf); refine stNB (cs := lA) sx4 1 (by rw [hA]; rfl) rfl (by rw [hA]; decide) oA fun G5 sx5 => ?_
        rw [splice_whole (by rw [hA]; rfl)] at sx5
        refine ⟨sx5.old, ?_⟩
        (conv => whnf); refine stNB (cs := lB) sx5 0 (by rw [hB]; rfl) rfl (by rw [hB]; decide) oB fun G6 sx6 => ?_
        rw [splice_whole (by rw [hB]; rfl)] at sx6
        refine ⟨sx6.old, ?_⟩
        (conv => whnf)
        exact ⟨rfl, (p7, p8), rfl, lA, lB, SA, SB, hA, hB, sx6.pick [1, 0, 2, 3] (by decide)⟩
  · rintro ⟨p7, p8⟩ H6 junk6 ⟨la, lb, SA, SB, hlA, hlB, sx6⟩
    have hvA : ∀ {G : Heap}, Agr (Old H6) H6 G → DfaV SA G (.agg la.toArray) (dfaOf cells next final) := fun h => (show DfaV SA H6 _ _ from sx6.at_ 2 rfl).frame (h.mono fun k hk => (sx6.in_ 2 rfl hk).2)
    have hvB : ∀ {G : Heap}, Agr (Old H6) H6 G → DfaV SB G (.agg lb.toArray) (dfaOf cells' next' final') := fun h => (show DfaV SB H6 _ _ from sx6.at_ 3 rfl).frame (h.mono fun k hk => (sx6.in_ 3 rfl hk).2)
    have hupA : ∀ {G : Heap}, Agr (Old H6) H6 G → ∀ k, (SA k ∨ SB k) → k < G.size := fun h k hk => old_lt h (hk.elim (fun h => (sx6.in_ 2 rfl h).2) fun h => (sx6.in_ 3 rfl h).2)
    have hva6 := hva5.frame sx6.old
    have hvb6 := hvb5.frame sx6.old
    generalize autoOf cells next final = a at *
    generalize autoOf cells' next' final' = b at *
    have up : ∀ {G : Heap}, Agr (Old H6) H6 G → ∀ k, Old H5 k → k < G.size := fun h k hk => old_lt h (old_lt sx6.old hk)
    have fA : ∀ {G : Heap}, Agr (Old H6) H6 G → AutoV (Old H5) G va a := fun h => hva6.frame (h.mono fun k hk => old_lt sx6.old hk)
    have fB : ∀ {G : Heap}, Agr (Old H6) H6 G → AutoV (Old H5) G vb b := fun h => hvb6.frame (h.mono fun k hk => old_lt sx6.old hk)
    have b7 := sx6.blk 0 rfl
    have b8 := sx6.blk 1 rfl
    have ld7 : ∀ {G : Heap} {K : Value → Prop}, Agr (Old H6) H6 G → K (.agg la.toArray) → VDet Tryd.prog (Instr.loadAt 35 (.pointer (some ⟨p7, 0, none⟩))) (fun _ => True) G K := fun h k => ldN (cs := la) (by rw [hlA]; exact ag35) ((b7.agr h b7.lt).cells fun j v hv => by rw [Nat.zero_add]; exact hv) trivial k
    have ld8 : ∀ {G : Heap} {K : Value → Prop}, Agr (Old H6) H6 G → K (.agg lb.toArray) → VDet Tryd.prog (Instr.loadAt 35 (.pointer (some ⟨p8, 0, none⟩))) (fun _ => True) G K := fun h k => ldN (cs := lb) (by rw [hlB]; exact ag35) ((b8.agr h b8.lt).cells fun j v hv => by rw [Nat.zero_add]; exact hv) trivial k
    have g6 : Agr (Old H6) H6 H6 := Agr.refl _ _
    (conv => whnf); refine VCall.mk (differ_c (S := Old H5) (up g6) (fA g6) (fB g6) hma.ok hmb.ok) ?_
    rintro _ H7 ⟨ha7, w, ok, rfl, hR⟩
    (conv => whnf); refine ld7 ha7 ?_
    (conv => whnf); refine ld8 ha7 ?_
    (conv => whnf); refine VCall.mk (first70_c (S := fun k => SA k ∨ SB k) (hupA ha7) ((hvA ha7).mono fun k hk => .inl hk) ((hvB ha7).mono fun k hk => .inr hk) hba hbb hma.steps hmb.steps) ?_
    rintro _ H8 ⟨ha8, w', ok', rfl, hR'⟩
    obtain ⟨rfl, rfl⟩ := hR.uniq hR'
    have h68 := ha7.trans (ha8.mono fun k hk => old_lt ha7 hk)
    have e1 : ∀ w : List Nat, (!((bA w).toList == (bA w).toList)) = false := fun w => by simp
    have e1' : ∀ w : List Nat, ((bA w).toList == (bA w).toList) = true := fun w => by simp
    (conv => whnf); rw [e1]
    (conv => whnf); refine neqZ Tryd.underlying4 (show (ok != ok) = false by simp) ?_
    (conv => whnf); refine VCall.mk (same_c7 (S := Old H5) (up h68) (fA h68) (fB h68) hma.ok hmb.ok) ?_
    rintro _ H9 ⟨ha9, w'', ok'', rfl, hR''⟩
    obtain ⟨rfl, rfl⟩ := hR.uniq hR''
    have h69 := h68.trans (ha9.mono fun k hk => old_lt h68 hk)
    (conv => whnf); refine eqZ Tryd.underlying4 (show ((!ok) == ok) = false by cases ok <;> rfl) ?_
    (conv => whnf); refine VCall.mk (outside_c (S := Old H5) (up h69) (fA h69) (fB h69) hma.ok hmb.ok) ?_
    rintro _ H10 ⟨ha10, u, out, rfl, hO⟩
    have h610 := h69.trans (ha10.mono fun k hk => old_lt h69 hk)
    (conv => whnf); refine ld7 h610 ?_
    (conv => whnf); refine ld8 h610 ?_
    (conv => whnf); refine VCall.mk (first71_c (S := fun k => SA k ∨ SB k) (hupA h610) ((hvA h610).mono fun k hk => .inl hk) ((hvB h610).mono fun k hk => .inr hk) hba hbb hma.steps hmb.steps) ?_
    rintro _ H11 ⟨ha11, u', out', rfl, hO'⟩
    obtain ⟨rfl, rfl⟩ := hO.uniq hO'
    have h611 := h610.trans (ha11.mono fun k hk => old_lt h610 hk)
    (conv => whnf); rw [e1']
    (conv => whnf); refine eqZ Tryd.underlying4 (show (out == out) = true by simp) ?_
    (conv => whnf)
    exact ⟨rfl, (hag sx6).trans (h611.mono fun k hk => old_lt (hag sx6) hk)⟩
end Go.Proofs.YthomdogheamfpaaDoor
set_option linter.unusedVariables false
set_option linter.unusedSimpArgs false
namespace Go.Proofs.YthomdogheamfpaaDoor
open Go.ChangeShapes Go.WideShapes Go.ChangeAt Go.RowKit
open Go.ChangeMaps (open_string)
open Go.VC

theorem minimDiffers_met (os : Os) : laidMet Tryd.prog Rows.minimDiffersUptoRow.laid ((laidW7 os).forCall (fun _ _ => 0) ⟨#[], #[.agg #[.slice none 0 0, .slice none 0 0, .slice none 0 0], .agg #[.slice none 0 0, .slice none 0 0, .slice none 0 0]], []⟩).memory :=
  laidMet_of_run' 100 (by kernel_rfl) (by kernel_rfl)
theorem minimDiffers_reads (os : Os) {H : Type} (enc : TypeId × Value → H) : ∃ places, DataW.whole enc Tryd.prog ((laidW7 os).forCall (fun _ _ => 0) ⟨#[], #[.agg #[.slice none 0 0, .slice none 0 0, .slice none 0 0], .agg #[.slice none 0 0, .slice none 0 0, .slice none 0 0]], []⟩).memory Tryd.f6.params.toList (Rows.OpenSpec.upto Rows.minimDiffersSpec).bare.plain.vars false (#[.agg #[.slice none 0 0, .slice none 0 0, .slice none 0 0], .agg #[.slice none 0 0, .slice none 0 0, .slice none 0 0]] : Array Value).toList 8 = some ([.agg [.nil, .nil, .nil], .agg [.nil, .nil, .nil]], [], places) :=
  ⟨[], by kernel_rfl⟩
set_option maxRecDepth 100000 in
theorem minimDiffers_lifted (os : Os) (started : os.Started) (H : Type) (enc : TypeId × Value → H) (F : Stop.Interp) :
    ReturnsInHanded {} Tryd.checked os 6 .any ((Rows.OpenSpec.upto Rows.minimDiffersSpec).preRow enc Tryd.prog Tryd.f6 Rows.minimDiffersUptoRow.domain false Rows.minimDiffersUptoRow.laid) (((Rows.OpenSpec.upto Rows.minimDiffersSpec).at F).post enc Tryd.prog Tryd.f6 false true false false) := by
  obtain ⟨places, hx⟩ := minimDiffers_reads os enc
  refine returnsInHanded_of_row (C := Tryd.checked) (s := Rows.OpenSpec.upto Rows.minimDiffersSpec) own_ started (by kernel_rfl) Tryd.func6
    (witness_row_at (enc := enc) (C := Tryd.checked) false (laidW7 os) #[.agg #[.slice none 0 0, .slice none 0 0, .slice none 0 0], .agg #[.slice none 0 0, .slice none 0 0, .slice none 0 0]] rfl (by kernel_rfl) (by kernel_rfl) (by kernel_rfl)
      (OpenSpec.preRow_of_cond 8 hx (by kernel_rfl) (fun k hk => by cases hk; kernel_rfl) (by kernel_rfl) (minimDiffers_met os))) ?_
  intro W base args ds gs before hval0 hW _ hcond _ hL _ _
  have hk := hcond _ rfl
  have hval : ∀ (j : Nat) t v, Tryd.f6.params[j]? = some t → args[j]? = some v → Value.okWide Tryd.prog W .any base t v := hval0
  have hW' := hW
  obtain ⟨p, q, hA0, hV, rfl, hfz, hnd⟩ := hW
  have hA : DataW.TrodAll enc Tryd.prog W 0 (fun _ => true) true [26, 26] args.toList ds p := hA0
  obtain ⟨v0, vs0, d0, ds0, p0, q0, e0, rfl, rfl, h0, r0⟩ := trodAll_cons hA
  obtain ⟨v1, vs1, d1, ds1, p1, q1, rfl, rfl, rfl, h1, r1⟩ := trodAll_cons r0
  obtain ⟨rfl, rfl, rfl⟩ := trodAll_nil r1
  obtain rfl : args = #[v0, v1] := by cases args; simp_all
  obtain ⟨rfl, rfl⟩ := trodVars_none hV
  have hb := small_of hk
  obtain ⟨cells0, next0, final0, htab0, hz0⟩ := open_table (hval 0 _ v0 rfl rfl) h0
  obtain ⟨cells1, next1, final1, htab1, hz1⟩ := open_table (hval 1 _ v1 rfl rfl) h1
  simp only [List.append_nil, Rows.uptoBulkAll, Rows.uptoBulk, Array.length_toList] at hb
  refine ((minimDiffers_p v0 cells0 next0 final0 v1 cells1 next1 final1 (InW W) W.heap (tabIn_of htab0 (by omega)) (tabIn_of htab1 (by omega)) (tabs_of_laid hL).1 (tabs_of_laid hL).2) W rfl).2.mono fun e W' ⟨v, he, henv, hv, hag⟩ => ?_
  subst he; subst hv
  exact ⟨_, rfl, post_true hW' rfl ⟨rfl, rfl, rfl⟩ laid_ (by kernel_rfl) rfl Tryd.underlying4 henv hag⟩

theorem minimDiffers_said : Rows.MinimDiffersUptoSaid :=
  OpenClaim.holds_of_cond 6 Tryd.f6 rfl rfl rfl rfl rfl rfl rfl ⟨rfl, rfl, rfl, rfl, rfl⟩ rfl rfl rfl rfl rfl (by kernel_rfl) Tryd.func6 (by kernel_rfl)
    (of_decide_eq_true (by kernel_rfl)) (by unfold Func.isWrapper; first | (rw [if_pos (by decide +kernel)]; kernel_rfl) | (rw [if_neg (by decide +kernel)]; exact ⟨rfl, rfl⟩))
    (fun os started H enc _ F => by rw [OpenClaim.pre_eq_preRow]; exact minimDiffers_lifted os started H enc F)

theorem minimDiffers_plain (f : FuncId) (fn : Func) (hf : Tryd.pinned.checked.prog.funcNamed "loupe/loupelaw07.MinimDiffers" = some f) (hfn : Tryd.pinned.checked.prog.funcs[f]? = some fn) :
    false = Tryd.pinned.checked.prog.looks [] ∧ ∀ (j : Nat) t, fn.params[j]? = some t → Tryd.pinned.checked.prog.wantsStandIn t = false := by
  obtain rfl : f = 6 := Option.some.inj ((show Tryd.prog.funcNamed "loupe/loupelaw07.MinimDiffers" = some 6 by kernel_rfl).symm.trans hf) |>.symm
  obtain rfl : fn = Tryd.f6 := (Option.some.inj (Tryd.func6.symm.trans hfn)).symm
  refine ⟨by kernel_rfl, fun j t ht => ?_⟩
  have ht : (#[26, 26] : Array TypeId)[j]? = some t := ht
  have hm := Array.mem_of_getElem? ht
  simp only [List.mem_toArray, List.mem_cons, List.not_mem_nil, or_false] at hm
  rcases hm with rfl | rfl
  · exact (show Tryd.prog.wantsStandIn 26 = false by kernel_rfl)
  · exact (show Tryd.prog.wantsStandIn 26 = false by kernel_rfl)
theorem minimDiffers_holds : Rows.MinimDiffersUptoCardSaid :=
  Claim7.holds_tied_plain_at .later [] _ _ _ _ minimDiffers_said (fun _ h => by cases h) (by kernel_rfl) (fun _ h => by cases h) minimDiffersUpto_row_tie rfl ⟨rfl, rfl⟩ (by kernel_rfl) rfl minimDiffers_plain (by kernel_rfl)

#print axioms minimDiffers_holds
end Go.Proofs.YthomdogheamfpaaDoor
