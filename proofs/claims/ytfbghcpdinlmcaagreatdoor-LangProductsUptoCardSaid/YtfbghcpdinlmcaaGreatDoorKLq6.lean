/- Parts of the proof: PLp2, PLp3, VIf, PBld, PNfa5, PNfa6, PTxt, PLg2, PDetB, PNet05, PDCa, PLg7, PLg5, PLg6, PLg8, PAut06, PTab1, PTab2, PAut07, PMl1, PMl2, PLa1, PSame06 -/
import Derived.Test.YtfbghcpdinlmcaaGreatDoorKLq5
import Derived.Test.YtfbghcpdinlmcaaGreatDoorKLq1
import Derived.Test.YtfbghcpdinlmcaaGreatDoorKLq2
import Derived.Test.YtfbghcpdinlmcaaGreatDoorKLq4
/- louperef06.Product: the walk. -/
set_option linter.unusedVariables false
set_option linter.unusedSimpArgs false
set_option maxRecDepth 100000
namespace Go.Proofs.YtfbghcpdinlmcaaGreatDoor
open Go.VC
attribute [local irreducible] mRun gRun atRun
abbrev zD6 : List Value := dfaL (List.replicate 256 0) (.slice none 0 0) (.slice none 0 0) (.slice none 0 0)
def endsK : Nat → Bool → Bool → Bool
  | 0, p, q => p && q
  | 1, p, q => p || q
  | _, p, q => p && !q
/-- The numbers of the cells of two documents' automata together. -/
def cel6 (A B : DM) : List Int := asI (atRun (cellsD A ++ cellsD B) 256).2
theorem cel6_len (A B : DM) : (cel6 A B).length = 256 := by unfold cel6 asI; rw [List.length_map]; exact (atRun_ok _ 256).plen
theorem parted6 {by_ : List Nat} {cel : List Int} {A B : DM} {ca : Option Addr} {cc n : Nat} {S : Nat → Prop} {H : Heap} (hby : by_ = repsD A B) (hcel : cel = cel6 A B) (hn : n = (cellsD A ++ cellsD B).length) (hS : ∀ k, S k → k < H.size) (hc : SlD tB S H ca cc (cellsD A ++ cellsD B)) (hl : (cellsD A ++ cellsD B).length ≤ 4194304) :
    FnOk Tryz.prog 61 #[.slice ca n cc] H fun v H' => Agr (Old H) H H' ∧ ∃ ra rc, v = .agg (dfaL cel (.slice ra by_.length rc) (.slice none 0 0) (.slice none 0 0)).toArray ∧ SlD tI (Fresh H H') H' ra rc (asI by_) := by
  subst hn; subst hby; subst hcel
  refine (parted_c ca cc _ S H hS hc hl).mono ?_
  rintro v H' ⟨h1, -, ra, rc, rfl, h2⟩
  exact ⟨h1, ra, rc, rfl, h2⟩
/-- What Product answers. -/
def ProdD (A B : DM) (a b : Option AM) (kind : Nat) (m : Int) (H' : Heap) (v : Value) (e : Int) : Prop :=
  if m < 1 ∨ 4096 < m then e = 2 else
  match detF m.toNat (stepPr a b) (repsD A B) ((0, 0) : Int × Int) with
  | none => e = 40
  | some (F, rows) => e = 0 ∧ DfaV (Old H') H' v ⟨cel6 A B, asI (repsD A B), rows.map rowI, F.map fun x => endsK kind (finM a x.1) (finM b x.2)⟩
set_option maxHeartbeats 64000000 in
theorem product6_c {S : Nat → Prop} {H : Heap} {vA vB : Value} {a b : Option AM} {A B : DM} {kind : Nat} {m : Int} (hkd : kind < 3) (hS : ∀ k, S k → k < H.size) (hvA : DfaV S H vA A) (hvB : DfaV S H vB B) (ha : Both a A) (hb : Both b B) (sa : StepOk a) (sb : StepOk b) :
    FnOk Tryz.prog 24 #[.int .i64 (kind : Int), vA, vB, .int .i64 m] H fun r H' => Agr (Old H) H H' ∧ ∃ v e, r = .tuple #[v, .int .i64 e] ∧ (∃ la : List Value, v = .agg la.toArray ∧ la.length = 259 ∧ la.all (·.oneCell') = true) ∧ ProdD A B a b kind m H' v e := by
  have aok := ha.ok
  have bok := hb.ok
  have afl := aok.fl
  have bfl := bok.fl
  have lenA := cellsD_len A
  have lenB := cellsD_len B
  have h16 : ∀ x, inPr a b x → Pr16 x := fun x hx => by
    have h1 := sa.n2
    have h2 := sb.n2
    obtain ⟨⟨x1, x2⟩, x3, x4⟩ := hx
    exact ⟨⟨x1, by omega⟩, x3, by omega⟩
  have hst : ∀ x c, inPr a b x → inPr a b (stepPr a b x c) := fun x c hx => by
    unfold stepPr
    split
    · rename_i h
      exact ⟨sa.step x.1 c hx.1 h, sb.step x.2 c hx.2 h⟩
    · exact hx
  obtain ⟨by_, hby⟩ : ∃ x, x = repsD A B := ⟨_, rfl⟩
  obtain ⟨cel, hcel⟩ : ∃ x, x = cel6 A B := ⟨_, rfl⟩
  have hcl : cel.length = 256 := by rw [hcel]; exact cel6_len A B
  have hlt8 : ∀ c ∈ by_, c < 256 := by rw [hby]; exact repsD_lt A B
  have hnb : by_.length ≤ 256 := by rw [hby]; exact repsD_len A B
  have hrl : (asI by_).length = by_.length := by unfold asI; rw [List.length_map]
  have hrg : ∀ (k r : Nat), by_[k]? = some r → (asI by_)[k]? = some (r : Int) := fun k r h => by unfold asI; rw [List.getElem?_map, h]; rfl
  have hl259 : ∀ rv nv fv, (dfaL cel rv nv fv).length = 259 := fun rv nv fv => dfaL_len hcl
  have hup : ∀ {H' : Heap} {ps : List Pc}, St H H' ps → ∀ k, S k → k < H'.size := fun st k hk => st.up (hS k hk)
  refine FnOk.of_vc Tryz.func24 rfl (Tryz.call24 _) ?_
  (conv => whnf); refine dfa_box hvA fun ra rc na nc fal fc he a1 a2 a3 => ?_
  subst he
  intro p1 H1 hp1 hs1 hb1 ha1
  have st1 := (St.nil H).box hp1 hs1 hb1 ha1
  (conv => whnf); refine dfa_box (hvB.frame (st1.old.mono hS)) fun ra' rc' na' nc' fal' fc' he b1 b2 b3 => ?_
  subst he
  intro p2 H2 hp2 hs2 hb2 ha2
  have st2 := st1.box hp2 hs2 hb2 ha2
  have hfA := (dfa_len hvA)
  have hfB := (dfa_len hvB)
  generalize dfaL A.cell (.slice ra A.reps.length rc) (.slice na A.next.length nc) (.slice fal A.final.length fc) = la at *
  generalize dfaL B.cell (.slice ra' B.reps.length rc') (.slice na' B.next.length nc') (.slice fal' B.final.length fc') = lb at *
  obtain ⟨hlA, fA, cA, hgA, hsA⟩ := hfA
  obtain ⟨hlB, fB, cB, hgB, hsB⟩ := hfB
  have hldA : ∀ {H' : Heap} {ps : List Pc} (S0 : Nat → Prop) {K : Value → Prop} (st : St H H' ps), ps[0]? = some (pB 43 p1 la) → S0 p1 → K (.agg la.toArray) → VDet Tryz.prog (Instr.loadAt 43 (.pointer (some ⟨p1, 0, none⟩))) S0 H' K := fun S0 K st hp hS0 hK =>
    ldN (cs := la) (by rw [hlA]; exact ag43) ((st.blk 0 hp).cells fun j v hv => by rw [Nat.zero_add]; exact hv) hS0 hK
  have hldB : ∀ {H' : Heap} {ps : List Pc} (S0 : Nat → Prop) {K : Value → Prop} (st : St H H' ps), ps[1]? = some (pB 43 p2 lb) → S0 p2 → K (.agg lb.toArray) → VDet Tryz.prog (Instr.loadAt 43 (.pointer (some ⟨p2, 0, none⟩))) S0 H' K := fun S0 K st hp hS0 hK =>
    ldN (cs := lb) (by rw [hlB]; exact ag43) ((st.blk 1 hp).cells fun j v hv => by rw [Nat.zero_add]; exact hv) hS0 hK
  have hstA : ∀ {H' : Heap} {ps : List Pc}, St H H' ps → ∀ {q : Int} {c : Nat}, c < 256 → Pure Tryz.prog 64 #[.agg la.toArray, .int .i64 q, .int .u8 (c : Int)] H' (.int .i64 (stepM a q c)) := fun st q c hc => by
    rw [ha.step q c hc]; exact refstep_p (hup st) (hvA.frame (st.old.mono hS)) aok hc
  have hstB : ∀ {H' : Heap} {ps : List Pc}, St H H' ps → ∀ {q : Int} {c : Nat}, c < 256 → Pure Tryz.prog 64 #[.agg lb.toArray, .int .i64 q, .int .u8 (c : Int)] H' (.int .i64 (stepM b q c)) := fun st q c hc => by
    rw [hb.step q c hc]; exact refstep_p (hup st) (hvB.frame (st.old.mono hS)) bok hc
  (conv => whnf); refine valloc _ zD6 rfl (by kernel_rfl) ?_
  intro p3 H3 hp3 hs3 hb3 ha3
  have st3 := st2.box hp3 hs3 hb3 ha3
  by_cases hm1 : m < 1
  · have d1 : decide (m < 1) = true := decide_eq_true hm1
    (conv => whnf); rw [d1]
    (conv => whnf); refine VCall.mk (none_c H3) ?_
    rintro v3 Hy ⟨hay, -, hv3⟩
    obtain ⟨hl3, x1, x2, x3, x4, x5, x6, rfl, -, -, -⟩ := hv3
    have sty := st3.call hay
    (conv => whnf); refine stNB (cs := dfaL noneD.cell (.slice x1 noneD.reps.length x2) (.slice x3 noneD.next.length x4) (.slice x5 noneD.final.length x6)) sty 2 (by rw [dfaL_len hl3]; rfl) rfl (by rw [dfaL_len hl3]; decide) (dfaL_ones rfl rfl rfl) fun Hz stz => ?_
    rw [splice_whole (by rw [dfaL_len hl3]; rfl)] at stz
    (conv => whnf); refine ldN (cs := dfaL noneD.cell (.slice x1 noneD.reps.length x2) (.slice x3 noneD.next.length x4) (.slice x5 noneD.final.length x6)) (by rw [dfaL_len hl3]; exact ag43) ((stz.blk 2 rfl).cells fun j v hv => by rw [Nat.zero_add]; exact hv) trivial ?_
    refine ⟨stz.old, _, 2, rfl, ⟨_, rfl, dfaL_len hl3, dfaL_ones rfl rfl rfl⟩, ?_⟩
    unfold ProdD
    rw [if_pos (.inl hm1)]
  · have d1 : decide (m < 1) = false := decide_eq_false hm1
    by_cases hm2 : 4096 < m
    · have d2 : decide (4096 < m) = true := decide_eq_true hm2
      (conv => whnf); rw [d1]
      (conv => whnf); rw [d2]
      (conv => whnf); refine VCall.mk (none_c H3) ?_
      rintro v3 Hy ⟨hay, -, hv3⟩
      obtain ⟨hl3, x1, x2, x3, x4, x5, x6, rfl, -, -, -⟩ := hv3
      have sty := st3.call hay
      (conv => whnf); refine stNB (cs := dfaL noneD.cell (.slice x1 noneD.reps.length x2) (.slice x3 noneD.next.length x4) (.slice x5 noneD.final.length x6)) sty 2 (by rw [dfaL_len hl3]; rfl) rfl (by rw [dfaL_len hl3]; decide) (dfaL_ones rfl rfl rfl) fun Hz stz => ?_
      rw [splice_whole (by rw [dfaL_len hl3]; rfl)] at stz
      (conv => whnf); refine ldN (cs := dfaL noneD.cell (.slice x1 noneD.reps.length x2) (.slice x3 noneD.next.length x4) (.slice x5 noneD.final.length x6)) (by rw [dfaL_len hl3]; exact ag43) ((stz.blk 2 rfl).cells fun j v hv => by rw [Nat.zero_add]; exact hv) trivial ?_
      refine ⟨stz.old, _, 2, rfl, ⟨_, rfl, dfaL_len hl3, dfaL_ones rfl rfl rfl⟩, ?_⟩
      unfold ProdD
      rw [if_pos (.inr hm2)]
    · have d2 : decide (4096 < m) = false := decide_eq_false hm2
      obtain ⟨n, rfl⟩ := Int.eq_ofNat_of_zero_le (show 0 ≤ m by omega)
      have hn1 : 1 ≤ n := by omega
      have hn2 : n ≤ 4096 := by omega
      (conv => whnf); rw [d1]
      (conv => whnf); rw [d2]
      have hA : DfaV (Old H3) H3 (.agg la.toArray) A := (hvA.frame (st3.old.mono hS)).mono (hup st3)
      have hB : DfaV (Old H3) H3 (.agg lb.toArray) B := (hvB.frame (st3.old.mono hS)).mono (hup st3)
      (conv => whnf); refine VDraw.cut [10] (fun p : Nat => [.pointer (some ⟨p, 0, none⟩)]) (fun p H' => ∃ ra rc S', St H3 H' [pB 43 p (dfaL cel (.slice ra by_.length rc) (.slice none 0 0) (.slice none 0 0)), pV ra rc (asI by_) S']) ?_ ?_
      · refine VDraw.held (Old H3) 7 (sq [0,2] (.b 1 (.b 3 (.b 4 (.b 5 (.f 6 (.f 7 .e)) 6 (.f 5 (.f 7 .e))) 6 (.f 4 (.f 5 (.f 7 .e)))) 6 (.f 3 (.f 4 (.f 5 (.f 7 .e))))) 6 (.f 1 (.f 3 (.f 4 (.f 5 (.f 7 .e))))))) rfl (by kernel_rfl) ?_
        (conv => whnf); refine hldA _ st3 rfl (st3.in_ 0 rfl rfl).2 ?_
        (conv => whnf); refine hldB _ st3 rfl (st3.in_ 1 rfl rfl).2 ?_
        have sx0 := St.nil H3
        (conv => whnf); refine ⟨?_, ?_⟩
        · -- c1 first
          refine VCall.mk (refcellsB (S := Old H3) (fun k hk => old_lt sx0.old hk) (hA.frame sx0.old) aok) ?_
          rintro _ G1 ⟨ga1, go1⟩
          obtain ⟨xa1, xc1, rfl, sx1⟩ := sx0.got ga1 go1
          refine ⟨sx1.old, ?_⟩
          (conv => whnf); refine ⟨?_, ?_⟩
          · -- c2 first
            refine VCall.mk (refcellsB (S := Old H3) (fun k hk => old_lt sx1.old hk) (hB.frame sx1.old) bok) ?_
            rintro _ G2 ⟨ga2, go2⟩
            obtain ⟨xa2, xc2, rfl, sx2⟩ := sx1.got ga2 go2
            refine ⟨sx2.old, ?_⟩
            (conv => whnf); refine ⟨?_, ?_⟩
            · -- app first
              refine appSS sx2 0 1 slB_ rfl rfl lenB.1 tB_ones (by omega) (by decide) fun xa3 xc3 G3 sx3 _ => ?_
              refine ⟨sx3.old, ?_⟩
              (conv => whnf); refine ⟨?_, ?_⟩
              · -- par first
                refine VCall.mk (parted6 hby hcel List.length_append.symm (fun k hk => hk) (sx3.view 0 rfl) (by rw [List.length_append]; omega)) ?_
                rintro _ G4 ⟨ga4, ra, rc, rfl, gr4⟩
                have sx4 := sx3.add ga4 (pV ra rc (asI (by_)) (Fresh G3 G4)) gr4 (fun k hk => hk)
                refine ⟨sx4.old, ?_⟩
                (conv => whnf); refine valloc _ (dfaL (List.replicate 256 0) (.slice none 0 0) (.slice none 0 0) (.slice none 0 0)) rfl (by kernel_rfl) ?_
                intro pp G5 gp5 gs5 gb5 ga5
                have sx5 := sx4.box gp5 gs5 gb5 ga5
                refine ⟨sx5.old, ?_⟩
                (conv => whnf); refine stNB (cs := dfaL cel (.slice ra (by_).length rc) (.slice none 0 0) (.slice none 0 0)) sx5 3 (by rw [dfaL_len hcl]; rfl) rfl (by rw [dfaL_len hcl]; decide) (dfaL_ones rfl rfl rfl) fun GF sf => ?_
                rw [splice_whole (by rw [dfaL_len hcl]; rfl)] at sf
                (conv => whnf); exact ⟨rfl, pp, rfl, ra, rc, _, sf.pick [3, 2] (by decide)⟩
              · -- the block first
                refine valloc _ (dfaL (List.replicate 256 0) (.slice none 0 0) (.slice none 0 0) (.slice none 0 0)) rfl (by kernel_rfl) ?_
                intro pp G4 gp4 gs4 gb4 ga4
                have sx4 := sx3.box gp4 gs4 gb4 ga4
                refine ⟨sx4.old, ?_⟩
                (conv => whnf); refine VCall.mk (parted6 hby hcel List.length_append.symm (fun k hk => hk) (sx4.view 0 rfl) (by rw [List.length_append]; omega)) ?_
                rintro _ G5 ⟨ga5, ra, rc, rfl, gr5⟩
                have sx5 := sx4.add ga5 (pV ra rc (asI (by_)) (Fresh G4 G5)) gr5 (fun k hk => hk)
                refine ⟨sx5.old, ?_⟩
                (conv => whnf); refine stNB (cs := dfaL cel (.slice ra (by_).length rc) (.slice none 0 0) (.slice none 0 0)) sx5 2 (by rw [dfaL_len hcl]; rfl) rfl (by rw [dfaL_len hcl]; decide) (dfaL_ones rfl rfl rfl) fun GF sf => ?_
                rw [splice_whole (by rw [dfaL_len hcl]; rfl)] at sf
                (conv => whnf); exact ⟨rfl, pp, rfl, ra, rc, _, sf.pick [2, 3] (by decide)⟩
            · -- the block first
              refine valloc _ (dfaL (List.replicate 256 0) (.slice none 0 0) (.slice none 0 0) (.slice none 0 0)) rfl (by kernel_rfl) ?_
              intro pp G3 gp3 gs3 gb3 ga3
              have sx3 := sx2.box gp3 gs3 gb3 ga3
              refine ⟨sx3.old, ?_⟩
              (conv => whnf); refine appSS sx3 0 1 slB_ rfl rfl lenB.1 tB_ones (by omega) (by decide) fun xa4 xc4 G4 sx4 _ => ?_
              refine ⟨sx4.old, ?_⟩
              (conv => whnf); refine VCall.mk (parted6 hby hcel List.length_append.symm (fun k hk => hk) (sx4.view 0 rfl) (by rw [List.length_append]; omega)) ?_
              rintro _ G5 ⟨ga5, ra, rc, rfl, gr5⟩
              have sx5 := sx4.add ga5 (pV ra rc (asI (by_)) (Fresh G4 G5)) gr5 (fun k hk => hk)
              refine ⟨sx5.old, ?_⟩
              (conv => whnf); refine stNB (cs := dfaL cel (.slice ra (by_).length rc) (.slice none 0 0) (.slice none 0 0)) sx5 2 (by rw [dfaL_len hcl]; rfl) rfl (by rw [dfaL_len hcl]; decide) (dfaL_ones rfl rfl rfl) fun GF sf => ?_
              rw [splice_whole (by rw [dfaL_len hcl]; rfl)] at sf
              (conv => whnf); exact ⟨rfl, pp, rfl, ra, rc, _, sf.pick [2, 3] (by decide)⟩
          · -- the block first
            refine valloc _ (dfaL (List.replicate 256 0) (.slice none 0 0) (.slice none 0 0) (.slice none 0 0)) rfl (by kernel_rfl) ?_
            intro pp G2 gp2 gs2 gb2 ga2
            have sx2 := sx1.box gp2 gs2 gb2 ga2
            refine ⟨sx2.old, ?_⟩
            (conv => whnf); refine VCall.mk (refcellsB (S := Old H3) (fun k hk => old_lt sx2.old hk) (hB.frame sx2.old) bok) ?_
            rintro _ G3 ⟨ga3, go3⟩
            obtain ⟨xa3, xc3, rfl, sx3⟩ := sx2.got ga3 go3
            refine ⟨sx3.old, ?_⟩
            (conv => whnf); refine appSS sx3 0 2 slB_ rfl rfl lenB.1 tB_ones (by omega) (by decide) fun xa4 xc4 G4 sx4 _ => ?_
            refine ⟨sx4.old, ?_⟩
            (conv => whnf); refine VCall.mk (parted6 hby hcel List.length_append.symm (fun k hk => hk) (sx4.view 0 rfl) (by rw [List.length_append]; omega)) ?_
            rintro _ G5 ⟨ga5, ra, rc, rfl, gr5⟩
            have sx5 := sx4.add ga5 (pV ra rc (asI (by_)) (Fresh G4 G5)) gr5 (fun k hk => hk)
            refine ⟨sx5.old, ?_⟩
            (conv => whnf); refine stNB (cs := dfaL cel (.slice ra (by_).length rc) (.slice none 0 0) (.slice none 0 0)) sx5 1 (by rw [dfaL_len hcl]; rfl) rfl (by rw [dfaL_len hcl]; decide) (dfaL_ones rfl rfl rfl) fun GF sf => ?_
            rw [splice_whole (by rw [dfaL_len hcl]; rfl)] at sf
            (conv => whnf); exact ⟨rfl, pp, rfl, ra, rc, _, sf.pick [1, 3] (by decide)⟩
        · -- the block first
          refine valloc _ (dfaL (List.replicate 256 0) (.slice none 0 0) (.slice none 0 0) (.slice none 0 0)) rfl (by kernel_rfl) ?_
          intro pp G1 gp1 gs1 gb1 ga1
          have sx1 := sx0.box gp1 gs1 gb1 ga1
          refine ⟨sx1.old, ?_⟩
          (conv => whnf); refine VCall.mk (refcellsB (S := Old H3) (fun k hk => old_lt sx1.old hk) (hA.frame sx1.old) aok) ?_
          rintro _ G2 ⟨ga2, go2⟩
          obtain ⟨xa2, xc2, rfl, sx2⟩ := sx1.got ga2 go2
          refine ⟨sx2.old, ?_⟩
          (conv => whnf); refine VCall.mk (refcellsB (S := Old H3) (fun k hk => old_lt sx2.old hk) (hB.frame sx2.old) bok) ?_
          rintro _ G3 ⟨ga3, go3⟩
          obtain ⟨xa3, xc3, rfl, sx3⟩ := sx2.got ga3 go3
          refine ⟨sx3.old, ?_⟩
          (conv => whnf); refine appSS sx3 1 2 slB_ rfl rfl lenB.1 tB_ones (by omega) (by decide) fun xa4 xc4 G4 sx4 _ => ?_
          refine ⟨sx4.old, ?_⟩
          (conv => whnf); refine VCall.mk (parted6 hby hcel List.length_append.symm (fun k hk => hk) (sx4.view 1 rfl) (by rw [List.length_append]; omega)) ?_
          rintro _ G5 ⟨ga5, ra, rc, rfl, gr5⟩
          have sx5 := sx4.add ga5 (pV ra rc (asI (by_)) (Fresh G4 G5)) gr5 (fun k hk => hk)
          refine ⟨sx5.old, ?_⟩
          (conv => whnf); refine stNB (cs := dfaL cel (.slice ra (by_).length rc) (.slice none 0 0) (.slice none 0 0)) sx5 0 (by rw [dfaL_len hcl]; rfl) rfl (by rw [dfaL_len hcl]; decide) (dfaL_ones rfl rfl rfl) fun GF sf => ?_
          rw [splice_whole (by rw [dfaL_len hcl]; rfl)] at sf
          (conv => whnf); exact ⟨rfl, pp, rfl, ra, rc, _, sf.pick [0, 3] (by decide)⟩
      · rintro p4 H6 junk6 ⟨ra, rc, S', sr6⟩
        have st6 := st3.cat sr6
        (conv => whnf); refine vbuildS Tryz.underlying127 rfl _ pr6_z (List.replicate 1025 (.slice none 0 0)) rfl ?_
        (conv => whnf); refine pr6_new st6 fun pp H7 st7 => ?_
        (conv => whnf); refine add6_v (n := (0, 0)) st7 5 rfl (by simp) List.nodup_nil ⟨⟨by decide, by decide⟩, by decide, by decide⟩ (by decide) fun vs8 H8 st8 hvl8 => ?_
        replace st8 : St H H8 [pB 43 p1 la, pB 43 p2 lb, pB 43 p3 zD6, pB 43 p4 (dfaL cel (.slice ra by_.length rc) (.slice none 0 0) (.slice none 0 0)), pV ra rc (asI by_) S', pPr6 pp vs8 [(0, 0)], pN (tSl tIk) none_ 41 none 0 0 [], pS tBool 4 none 0 0 []] := (st8.nils (tSl tIk) 41).nils tBool 4
        (conv => whnf)
        refine VLoop.mk [12] (fun x : Nat × List (Int × Int) × List (List Nat) => match x with | (i, F, rows) => [.int .i64 (i : Int)])
          (fun x H4 => match x with | (i, F, rows) => i ≤ F.length ∧ F.length ≤ n ∧ F.Nodup ∧ (∀ x ∈ F, inPr a b x) ∧ rows.length = i ∧ rowsF n (stepPr a b) by_ ((0, 0) : Int × Int) i = some (F, rows) ∧ ∃ vs Sn xa xc ya yc, vs.length = 1025 ∧ St H H4 [pB 43 p1 la, pB 43 p2 lb, pB 43 p3 zD6, pB 43 p4 (dfaL cel (.slice ra by_.length rc) (.slice xa i xc) (.slice ya i yc)), pV ra rc (asI by_) S', pPr6 pp vs F, pN (tSl tIk) Sn 41 xa i xc (rows.map rowI), pS tBool 4 ya i yc ((F.take i).map fun x => endsK kind (finM a x.1) (finM b x.2))]) (fun x _ => n - x.1) ?_ ?_
        · (conv => whnf)
          exact ⟨(0, [(0, 0)], []), rfl, Nat.zero_le _, by simpa using hn1, by simp, fun x hx => by
            rw [List.mem_singleton] at hx
            subst hx
            have h1 := sa.n1
            have h2 := sb.n1
            exact ⟨⟨Int.le_refl _, by simp only; omega⟩, Int.le_refl _, by simp only; omega⟩, rfl, rfl, vs8, none_, none, 0, none, 0, hvl8, st8⟩
        · rintro ⟨i, F, rows⟩ H9 junk9 ⟨hiF, hFn, hnd, hHF, hrl9, hrun, vs9, Sn, xa, xc, ya, yc, hvl9, st9⟩
          obtain ⟨v0, hv0⟩ := get_some (l := vs9) (k := 0) (by omega)
          have hk9 : Blk H9 pp 127 vs9 := st9.fblk 5 rfl
          obtain ⟨a0, c0, rfl, hvs⟩ := st9.fview 5 rfl hv0 (xs := F) (T := tLp) (e := 129) rfl
          (conv => whnf); refine VC.fa fl127_0 ?_
          (conv => whnf); refine ld1 (v := .slice a0 F.length c0) ct124 (by rw [hk9.cell]; exact hv0) trivial ?_
          (conv => whnf); refine VIte.mk (fun hz => ?_) (fun hz => ?_) <;> simp only [decide_eq_true_eq, decide_eq_false_iff_not] at hz
          · obtain ⟨x, hx⟩ := get_some (l := F) (k := i) (by omega)
            have hxh := hHF x (List.mem_of_getElem? hx)
            have hnext : rowsF n (stepPr a b) by_ ((0, 0) : Int × Int) (i + 1) = (by_.foldl (rowF n (stepPr a b) x) (some (F, []))).map fun r => (r.1, rows ++ [r.2]) := by
              show (rowsF n (stepPr a b) by_ (0, 0) i).bind _ = _
              rw [hrun]
              simp only [Option.bind_some, hx]
            (conv => whnf); refine VDraw.lex rfl (by kernel_rfl) ?_
            (conv => whnf); refine VC.fa fl127_0 ?_
            (conv => whnf); refine ld1 (v := .slice a0 F.length c0) ct124 (by rw [hk9.cell]; exact hv0) trivial ?_
            (conv => whnf); refine ixrn (i := i) (x := x) sl124 hvs rfl hx rfl ?_
            rintro b8 o8 cs8 hS8 hc8 rfl
            (conv => whnf); refine ixa ar129 (by decide) (by decide) ?_
            (conv => whnf); refine ld1 (v := .int .i64 x.1) ct3 (hc8 0 _ rfl) trivial ?_
            (conv => whnf); refine VC.fa fl127_0 ?_
            (conv => whnf); refine ld1 (v := .slice a0 F.length c0) ct124 (by rw [hk9.cell]; exact hv0) trivial ?_
            (conv => whnf); refine ixrn (i := i) (x := x) sl124 hvs rfl hx rfl ?_
            rintro b9 o9 cs9 hS9 hc9 rfl
            (conv => whnf); refine ixa ar129 (by decide) (by decide) ?_
            (conv => whnf); refine ld1 (v := .int .i64 x.2) ct3 (hc9 1 _ rfl) trivial ?_
            have st10 := st9.nils tIk 3
            (conv => whnf)
            refine VLoop.mk [15, 16] (fun y : Nat × List (Int × Int) × List Nat × Option Addr × Nat => match y with | (j, F', row, r1, r2) => [.slice r1 row.length r2, .int .i64 (j : Int)])
              (fun y H7 => match y with | (j, F', row, r1, r2) => j ≤ by_.length ∧ F'.length ≤ n ∧ F'.Nodup ∧ (∀ x ∈ F', inPr a b x) ∧ F <+: F' ∧ row.length = j ∧ (by_.take j).foldl (rowF n (stepPr a b) x) (some (F, [])) = some (F', row) ∧ ∃ vs, vs.length = 1025 ∧ St H H7 [pB 43 p1 la, pB 43 p2 lb, pB 43 p3 zD6, pB 43 p4 (dfaL cel (.slice ra by_.length rc) (.slice xa i xc) (.slice ya i yc)), pV ra rc (asI by_) S', pPr6 pp vs F', pN (tSl tIk) Sn 41 xa i xc (rows.map rowI), pS tBool 4 ya i yc ((F.take i).map fun x => endsK kind (finM a x.1) (finM b x.2)), pS tIk 3 r1 row.length r2 (rowI row)]) (fun y _ => by_.length - y.1) ?_ ?_
            · (conv => whnf)
              exact ⟨(0, F, [], none, 0), rfl, Nat.zero_le _, hFn, hnd, hHF, List.prefix_refl _, rfl, rfl, vs9, hvl9, st10⟩
            · clear st10 st9 hvs hk9
              rintro ⟨j, F', row, r1, r2⟩ H10 junk10 ⟨hj, hFn', hnd', hHF', hpre, hrowl, hfold, vs10, hvl10, st10⟩
              (conv => whnf); refine VC.fa fl43_1 ?_
              (conv => whnf); refine ld1 (v := .slice ra by_.length rc) ct41 (by rw [(st10.blk 3 rfl).cell]; exact dfaL_256 hcl) trivial ?_
              (conv => whnf); refine VIte.mk (fun hz2 => ?_) (fun hz2 => ?_) <;> simp only [decide_eq_true_eq, decide_eq_false_iff_not] at hz2
              · obtain ⟨c, hc⟩ := get_some (l := by_) (k := j) (by omega)
                have hc8 := hlt8 c (List.mem_of_getElem? hc)
                (conv => whnf); refine VDraw.held (Old H10) 9 (sq [0,1,2,3,4,5,6,7] (.f 8 (.f 9 .e))) rfl (by kernel_rfl) ?_
                (conv => whnf); refine hldA _ st10 rfl (st10.in_ 0 rfl rfl).2 ?_
                (conv => whnf); refine VC.fa fl43_1 ?_
                (conv => whnf); refine ld1 (v := .slice ra by_.length rc) ct41 (by rw [(st10.blk 3 rfl).cell]; exact dfaL_256 hcl) (st10.in_ 3 rfl rfl).2 ?_
                (conv => whnf); refine ixrn (i := j) (x := (c : Int)) sl41 (st10.at_ 4 rfl) hrl.symm (hrg j c hc) rfl ?_
                rintro b11 o11 cs11 hS11 hc11 ⟨rfl, -⟩
                (conv => whnf); refine ld1 (v := .int .i64 (c : Int)) ct3 hc11.one (st10.in_ 4 rfl hS11).2 ?_
                (conv => whnf); rw [w8 (x := (c : Int)) (by omega) (by omega)]
                (conv => whnf); refine pures (hstA st10 hc8) fun H11 gaH11 => ?_
                have st11 := st10.call gaH11
                refine ⟨gaH11, ?_⟩
                (conv => whnf); refine VDraw.held (Old H11) 9 (sq [0,1,2,3,4,5,6,7] (.f 8 (.f 9 .e))) rfl (by kernel_rfl) ?_
                (conv => whnf); refine hldB _ st11 rfl (st11.in_ 1 rfl rfl).2 ?_
                (conv => whnf); refine VC.fa fl43_1 ?_
                (conv => whnf); refine ld1 (v := .slice ra by_.length rc) ct41 (by rw [(st11.blk 3 rfl).cell]; exact dfaL_256 hcl) (st11.in_ 3 rfl rfl).2 ?_
                (conv => whnf); refine ixrn (i := j) (x := (c : Int)) sl41 (st11.at_ 4 rfl) hrl.symm (hrg j c hc) rfl ?_
                rintro b11 o11 cs11 hS11 hc11 ⟨rfl, -⟩
                (conv => whnf); refine ld1 (v := .int .i64 (c : Int)) ct3 hc11.one (st11.in_ 4 rfl hS11).2 ?_
                (conv => whnf); rw [w8 (x := (c : Int)) (by omega) (by omega)]
                (conv => whnf); refine pures (hstB st11 hc8) fun H12 gaH12 => ?_
                have st12 := st11.call gaH12
                refine ⟨gaH12, ?_⟩
                have hsp : stepPr a b x c = (stepM a x.1 c, stepM b x.2 c) := if_pos hc8
                have hin : inPr a b (stepM a x.1 c, stepM b x.2 c) := by rw [← hsp]; exact hst x c hxh
                have hstep : (by_.take (j + 1)).foldl (rowF n (stepPr a b) x) (some (F, [])) = (atF n F' (stepM a x.1 c, stepM b x.2 c)).map fun r => (r.1, row ++ [r.2]) := by
                  rw [take_succ_snoc hc, List.foldl_append, hfold, ← hsp]
                  rfl
                (conv => whnf); refine find6_v (n := (stepM a x.1 c, stepM b x.2 c)) st12 5 rfl hvl10 hnd' (h16 _ hin) (by omega) fun H13 st13 => ?_
                cases hfi : F'.findIdx? (· = (stepM a x.1 c, stepM b x.2 c)) with
                | some t =>
                  have hnum : num6 F' (stepM a x.1 c, stepM b x.2 c) = (t : Int) := by unfold num6; rw [hfi]
                  have hat : atF n F' (stepM a x.1 c, stepM b x.2 c) = some (F', t) := by unfold atF; rw [hfi]
                  have htn := (atG_len hat hFn').2
                  rw [hat] at hstep
                  have d5 : decide ((t : Int) < 0) = false := decide_eq_false (by omega)
                  rw [hnum]
                  (conv => whnf); refine VSeq.run ?_
                  (conv => whnf); refine vbuild1 sl41 [.int .i64 (t : Int)] rfl rfl (by decide) (by decide) ?_
                  intro q15 H15 hq15 hs15 hb15 ha15
                  (conv => whnf); refine app1 (x := (t : Int)) (st13.skip hq15 ha15) 8 sl41 rfl hb15 ⟨rfl, kint ⟨by omega, by omega⟩⟩ rfl (by unfold rowI; rw [List.length_map]; omega) (by decide) fun a16 c16 H16 st16 _ => ?_
                  have e1 : (rowI row).length + 1 = (row ++ [t]).length := by unfold rowI; simp
                  have e2 : rowI row ++ [(t : Int)] = rowI (row ++ [t]) := by unfold rowI; simp
                  rw [e1, e2] at st16
                  rw [e1]
                  (conv => whnf); rw [w64 (x := (j : Int) + 1) (by omega) (by omega)]
                  exact ⟨rfl, (j + 1, F', row ++ [t], a16, c16), by simp, ⟨by omega, hFn', hnd', hHF', hpre, by simp [hrowl], hstep, vs10, hvl10, st16⟩, by simp only; omega⟩
                | none =>
                  have hnum : num6 F' (stepM a x.1 c, stepM b x.2 c) = -1 := by unfold num6; rw [hfi]
                  rw [hnum]
                  (conv => whnf); refine VSeq.run ?_
                  obtain ⟨v1, hv1⟩ := get_some (l := vs10) (k := 0) (by omega)
                  have hk13 : Blk H13 pp 127 vs10 := st13.fblk 5 rfl
                  obtain ⟨a1', c1', rfl, -⟩ := st13.fview 5 rfl hv1 (xs := F') (T := tLp) (e := 129) rfl
                  (conv => whnf); refine VC.fa fl127_0 ?_
                  (conv => whnf); refine ld1 (v := .slice a1' F'.length c1') ct124 (by rw [hk13.cell]; exact hv1) trivial ?_
                  by_cases hbud : F'.length = n
                  · have d4 : ((F'.length : Int) == (n : Int)) = true := by rw [hbud]; simp
                    have h12 : atF n F' (stepM a x.1 c, stepM b x.2 c) = none := by
                      unfold atF
                      rw [hfi]
                      simp only
                      rw [if_neg (by omega)]
                    rw [h12] at hstep
                    have hnone : by_.foldl (rowF n (stepPr a b) x) (some (F, [])) = none := by
                      have h3 := (List.take_append_drop (j + 1) by_).symm
                      rw [h3, List.foldl_append, hstep]
                      exact rowF_none x _
                    have hdet : detF n (stepPr a b) by_ ((0, 0) : Int × Int) = none := detF_none (n := i) (by rw [hnext, hnone]; rfl) (by omega)
                    (conv => whnf); rw [d4]
                    (conv => whnf); refine VCall.mk (none_c H13) ?_
                    rintro v3 Hy ⟨hay, -, hv3⟩
                    obtain ⟨hl3, x1, x2, x3, x4, x5, x6, rfl, -, -, -⟩ := hv3
                    have sty := st13.call hay
                    (conv => whnf); refine stNB (cs := dfaL noneD.cell (.slice x1 noneD.reps.length x2) (.slice x3 noneD.next.length x4) (.slice x5 noneD.final.length x6)) sty 2 (by rw [dfaL_len hl3]; rfl) rfl (by rw [dfaL_len hl3]; decide) (dfaL_ones rfl rfl rfl) fun Hz stz => ?_
                    rw [splice_whole (by rw [dfaL_len hl3]; rfl)] at stz
                    (conv => whnf); refine ldN (cs := dfaL noneD.cell (.slice x1 noneD.reps.length x2) (.slice x3 noneD.next.length x4) (.slice x5 noneD.final.length x6)) (by rw [dfaL_len hl3]; exact ag43) ((stz.blk 2 rfl).cells fun j v hv => by rw [Nat.zero_add]; exact hv) trivial ?_
                    refine ⟨stz.old, _, 40, rfl, ⟨_, rfl, dfaL_len hl3, dfaL_ones rfl rfl rfl⟩, ?_⟩
                    unfold ProdD
                    rw [if_neg (by omega), Int.toNat_natCast, ← hby, hdet]
                  · have d4 : ((F'.length : Int) == (n : Int)) = false := beq_eq_false_iff_ne.2 (by omega)
                    have h12 : atF n F' (stepM a x.1 c, stepM b x.2 c) = some (F' ++ [(stepM a x.1 c, stepM b x.2 c)], F'.length) := by
                      unfold atF
                      rw [hfi]
                      simp only
                      rw [if_pos (by omega)]
                    rw [h12] at hstep
                    have hnd2 := (atF_some h12 hFn' hnd').2.2.1
                    have hl2 := (atG_len h12 hFn').1
                    (conv => whnf); rw [d4]
                    (conv => whnf); refine add6_v (n := (stepM a x.1 c, stepM b x.2 c)) st13 5 rfl hvl10 hnd' (h16 _ hin) (by omega) fun vs14 H14 st14 hvl14 => ?_
                    replace st14 : St H H14 [pB 43 p1 la, pB 43 p2 lb, pB 43 p3 zD6, pB 43 p4 (dfaL cel (.slice ra by_.length rc) (.slice xa i xc) (.slice ya i yc)), pV ra rc (asI by_) S', pPr6 pp vs14 (F' ++ [(stepM a x.1 c, stepM b x.2 c)]), pN (tSl tIk) Sn 41 xa i xc (rows.map rowI), pS tBool 4 ya i yc ((F.take i).map fun x => endsK kind (finM a x.1) (finM b x.2)), pS tIk 3 r1 row.length r2 (rowI row)] := st14
                    (conv => whnf); refine vbuild1 sl41 [.int .i64 (F'.length : Int)] rfl rfl (by decide) (by decide) ?_
                    intro q15 H15 hq15 hs15 hb15 ha15
                    (conv => whnf); refine app1 (x := (F'.length : Int)) (st14.skip hq15 ha15) 8 sl41 rfl hb15 ⟨rfl, kint ⟨by omega, by omega⟩⟩ rfl (by unfold rowI; rw [List.length_map]; omega) (by decide) fun a16 c16 H16 st16 _ => ?_
                    have e1 : (rowI row).length + 1 = (row ++ [F'.length]).length := by unfold rowI; simp
                    have e2 : rowI row ++ [(F'.length : Int)] = rowI (row ++ [F'.length]) := by unfold rowI; simp
                    rw [e1, e2] at st16
                    rw [e1]
                    (conv => whnf); rw [w64 (x := (j : Int) + 1) (by omega) (by omega)]
                    exact ⟨rfl, (j + 1, F' ++ [(stepM a x.1 c, stepM b x.2 c)], row ++ [F'.length], a16, c16), by simp, ⟨by omega, hl2, hnd2, (fun y hy => (List.mem_append.1 hy).elim (hHF' y) (fun h => (List.mem_singleton.1 h) ▸ hin)), hpre.trans (List.prefix_append _ _), by simp [hrowl], hstep, vs14, hvl14, st16⟩, by simp only; omega⟩
              · obtain rfl : j = by_.length := by omega
                have hfull : by_.foldl (rowF n (stepPr a b) x) (some (F, [])) = some (F', row) := by
                  rw [← hfold, List.take_of_length_le (Nat.le_refl _)]
                rw [hfull] at hnext
                simp only [Option.map_some] at hnext
                have hxF' := pre_get hpre hx
                have hri : (rowI row).length = row.length := by unfold rowI; rw [List.length_map]
                have hrl2 : (rows.map rowI).length = i := by rw [List.length_map]; exact hrl9
                have hend : ((F'.take (i + 1)).map fun x => endsK kind (finM a x.1) (finM b x.2)) = ((F.take i).map fun x => endsK kind (finM a x.1) (finM b x.2)) ++ [endsK kind (finM a x.1) (finM b x.2)] := by
                  obtain ⟨t, rfl⟩ := hpre
                  rw [List.take_append_of_le_length (by omega), take_succ_snoc hx, List.map_append]
                  rfl
                have hel7 : ((F.take i).map fun x => endsK kind (finM a x.1) (finM b x.2)).length = i := by rw [List.length_map, List.length_take]; omega
                have hi1 : i + 1 ≤ F'.length := by
                  have := (List.getElem?_eq_some_iff.1 hxF').1
                  omega
                obtain ⟨ra', rc', er, hrow7, -⟩ := (st10.at_ 8 rfl).1.view (S' := slB (.slice r1 row.length r2)) (fun b hb => hb) (fun b hb => hb.elim)
                injection er with er1 er2 er3
                subst er1; subst er3
                have st11 := StB.absorb (st10.pick [6, 8, 0, 1, 2, 3, 4, 5, 7] (by decide))
                (conv => whnf); refine VC.fa fl43_2 ?_
                (conv => whnf); refine ld1 (v := .slice xa i xc) ct35 (by rw [(st11.blk 4 rfl).cell, Nat.zero_add]; exact dfaL_257 hcl) trivial ?_
                (conv => whnf); refine vbuild1 sl35 [.slice r1 row.length r2] rfl rfl (by decide) (by decide) ?_
                intro q12 H12 hq12 hs12 hb12 ha12
                have st12 := st11.skip hq12 ha12
                have hrow12 : SlD tIk (fun k => Sn k ∨ slB (.slice r1 row.length r2) k) H12 r1 r2 (rowI row) := (hrow7.frame (ha12.mono fun k hk => by
                  have := (st10.in_ 8 rfl (.inl hk)).2
                  omega)).mono fun k hk => .inr hk
                (conv => whnf); refine appNO (row := rowI row) st12 sl35 (hb12.cells fun j v hv => by rw [Nat.zero_add]; exact hv) ⟨r1, r2, by rw [hri], hrow12⟩ rfl (fun u hu => by cases List.mem_singleton.1 hu; rfl) (by rw [hrl2]; omega) (by decide) fun a13 c13 H13 st13 => ?_
                have e5 : rows.map rowI ++ [rowI row] = (rows ++ [row]).map rowI := by simp
                rw [hrl2, e5] at st13
                rw [hrl2]
                (conv => whnf); refine VC.fa fl43_2 ?_
                (conv => whnf); refine st1B st13 4 ct35 rfl (by rw [hl259]; decide) rfl fun H14 st14 => ?_
                rw [Nat.zero_add, dfaL_put257 hcl] at st14
                have hfxA : 0 ≤ x.1 ∧ x.1 < A.final.length := ⟨hxh.1.1, by have := hxh.1.2; rw [ha.n] at this; omega⟩
                have hfxB : 0 ≤ x.2 ∧ x.2 < B.final.length := ⟨hxh.2.1, by have := hxh.2.2; rw [hb.n] at this; omega⟩
                have hfinA : ∀ (S0 : Nat → Prop) (K : Value → Prop), (∀ p o, VC.cell H14 p o = some (.bool (finM a x.1)) → K (.pointer (some ⟨p, o, none⟩))) → VDet Tryz.prog (Instr.indexAt 36 (.slice fA A.final.length cA) (.int .i64 x.1)) S0 H14 K := fun S0 K hK =>
                  fin_ix (hsA.frame (st14.old.mono hS)) hfxA.1 hfxA.2 fun p o _ hc => hK p o (by rw [hc, ha.fin])
                have hfinB : ∀ (S0 : Nat → Prop) (K : Value → Prop), (∀ p o, VC.cell H14 p o = some (.bool (finM b x.2)) → K (.pointer (some ⟨p, o, none⟩))) → VDet Tryz.prog (Instr.indexAt 36 (.slice fB B.final.length cB) (.int .i64 x.2)) S0 H14 K := fun S0 K hK =>
                  fin_ix (hsB.frame (st14.old.mono hS)) hfxB.1 hfxB.2 fun p o _ hc => hK p o (by rw [hc, hb.fin])
                have hbA : Blk H14 p1 43 la := st14.blk 1 rfl
                have hbB : Blk H14 p2 43 lb := st14.blk 2 rfl
                have hk3 : kind = 0 ∨ kind = 1 ∨ kind = 2 := by omega
                rcases hk3 with rfl | rfl | rfl
                · (conv => whnf); refine VC.fa fl43_3 ?_
                  (conv => whnf); refine ld1 (v := .slice fA A.final.length cA) ct36 (by rw [hbA.cell]; exact hgA) trivial ?_
                  (conv => whnf); refine hfinA _ _ fun q1 o1 hq1 => ?_
                  (conv => whnf); refine ld1 ct4 hq1 trivial ?_
                  cases hfa : finM a x.1 with
                  | true =>
                    rw [hfa] at hfinA hend
                    (conv => whnf); refine VC.fa fl43_3 ?_
                    (conv => whnf); refine ld1 (v := .slice fB B.final.length cB) ct36 (by rw [hbB.cell]; exact hgB) trivial ?_
                    (conv => whnf); refine hfinB _ _ fun q2 o2 hq2 => ?_
                    (conv => whnf); refine ld1 ct4 hq2 trivial ?_
                    (conv => whnf); refine VSeq.run ?_
                    (conv => whnf); refine VSeq.run ?_
                    (conv => whnf); refine VC.fa fl43_3 ?_
                    (conv => whnf); refine ld1 (v := .slice ya i yc) ct36 (by rw [(st14.blk 4 rfl).cell, Nat.zero_add]; exact dfaL_258 hcl) trivial ?_
                    (conv => whnf); refine vbuild1 sl36 [.bool (finM b x.2)] rfl rfl (by decide) (by decide) ?_
                    intro q17 H17 hq17 hs17 hb17 ha17
                    (conv => whnf); refine app1 (x := finM b x.2) (st14.skip hq17 ha17) 7 sl36 rfl hb17 rfl rfl (by rw [hel7]; omega) (by decide) fun a18 c18 H18 st18 _ => ?_
                    rw [hel7] at st18
                    rw [hel7]
                    (conv => whnf); refine VC.fa fl43_3 ?_
                    (conv => whnf); refine st1B st18 4 ct36 rfl (by rw [hl259]; decide) rfl fun H19 st19 => ?_
                    rw [Nat.zero_add, dfaL_put258 hcl] at st19
                    (conv => whnf); rw [w64 (x := (i : Int) + 1) (by omega) (by omega)]
                    refine ⟨rfl, (i + 1, F', rows ++ [row]), by simp, ⟨hi1, hFn', hnd', hHF', by simp [hrl9], hnext, vs10, (fun k => Sn k ∨ slB (.slice r1 row.length r2) k), a13, c13, a18, c18, hvl10, ?_⟩, by simp only; omega⟩
                    rw [hend]
                    exact st19.pick [1, 2, 3, 4, 5, 6, 0, 7] (by decide)
                  | false =>
                    rw [hfa] at hfinA hend
                    (conv => whnf); refine VSeq.run ?_
                    (conv => whnf); refine VSeq.run ?_
                    (conv => whnf); refine VC.fa fl43_3 ?_
                    (conv => whnf); refine ld1 (v := .slice ya i yc) ct36 (by rw [(st14.blk 4 rfl).cell, Nat.zero_add]; exact dfaL_258 hcl) trivial ?_
                    (conv => whnf); refine vbuild1 sl36 [.bool (false)] rfl rfl (by decide) (by decide) ?_
                    intro q17 H17 hq17 hs17 hb17 ha17
                    (conv => whnf); refine app1 (x := false) (st14.skip hq17 ha17) 7 sl36 rfl hb17 rfl rfl (by rw [hel7]; omega) (by decide) fun a18 c18 H18 st18 _ => ?_
                    rw [hel7] at st18
                    rw [hel7]
                    (conv => whnf); refine VC.fa fl43_3 ?_
                    (conv => whnf); refine st1B st18 4 ct36 rfl (by rw [hl259]; decide) rfl fun H19 st19 => ?_
                    rw [Nat.zero_add, dfaL_put258 hcl] at st19
                    (conv => whnf); rw [w64 (x := (i : Int) + 1) (by omega) (by omega)]
                    refine ⟨rfl, (i + 1, F', rows ++ [row]), by simp, ⟨hi1, hFn', hnd', hHF', by simp [hrl9], hnext, vs10, (fun k => Sn k ∨ slB (.slice r1 row.length r2) k), a13, c13, a18, c18, hvl10, ?_⟩, by simp only; omega⟩
                    rw [hend]
                    exact st19.pick [1, 2, 3, 4, 5, 6, 0, 7] (by decide)
                · (conv => whnf); refine VC.fa fl43_3 ?_
                  (conv => whnf); refine ld1 (v := .slice fA A.final.length cA) ct36 (by rw [hbA.cell]; exact hgA) trivial ?_
                  (conv => whnf); refine hfinA _ _ fun q1 o1 hq1 => ?_
                  (conv => whnf); refine ld1 ct4 hq1 trivial ?_
                  cases hfa : finM a x.1 with
                  | true =>
                    rw [hfa] at hfinA hend
                    (conv => whnf); refine VC.fa fl43_3 ?_
                    (conv => whnf); refine ld1 (v := .slice fB B.final.length cB) ct36 (by rw [hbB.cell]; exact hgB) trivial ?_
                    (conv => whnf); refine hfinB _ _ fun q2 o2 hq2 => ?_
                    (conv => whnf); refine ld1 ct4 hq2 trivial ?_
                    (conv => whnf); refine VSeq.run ?_
                    (conv => whnf); refine VC.fa fl43_3 ?_
                    (conv => whnf); refine ld1 (v := .slice fA A.final.length cA) ct36 (by rw [hbA.cell]; exact hgA) trivial ?_
                    (conv => whnf); refine hfinA _ _ fun q1 o1 hq1 => ?_
                    (conv => whnf); refine ld1 ct4 hq1 trivial ?_
                    (conv => whnf); refine VSeq.run ?_
                    (conv => whnf); refine VC.fa fl43_3 ?_
                    (conv => whnf); refine ld1 (v := .slice ya i yc) ct36 (by rw [(st14.blk 4 rfl).cell, Nat.zero_add]; exact dfaL_258 hcl) trivial ?_
                    (conv => whnf); refine vbuild1 sl36 [.bool (true)] rfl rfl (by decide) (by decide) ?_
                    intro q17 H17 hq17 hs17 hb17 ha17
                    (conv => whnf); refine app1 (x := true) (st14.skip hq17 ha17) 7 sl36 rfl hb17 rfl rfl (by rw [hel7]; omega) (by decide) fun a18 c18 H18 st18 _ => ?_
                    rw [hel7] at st18
                    rw [hel7]
                    (conv => whnf); refine VC.fa fl43_3 ?_
                    (conv => whnf); refine st1B st18 4 ct36 rfl (by rw [hl259]; decide) rfl fun H19 st19 => ?_
                    rw [Nat.zero_add, dfaL_put258 hcl] at st19
                    (conv => whnf); rw [w64 (x := (i : Int) + 1) (by omega) (by omega)]
                    refine ⟨rfl, (i + 1, F', rows ++ [row]), by simp, ⟨hi1, hFn', hnd', hHF', by simp [hrl9], hnext, vs10, (fun k => Sn k ∨ slB (.slice r1 row.length r2) k), a13, c13, a18, c18, hvl10, ?_⟩, by simp only; omega⟩
                    rw [hend]
                    exact st19.pick [1, 2, 3, 4, 5, 6, 0, 7] (by decide)
                  | false =>
                    rw [hfa] at hfinA hend
                    (conv => whnf); refine VSeq.run ?_
                    (conv => whnf); refine VC.fa fl43_3 ?_
                    (conv => whnf); refine ld1 (v := .slice fA A.final.length cA) ct36 (by rw [hbA.cell]; exact hgA) trivial ?_
                    (conv => whnf); refine hfinA _ _ fun q1 o1 hq1 => ?_
                    (conv => whnf); refine ld1 ct4 hq1 trivial ?_
                    (conv => whnf); refine VC.fa fl43_3 ?_
                    (conv => whnf); refine ld1 (v := .slice fB B.final.length cB) ct36 (by rw [hbB.cell]; exact hgB) trivial ?_
                    (conv => whnf); refine hfinB _ _ fun q2 o2 hq2 => ?_
                    (conv => whnf); refine ld1 ct4 hq2 trivial ?_
                    (conv => whnf); refine VSeq.run ?_
                    (conv => whnf); refine VC.fa fl43_3 ?_
                    (conv => whnf); refine ld1 (v := .slice ya i yc) ct36 (by rw [(st14.blk 4 rfl).cell, Nat.zero_add]; exact dfaL_258 hcl) trivial ?_
                    (conv => whnf); refine vbuild1 sl36 [.bool (finM b x.2)] rfl rfl (by decide) (by decide) ?_
                    intro q17 H17 hq17 hs17 hb17 ha17
                    (conv => whnf); refine app1 (x := finM b x.2) (st14.skip hq17 ha17) 7 sl36 rfl hb17 rfl rfl (by rw [hel7]; omega) (by decide) fun a18 c18 H18 st18 _ => ?_
                    rw [hel7] at st18
                    rw [hel7]
                    (conv => whnf); refine VC.fa fl43_3 ?_
                    (conv => whnf); refine st1B st18 4 ct36 rfl (by rw [hl259]; decide) rfl fun H19 st19 => ?_
                    rw [Nat.zero_add, dfaL_put258 hcl] at st19
                    (conv => whnf); rw [w64 (x := (i : Int) + 1) (by omega) (by omega)]
                    refine ⟨rfl, (i + 1, F', rows ++ [row]), by simp, ⟨hi1, hFn', hnd', hHF', by simp [hrl9], hnext, vs10, (fun k => Sn k ∨ slB (.slice r1 row.length r2) k), a13, c13, a18, c18, hvl10, ?_⟩, by simp only; omega⟩
                    rw [hend]
                    exact st19.pick [1, 2, 3, 4, 5, 6, 0, 7] (by decide)
                · (conv => whnf); refine VC.fa fl43_3 ?_
                  (conv => whnf); refine ld1 (v := .slice fA A.final.length cA) ct36 (by rw [hbA.cell]; exact hgA) trivial ?_
                  (conv => whnf); refine hfinA _ _ fun q1 o1 hq1 => ?_
                  (conv => whnf); refine ld1 ct4 hq1 trivial ?_
                  cases hfa : finM a x.1 with
                  | true =>
                    rw [hfa] at hfinA hend
                    (conv => whnf); refine VC.fa fl43_3 ?_
                    (conv => whnf); refine ld1 (v := .slice fB B.final.length cB) ct36 (by rw [hbB.cell]; exact hgB) trivial ?_
                    (conv => whnf); refine hfinB _ _ fun q2 o2 hq2 => ?_
                    (conv => whnf); refine ld1 ct4 hq2 trivial ?_
                    (conv => whnf); refine VSeq.run ?_
                    (conv => whnf); refine VSeq.run ?_
                    (conv => whnf); refine VC.fa fl43_3 ?_
                    (conv => whnf); refine ld1 (v := .slice fA A.final.length cA) ct36 (by rw [hbA.cell]; exact hgA) trivial ?_
                    (conv => whnf); refine hfinA _ _ fun q1 o1 hq1 => ?_
                    (conv => whnf); refine ld1 ct4 hq1 trivial ?_
                    (conv => whnf); refine VC.fa fl43_3 ?_
                    (conv => whnf); refine ld1 (v := .slice fB B.final.length cB) ct36 (by rw [hbB.cell]; exact hgB) trivial ?_
                    (conv => whnf); refine hfinB _ _ fun q2 o2 hq2 => ?_
                    (conv => whnf); refine ld1 ct4 hq2 trivial ?_
                    (conv => whnf); refine VC.fa fl43_3 ?_
                    (conv => whnf); refine ld1 (v := .slice ya i yc) ct36 (by rw [(st14.blk 4 rfl).cell, Nat.zero_add]; exact dfaL_258 hcl) trivial ?_
                    (conv => whnf); refine vbuild1 sl36 [.bool (!finM b x.2)] rfl rfl (by decide) (by decide) ?_
                    intro q17 H17 hq17 hs17 hb17 ha17
                    (conv => whnf); refine app1 (x := !finM b x.2) (st14.skip hq17 ha17) 7 sl36 rfl hb17 rfl rfl (by rw [hel7]; omega) (by decide) fun a18 c18 H18 st18 _ => ?_
                    rw [hel7] at st18
                    rw [hel7]
                    (conv => whnf); refine VC.fa fl43_3 ?_
                    (conv => whnf); refine st1B st18 4 ct36 rfl (by rw [hl259]; decide) rfl fun H19 st19 => ?_
                    rw [Nat.zero_add, dfaL_put258 hcl] at st19
                    (conv => whnf); rw [w64 (x := (i : Int) + 1) (by omega) (by omega)]
                    refine ⟨rfl, (i + 1, F', rows ++ [row]), by simp, ⟨hi1, hFn', hnd', hHF', by simp [hrl9], hnext, vs10, (fun k => Sn k ∨ slB (.slice r1 row.length r2) k), a13, c13, a18, c18, hvl10, ?_⟩, by simp only; omega⟩
                    rw [hend]
                    exact st19.pick [1, 2, 3, 4, 5, 6, 0, 7] (by decide)
                  | false =>
                    rw [hfa] at hfinA hend
                    (conv => whnf); refine VSeq.run ?_
                    (conv => whnf); refine VSeq.run ?_
                    (conv => whnf); refine VC.fa fl43_3 ?_
                    (conv => whnf); refine ld1 (v := .slice fA A.final.length cA) ct36 (by rw [hbA.cell]; exact hgA) trivial ?_
                    (conv => whnf); refine hfinA _ _ fun q1 o1 hq1 => ?_
                    (conv => whnf); refine ld1 ct4 hq1 trivial ?_
                    (conv => whnf); refine VC.fa fl43_3 ?_
                    (conv => whnf); refine ld1 (v := .slice ya i yc) ct36 (by rw [(st14.blk 4 rfl).cell, Nat.zero_add]; exact dfaL_258 hcl) trivial ?_
                    (conv => whnf); refine vbuild1 sl36 [.bool (false)] rfl rfl (by decide) (by decide) ?_
                    intro q17 H17 hq17 hs17 hb17 ha17
                    (conv => whnf); refine app1 (x := false) (st14.skip hq17 ha17) 7 sl36 rfl hb17 rfl rfl (by rw [hel7]; omega) (by decide) fun a18 c18 H18 st18 _ => ?_
                    rw [hel7] at st18
                    rw [hel7]
                    (conv => whnf); refine VC.fa fl43_3 ?_
                    (conv => whnf); refine st1B st18 4 ct36 rfl (by rw [hl259]; decide) rfl fun H19 st19 => ?_
                    rw [Nat.zero_add, dfaL_put258 hcl] at st19
                    (conv => whnf); rw [w64 (x := (i : Int) + 1) (by omega) (by omega)]
                    refine ⟨rfl, (i + 1, F', rows ++ [row]), by simp, ⟨hi1, hFn', hnd', hHF', by simp [hrl9], hnext, vs10, (fun k => Sn k ∨ slB (.slice r1 row.length r2) k), a13, c13, a18, c18, hvl10, ?_⟩, by simp only; omega⟩
                    rw [hend]
                    exact st19.pick [1, 2, 3, 4, 5, 6, 0, 7] (by decide)
          · obtain rfl : i = F.length := by omega
            rw [List.take_length] at st9
            have hdet := detF_done hrun rfl hFn
            have hrl2 : (rows.map rowI).length = F.length := by rw [List.length_map]; exact hrl9
            have hel7 : (F.map fun x => endsK kind (finM a x.1) (finM b x.2)).length = F.length := List.length_map _
            (conv => whnf); refine ldN (cs := dfaL cel (.slice ra by_.length rc) (.slice xa F.length xc) (.slice ya F.length yc)) (by rw [hl259]; exact ag43) ((st9.blk 3 rfl).cells fun j v hv => by rw [Nat.zero_add]; exact hv) trivial ?_
            (conv => whnf); refine stNB (cs := dfaL cel (.slice ra by_.length rc) (.slice xa F.length xc) (.slice ya F.length yc)) st9 2 (by rw [hl259]; rfl) rfl (by rw [hl259]; decide) (dfaL_ones rfl rfl rfl) fun H13 st13 => ?_
            rw [splice_whole (by rw [hl259]; rfl)] at st13
            (conv => whnf); refine ldN (cs := dfaL cel (.slice ra by_.length rc) (.slice xa F.length xc) (.slice ya F.length yc)) (by rw [hl259]; exact ag43) ((st13.blk 2 rfl).cells fun j v hv => by rw [Nat.zero_add]; exact hv) trivial ?_
            refine ⟨st13.old, _, 0, rfl, ⟨_, rfl, dfaL_len hcl, dfaL_ones rfl rfl rfl⟩, ?_⟩
            unfold ProdD
            rw [if_neg (by omega), Int.toNat_natCast, ← hby, hdet, ← hcel]
            refine ⟨rfl, hcl, ra, rc, xa, xc, ya, yc, ?_, (st13.at_ 4 rfl).mono fun k hk => (st13.in_ 4 rfl hk).2, st13.view 6 rfl, st13.view 7 rfl⟩
            rw [hrl, hrl2, hel7]
end Go.Proofs.YtfbghcpdinlmcaaGreatDoor
/- louperef06.Not: the walk. -/
set_option linter.unusedVariables false
set_option linter.unusedSimpArgs false
set_option maxRecDepth 100000
namespace Go.Proofs.YtfbghcpdinlmcaaGreatDoor
open Go.VC
attribute [local irreducible] mRun gRun atRun
theorem fill_dfa3 {place : Nat → Option (Nat × Nat)} {cell : List Int} {v w : Value} (hl : cell.length = 256) (p0 : place 0 = some (0, 256)) (p1 : place 1 = some (256, 1)) (p2 : place 2 = some (257, 1)) (hv : v.cells = #[v]) (hw : w.cells = #[w]) :
    Instr.fill place zD6.toArray [(0, .agg (cell.map (Value.int .i64)).toArray), (1, v), (2, w)] = some (dfaL cell v w (.slice none 0 0)).toArray := by
  have hz : zD6.length = 259 := by simp [zD6, dfaL]
  have ec : (Value.agg (cell.map (Value.int .i64)).toArray).cells = (cell.map (Value.int .i64)).toArray := rfl
  have e0 : splice zD6 0 (cell.map (Value.int .i64)) = dfaL cell (.slice none 0 0) (.slice none 0 0) (.slice none 0 0) := by
    unfold splice zD6 dfaL
    rw [List.take_zero, List.nil_append, List.length_map, hl, List.drop_left' (by simp)]
  have e1 : splice (dfaL cell (.slice none 0 0) (.slice none 0 0) (.slice none 0 0)) 256 [v] = dfaL cell v (.slice none 0 0) (.slice none 0 0) := by
    rw [splice_one (by rw [dfaL_len hl]; decide), dfaL_put256 hl]
  have e2 : splice (dfaL cell v (.slice none 0 0) (.slice none 0 0)) 257 [w] = dfaL cell v w (.slice none 0 0) := by
    rw [splice_one (by rw [dfaL_len hl]; decide), dfaL_put257 hl]
  rw [fill_cons p0 (by rw [ec]; simpa using hl) (by simp [zD6, dfaL]), ec, List.toList_toArray, e0, fill_cons p1 (by rw [hv]; rfl) (by rw [List.size_toArray, dfaL_len hl]; decide), hv, List.toList_toArray, e1, fill_cons p2 (by rw [hw]; rfl) (by rw [List.size_toArray, dfaL_len hl]; decide), hw, List.toList_toArray, e2]
  rfl
set_option maxHeartbeats 16000000 in
theorem notD_c {S : Nat → Prop} {H : Heap} {v : Value} {D : DM} (hS : ∀ k, S k → k < H.size) (hv : DfaV S H v D) (hok : D.Ok) :
    FnOk Tryz.prog 27 #[v] H fun r H' => Agr (Old H) H H' ∧ DfaV (Old H') H' r ⟨D.cell, D.reps, D.next, D.final.map (!·)⟩ := by
  have hn2 := hok.n2
  have hfl := hok.fl
  have hv0 := hv
  obtain ⟨hl, ra, rc, na, nc, fa, fc, e, h1, h2, h3⟩ := hv0
  subst e
  have hl259 : ∀ rv nv fv, (dfaL D.cell rv nv fv).length = 259 := fun rv nv fv => dfaL_len hl
  refine FnOk.of_vc Tryz.func27 rfl (Tryz.call27 _) ?_
  (conv => whnf); refine vbox (dfaL D.cell (.slice ra D.reps.length rc) (.slice na D.next.length nc) (.slice fa D.final.length fc)) rfl ?_
  intro p H1 hp hs1 hb1 ha1
  have st1 := (St.nil H).box hp hs1 hb1 ha1
  (conv => whnf); refine valloc _ zD6 rfl (by kernel_rfl) ?_
  intro p2 H2 hp2 hs2 hb2 ha2
  have st2 := st1.box hp2 hs2 hb2 ha2
  obtain ⟨dl, hdl⟩ : ∃ dl, dl = dfaL D.cell (.slice ra D.reps.length rc) (.slice na D.next.length nc) (.slice fa D.final.length fc) := ⟨_, rfl⟩
  have hd6 : dl[256]? = some (.slice ra D.reps.length rc) := by rw [hdl]; exact dfaL_256 hl
  have hd7 : dl[257]? = some (.slice na D.next.length nc) := by rw [hdl]; exact dfaL_257 hl
  have hd8 : dl[258]? = some (.slice fa D.final.length fc) := by rw [hdl]; exact dfaL_258 hl
  have hdc : ∀ (j : Nat) (u : Value), (D.cell.map (Value.int .i64))[j]? = some u → dl[0 + j]? = some u := fun j u hu => by
    rw [hdl, Nat.zero_add]
    unfold dfaL
    rw [List.getElem?_append_left (List.getElem?_eq_some_iff.1 hu).1]
    exact hu
  rw [← hdl] at st2
  have hfn : ∀ {G : Heap}, Agr (Old H) H G → SlD tBool S G fa fc D.final := fun h => h3.frame (h.mono hS)
  (conv => whnf); refine VC.fa fl43_0 ?_
  (conv => whnf); refine ldN (cs := D.cell.map (Value.int .i64)) (by rw [List.length_map, hl]; exact ag40) ((st2.blk 0 rfl).cells fun j u hu => by simpa using hdc j u hu) trivial ?_
  (conv => whnf); refine VC.fa fl43_1 ?_
  (conv => whnf); refine ld1 (v := .slice ra D.reps.length rc) ct41 (by rw [(st2.blk 0 rfl).cell, Nat.zero_add]; exact hd6) trivial ?_
  (conv => whnf); refine VC.fa fl43_2 ?_
  (conv => whnf); refine ld1 (v := .slice na D.next.length nc) ct35 (by rw [(st2.blk 0 rfl).cell, Nat.zero_add]; exact hd7) trivial ?_
  (conv => whnf); refine vbuildS Tryz.underlying43 rfl (.agg zD6.toArray) (by kernel_rfl) (dfaL D.cell (.slice ra D.reps.length rc) (.slice na D.next.length nc) (.slice none 0 0)) (fill_dfa3 hl (by kernel_rfl) (by kernel_rfl) (by kernel_rfl) rfl rfl) ?_
  (conv => whnf); refine valloc _ zD6 rfl (by kernel_rfl) ?_
  intro p5 H5 hp5 hs5 hb5 ha5
  have st5 := st2.box hp5 hs5 hb5 ha5
  (conv => whnf); refine stNB (cs := dfaL D.cell (.slice ra D.reps.length rc) (.slice na D.next.length nc) (.slice none 0 0)) st5 2 (by rw [hl259]; rfl) rfl (by rw [hl259]; decide) (dfaL_ones rfl rfl rfl) fun H6 st6 => ?_
  rw [splice_whole (by rw [hl259]; rfl)] at st6
  have st7 := st6.nils tBool 4
  (conv => whnf)
  refine VLoop.mk [4] (fun i : Nat => [.int .i64 (i : Int)]) (fun i H7 => i ≤ D.final.length ∧ ∃ ya yc, St H H7 [pB 43 p dl, pB 43 p2 zD6, pB 43 p5 (dfaL D.cell (.slice ra D.reps.length rc) (.slice na D.next.length nc) (.slice ya i yc)), pS tBool 4 ya i yc ((D.final.take i).map (!·))]) (fun i _ => D.final.length - i) ?_ ?_
  · (conv => whnf)
    exact ⟨0, rfl, Nat.zero_le _, none, 0, st7⟩
  · clear st7 st6 st5 st2 st1
    rintro i H7 junk7 ⟨hi, ya, yc, st7⟩
    (conv => whnf); refine VC.fa fl43_3 ?_
    (conv => whnf); refine ld1 (v := .slice fa D.final.length fc) ct36 (by rw [(st7.blk 0 rfl).cell, Nat.zero_add]; exact hd8) trivial ?_
    (conv => whnf); refine VIte.mk (fun hz => ?_) (fun hz => ?_) <;> simp only [decide_eq_true_eq, decide_eq_false_iff_not] at hz
    · obtain ⟨f, hf⟩ := get_some (l := D.final) (k := i) (by omega)
      have hel7 : ((D.final.take i).map (!·)).length = i := by rw [List.length_map, List.length_take]; omega
      have d0 := st7.apart2 (i := 0) (j := 3) rfl rfl (by decide)
      have d2 := st7.apart2 (i := 2) (j := 3) rfl rfl (by decide)
      have hp0 : p < H7.size ∧ ¬ (pS tBool 4 ya i yc ((D.final.take i).map (!·)) : Pc).foot p := ⟨(st7.in_ 0 rfl rfl).2, fun h => d0 p rfl h⟩
      have hp5 : p5 < H7.size ∧ ¬ (pS tBool 4 ya i yc ((D.final.take i).map (!·)) : Pc).foot p5 := ⟨(st7.in_ 2 rfl rfl).2, fun h => d2 p5 rfl h⟩
      have hq7 := fun (k : Nat) (hk : Old H k) => (⟨st7.up hk, fun h => (st7.in_ 3 rfl h).1 hk⟩ : k < H7.size ∧ ¬ (pS tBool 4 ya i yc ((D.final.take i).map (!·)) : Pc).foot k)
      (conv => whnf); refine VDraw.held (fun k => k < H7.size ∧ ¬ (pS tBool 4 ya i yc ((D.final.take i).map (!·)) : Pc).foot k) 11 (sq [0,1,2,3,4,5,6,7] (.f 8 (.f 9 (sq [10] (.f 11 .e))))) rfl (by kernel_rfl) ?_
      (conv => whnf); refine VC.fa fl43_3 ?_
      (conv => whnf); refine ld1 (v := .slice ya i yc) ct36 (by rw [(st7.blk 2 rfl).cell, Nat.zero_add]; exact dfaL_258 hl) hp5 ?_
      (conv => whnf); refine VC.fa fl43_3 ?_
      (conv => whnf); refine ld1 (v := .slice fa D.final.length fc) ct36 (by rw [(st7.blk 0 rfl).cell, Nat.zero_add]; exact hd8) hp0 ?_
      (conv => whnf); refine ixr (i := i) sl36 ((hfn st7.old).mono fun k hk => hq7 k (hS k hk)) hf rfl ?_
      rintro b9 o9 c9 hS9 hc9 rfl
      (conv => whnf); refine ld1 ct4 hc9.one hS9 ?_
      (conv => whnf); refine vbuild1 sl36 [.bool (!f)] rfl rfl (by decide) (by decide) ?_
      intro q10 H10 hq10 hs10 hb10 ha10
      have st10 := st7.skip hq10 ha10
      refine ⟨ha10.mono fun k hk => by have := hk.1; omega, ?_⟩
      (conv => whnf); refine app1 (x := !f) st10 3 sl36 rfl hb10 rfl rfl (by rw [hel7]; omega) (by decide) fun a11 c11 H11 st11 ha11 => ?_
      refine ⟨(ha10.mono fun k hk => by have := hk.1; omega).trans (ha11.mono fun k hk => ⟨by have := hk.1; omega, fun h => hk.2 (.inl h)⟩), ?_⟩
      have hend : ((D.final.take i).map (!·)) ++ [!f] = (D.final.take (i + 1)).map (!·) := by rw [take_succ_snoc hf, List.map_append]; rfl
      rw [hel7, hend] at st11
      rw [hel7]
      (conv => whnf); refine VC.fa fl43_3 ?_
      (conv => whnf); refine st1B st11 2 ct36 rfl (by rw [hl259]; decide) rfl fun H12 st12 => ?_
      rw [Nat.zero_add, dfaL_put258 hl] at st12
      (conv => whnf); rw [w64 (x := (i : Int) + 1) (by omega) (by omega)]
      exact ⟨rfl, i + 1, by simp, ⟨by omega, a11, c11, st12⟩, by omega⟩
    · obtain rfl : i = D.final.length := by omega
      rw [List.take_length] at st7
      have hel7 : (D.final.map (!·)).length = D.final.length := List.length_map _
      (conv => whnf); refine ldN (cs := dfaL D.cell (.slice ra D.reps.length rc) (.slice na D.next.length nc) (.slice ya D.final.length yc)) (by rw [hl259]; exact ag43) ((st7.blk 2 rfl).cells fun j v hv => by rw [Nat.zero_add]; exact hv) trivial ?_
      (conv => whnf); refine stNB (cs := dfaL D.cell (.slice ra D.reps.length rc) (.slice na D.next.length nc) (.slice ya D.final.length yc)) st7 1 (by rw [hl259]; rfl) rfl (by rw [hl259]; decide) (dfaL_ones rfl rfl rfl) fun H13 st13 => ?_
      rw [splice_whole (by rw [hl259]; rfl)] at st13
      (conv => whnf); refine ldN (cs := dfaL D.cell (.slice ra D.reps.length rc) (.slice na D.next.length nc) (.slice ya D.final.length yc)) (by rw [hl259]; exact ag43) ((st13.blk 1 rfl).cells fun j v hv => by rw [Nat.zero_add]; exact hv) trivial ?_
      refine ⟨st13.old, hl, ra, rc, na, nc, ya, yc, ?_, (h1.frame (st13.old.mono hS)).mono fun k hk => st13.up (hS k hk), (h2.frame (st13.old.mono hS)).mono fun k hk => st13.up (hS k hk), st13.view 3 rfl⟩
      rw [hel7]
end Go.Proofs.YtfbghcpdinlmcaaGreatDoor
/- Interface values: asking for their type, comparing with nil, calling their methods. -/
set_option linter.unusedVariables false
set_option linter.unusedSimpArgs false
namespace Go.VC
section
variable {P : Program} {t : TypeId} {x y : Operand} {S : Nat → Prop} {H : Heap} {K : Value → Prop} {T A : TypeId} {v z : Value} {d : TypeDesc}
theorem vta_yes (hd : P.underlying A = some d) (hn : ∀ ms, d ≠ .interface ms) (k : K (.tuple #[v, .bool true])) : VDet P (Instr.typeAssert (.iface A v) t A true) S H K := by
  refine VDet.mk _ (fun w _ => ?_) k
  unfold Instr.typeAssert
  simp only [Sem.run_bind, run_underlying hd, Result.andThen_ok]
  cases d <;> first | (exact absurd rfl (hn _)) | simp
theorem vta_no (hd : P.underlying A = some d) (hn : ∀ ms, d ≠ .interface ms) (hz : (P.info? A).bind (·.zero) = some z) (hne : T ≠ A) (k : K (.tuple #[z, .bool false])) : VDet P (Instr.typeAssert (.iface T v) t A true) S H K := by
  refine VDet.mk _ (fun w _ => ?_) k
  have hzr : (zeroValue A).run P w = .ok z w := by
    cases hi : P.info? A with
    | none => rw [hi] at hz; cases hz
    | some i =>
      have hz' : i.zero = some z := by simpa [hi] using hz
      simp [zeroValue, typeInfo, hi, hz']
  unfold Instr.typeAssert
  simp only [Sem.run_bind, run_underlying hd, Result.andThen_ok]
  cases d <;> first | (exact absurd rfl (hn _)) | simp [hne, hzr]
theorem run_if_nil {ms : Array (String × TypeId)} (h : P.underlying t = some (.interface ms)) (w : World) : (Op.equal t (.iface T v) .nilIface).run P w = .ok false w := by
  have : ∀ d : Nat, (Op.equalIn (d + 1) t (.iface T v) .nilIface).run P w = .ok false w := fun d => by
    simp [Op.equalIn, run_underlying h]
  exact this 9999
theorem run_nil_nil {ms : Array (String × TypeId)} (h : P.underlying t = some (.interface ms)) (w : World) : (Op.equal t .nilIface .nilIface).run P w = .ok true w := by
  have : ∀ d : Nat, (Op.equalIn (d + 1) t .nilIface .nilIface).run P w = .ok true w := fun d => by
    simp [Op.equalIn, run_underlying h]
  exact this 9999
theorem ifeq {ms : Array (String × TypeId)} (h : P.underlying t = some (.interface ms)) (k : K (.bool false)) : VDet P (do eqGuard .eql t x y (.iface T v) .nilIface; binOp .eql t (.iface T v) .nilIface) S H K := by
  refine VDet.mk _ (fun w _ => ?_) k
  simp [eqGuard, binOp, run_if_nil h]
theorem ifneq {ms : Array (String × TypeId)} (h : P.underlying t = some (.interface ms)) (k : K (.bool true)) : VDet P (do eqGuard .neq t x y (.iface T v) .nilIface; binOp .neq t (.iface T v) .nilIface) S H K := by
  refine VDet.mk _ (fun w _ => ?_) k
  simp [eqGuard, binOp, run_if_nil h]
theorem ifeqN {ms : Array (String × TypeId)} {c : Value} (h : P.underlying t = some (.interface ms)) (k : K (.bool true)) : VDet P (do eqGuard .eql t x (.const c) .nilIface .nilIface; binOp .eql t .nilIface .nilIface) S H K := by
  refine VDet.mk _ (fun w _ => ?_) k
  simp [eqGuard, binOp, run_nil_nil h]
end
end Go.VC
namespace Go.Proofs.YtfbghcpdinlmcaaGreatDoor
open Go.VC
theorem m_eps_size (x : Value) (w : World) : (callMethod (.iface 98 x) "Size" #[]).run Tryz.prog w = .ok (.enter 271 #[x]) w := by kernel_rfl
theorem m_cls_size (x : Value) (w : World) : (callMethod (.iface 104 x) "Size" #[]).run Tryz.prog w = .ok (.enter 273 #[x]) w := by kernel_rfl
theorem m_cat_size (x : Value) (w : World) : (callMethod (.iface 105 x) "Size" #[]).run Tryz.prog w = .ok (.enter 275 #[x]) w := by kernel_rfl
theorem m_alt_size (x : Value) (w : World) : (callMethod (.iface 305 x) "Size" #[]).run Tryz.prog w = .ok (.enter 278 #[x]) w := by kernel_rfl
theorem m_star_size (x : Value) (w : World) : (callMethod (.iface 310 x) "Size" #[]).run Tryz.prog w = .ok (.enter 280 #[x]) w := by kernel_rfl
theorem m_and_size (x : Value) (w : World) : (callMethod (.iface 64 x) "Size" #[]).run Tryz.prog w = .ok (.enter 266 #[x]) w := by kernel_rfl
theorem m_minus_size (x : Value) (w : World) : (callMethod (.iface 65 x) "Size" #[]).run Tryz.prog w = .ok (.enter 269 #[x]) w := by kernel_rfl
end Go.Proofs.YtfbghcpdinlmcaaGreatDoor
/- Trees of expressions; the builder of layer 4 over trees without signs: the plain law and the walks. -/
set_option linter.unusedVariables false
set_option linter.unusedSimpArgs false
set_option maxRecDepth 100000
namespace Go.Proofs.YtfbghcpdinlmcaaGreatDoor
open Go.VC
inductive ReM
  | eps
  | cls (s : BitVec 256)
  | cat (a b : ReM)
  | alt (a b : ReM)
  | star (a : ReM)
  | and_ (a b : ReM)
  | minus (a b : ReM)
def nodeV : ReM → Value
  | .eps => .iface 98 (.agg #[])
  | .cls s => .iface 104 (setV s)
  | .cat a b => .iface 105 (.agg #[nodeV a, nodeV b])
  | .alt a b => .iface 305 (.agg #[nodeV a, nodeV b])
  | .star a => .iface 310 (.agg #[nodeV a])
  | .and_ a b => .iface 64 (.agg #[nodeV a, nodeV b])
  | .minus a b => .iface 65 (.agg #[nodeV a, nodeV b])
theorem nodeV_one (r : ReM) : (nodeV r).oneCell' = true := by cases r <;> rfl
def ReM.nodes : ReM → Nat
  | .eps => 1
  | .cls _ => 1
  | .cat a b => 1 + a.nodes + b.nodes
  | .alt a b => 1 + a.nodes + b.nodes
  | .star a => 1 + a.nodes
  | .and_ a b => 1 + a.nodes + b.nodes
  | .minus a b => 1 + a.nodes + b.nodes
def ReM.plain : ReM → Bool
  | .eps => true
  | .cls _ => true
  | .cat a b => a.plain && b.plain
  | .alt a b => a.plain && b.plain
  | .star a => a.plain
  | .and_ _ _ => false
  | .minus _ _ => false
/-- How many states a tree's automaton has. -/
def stM : ReM → Nat
  | .eps => 2
  | .cls _ => 2
  | .cat a b => stM a + stM b
  | .alt a b => stM a + stM b + 2
  | .star a => stM a + 2
  | .and_ _ _ => 0
  | .minus _ _ => 0
def silE (p q : Nat) : EdM := ⟨p, q, true, 0#256⟩
def setE (p q : Nat) (s : BitVec 256) : EdM := ⟨p, q, false, s⟩
/-- What a tree's rules make from state n on: the start, the end, the edges. -/
def bldM : ReM → Nat → Nat × Nat × List EdM
  | .eps, n => (n, n + 1, [silE n (n + 1)])
  | .cls s, n => (n, n + 1, [setE n (n + 1) s])
  | .cat a b, n => ((bldM a n).1, (bldM b (n + stM a)).2.1, (bldM a n).2.2 ++ (bldM b (n + stM a)).2.2 ++ [silE (bldM a n).2.1 (bldM b (n + stM a)).1])
  | .alt a b, n => (n, n + 1 + stM a + stM b, (bldM a (n + 1)).2.2 ++ (bldM b (n + 1 + stM a)).2.2 ++
      [silE n (bldM a (n + 1)).1, silE n (bldM b (n + 1 + stM a)).1, silE (bldM a (n + 1)).2.1 (n + 1 + stM a + stM b), silE (bldM b (n + 1 + stM a)).2.1 (n + 1 + stM a + stM b)])
  | .star a, n => (n, n + 1 + stM a, (bldM a (n + 1)).2.2 ++ [silE n (bldM a (n + 1)).1, silE n (n + 1 + stM a), silE (bldM a (n + 1)).2.1 (bldM a (n + 1)).1, silE (bldM a (n + 1)).2.1 (n + 1 + stM a)])
  | .and_ _ _, n => (n, n, [])
  | .minus _ _, n => (n, n, [])
theorem bldM_len : ∀ (r : ReM), r.plain = true → ∀ n, (bldM r n).2.2.length + 1 ≤ 2 * stM r
  | .eps, _, n => by simp [bldM, stM]
  | .cls _, _, n => by simp [bldM, stM]
  | .cat a b, h, n => by
    simp only [ReM.plain, Bool.and_eq_true] at h
    have h1 := bldM_len a h.1 n
    have h2 := bldM_len b h.2 (n + stM a)
    simp only [bldM, stM, List.length_append, List.length_cons, List.length_nil]; omega
  | .alt a b, h, n => by
    simp only [ReM.plain, Bool.and_eq_true] at h
    have h1 := bldM_len a h.1 (n + 1)
    have h2 := bldM_len b h.2 (n + 1 + stM a)
    simp only [bldM, stM, List.length_append, List.length_cons, List.length_nil]; omega
  | .star a, h, n => by
    have h1 := bldM_len a h (n + 1)
    simp only [bldM, stM, List.length_append, List.length_cons, List.length_nil]; omega
  | .and_ _ _, h, _ => by cases h
  | .minus _ _, h, _ => by cases h
/-- The ends lie among the states. -/
theorem bldM_in : ∀ (r : ReM), r.plain = true → ∀ n, n ≤ (bldM r n).1 ∧ (bldM r n).1 < n + stM r ∧ n ≤ (bldM r n).2.1 ∧ (bldM r n).2.1 < n + stM r
  | .eps, _, n => by simp only [bldM, stM]; omega
  | .cls _, _, n => by simp only [bldM, stM]; omega
  | .cat a b, h, n => by
    simp only [ReM.plain, Bool.and_eq_true] at h
    have h1 := bldM_in a h.1 n
    have h2 := bldM_in b h.2 (n + stM a)
    simp only [bldM, stM]; omega
  | .alt a b, h, n => by simp only [bldM, stM]; omega
  | .star a, h, n => by simp only [bldM, stM]; omega
  | .and_ _ _, h, _ => by cases h
  | .minus _ _, h, _ => by cases h
/-! ### the builder -/
def bdL (n : Nat) (v sub : Value) : List Value := [.int .i64 (n : Int), .int .i64 0, .int .i64 0, v, sub, .int .i64 0]
abbrev tBd : TypeId := 246
section
variable {B : Nat → Prop} {H0 H : Heap} {rest : List Pc} {bb n : Nat} {v sub : Value}
theorem bstate_v {K : Value → Heap → Prop} (st : StB B H0 H (pB tBd bb (bdL n v sub) :: rest)) (hn : n ≤ 2000000) (k : ∀ H', StB B H0 H' (pB tBd bb (bdL (n + 1) v sub) :: rest) → K (.int .i64 (n : Int)) H') :
    VCall Tryz.prog 175 #[.pointer (some ⟨bb, 0, none⟩)] H K := by
  refine VCall.mk (R := fun r H' => r = .int .i64 (n : Int) ∧ StB B H0 H' (pB tBd bb (bdL (n + 1) v sub) :: rest)) ?_ fun r H' ⟨h1, h2⟩ => by rw [h1]; exact k H' h2
  refine FnOk.of_vc Tryz.func175 rfl (Tryz.call175 _) ?_
  (conv => whnf); refine fa fl246_0 ?_
  (conv => whnf); refine fa fl76_0 ?_
  (conv => whnf); refine ld1 (v := .int .i64 (n : Int)) ct3 (by rw [(st.blk 0 rfl).cell]; rfl) trivial ?_
  (conv => whnf); rw [w64 (x := (n : Int) + 1) (by omega) (by omega)]
  (conv => whnf); refine fa fl246_0 ?_
  (conv => whnf); refine fa fl76_0 ?_
  (conv => whnf); refine st1B st 0 ct3 rfl (show 0 < 6 by decide) rfl fun H1 st1 => ?_
  (conv => whnf); refine fa fl246_0 ?_
  (conv => whnf); refine fa fl76_0 ?_
  (conv => whnf); refine ld1 (v := .int .i64 ((n : Int) + 1)) ct3 (by rw [(st1.blk 0 rfl).cell]; rfl) trivial ?_
  (conv => whnf); rw [w64 (x := (n : Int) + 1 - 1) (by omega) (by omega), show (n : Int) + 1 - 1 = (n : Int) by omega]
  (conv => whnf)
  exact ⟨rfl, st1⟩
theorem edge_ok {p q : Nat} (hp : p ≤ 2000000) (hq : q ≤ 2000000) (s : Bool) (t : BitVec 256) : (EdM.mk p q s t).Ok := ⟨inI64 (by omega), inI64 (by omega)⟩
theorem sil_build (p q : Nat) {S : Nat → Prop} {H : Heap} {K : Value → Prop} (k : K (.agg (edL (silE p q)).toArray)) :
    VDet Tryz.prog (Instr.build 174 [(0, .int .i64 (p : Int)), (1, .int .i64 (q : Int)), (2, .bool true)].toArray) S H K := by
  have e : edL (silE p q) = [.int .i64 (p : Int), .int .i64 (q : Int), .bool true, .int .u64 0, .int .u64 0, .int .u64 0, .int .u64 0] := by
    have h : ∀ i, wd 0#256 i = 0 := fun i => by unfold wd; simp
    simp [edL, silE, h]
  rw [e] at k
  exact vbuildS Tryz.underlying174 rfl _ edge_z _ (by kernel_rfl) k
theorem set_fill (x y : Int) (w0 w1 w2 w3 : Value) {S : Nat → Prop} {H : Heap} {K : Value → Prop} (h0 : w0.oneCell' = true) (h1 : w1.oneCell' = true) (h2 : w2.oneCell' = true) (h3 : w3.oneCell' = true) (k : K (.agg [.int .i64 x, .int .i64 y, .bool false, w0, w1, w2, w3].toArray)) :
    VDet Tryz.prog (Instr.build 174 [(0, .int .i64 x), (1, .int .i64 y), (3, .agg [w0, w1, w2, w3].toArray)].toArray) S H K :=
  vbuildS Tryz.underlying174 rfl _ edge_z [.int .i64 x, .int .i64 y, .bool false, w0, w1, w2, w3] (by kernel_rfl) k
theorem set_build (p q : Nat) (s : BitVec 256) {S : Nat → Prop} {H : Heap} {K : Value → Prop} (k : K (.agg (edL (setE p q s)).toArray)) :
    VDet Tryz.prog (Instr.build 174 [(0, .int .i64 (p : Int)), (1, .int .i64 (q : Int)), (3, .agg (setL s).toArray)].toArray) S H K := by
  unfold setE edL at k
  unfold setL
  exact set_fill _ _ _ _ _ _ rfl rfl rfl rfl k
theorem bsil_v {K : Value → Heap → Prop} {a : Option Addr} {c p q : Nat} {es : List EdM} (st : StB B H0 H (pB tBd bb (bdL n (.slice a es.length c) sub) :: pS tEd 174 a es.length c es :: rest)) (hp : p ≤ 2000000) (hq : q ≤ 2000000) (hl : es.length + 1 ≤ 4194304)
    (k : ∀ a' c' H', StB B H0 H' (pB tBd bb (bdL n (.slice a' (es ++ [silE p q]).length c') sub) :: pS tEd 174 a' (es ++ [silE p q]).length c' (es ++ [silE p q]) :: rest) → K (.tuple #[]) H') :
    VCall Tryz.prog 176 #[.pointer (some ⟨bb, 0, none⟩), .int .i64 (p : Int), .int .i64 (q : Int)] H K := by
  refine VCall.mk (R := fun r H' => r = .tuple #[] ∧ ∃ a' c', StB B H0 H' (pB tBd bb (bdL n (.slice a' (es ++ [silE p q]).length c') sub) :: pS tEd 174 a' (es ++ [silE p q]).length c' (es ++ [silE p q]) :: rest)) ?_ fun r H' ⟨h1, a', c', h2⟩ => by rw [h1]; exact k a' c' H' h2
  refine FnOk.of_vc Tryz.func176 rfl (Tryz.call176 _) ?_
  (conv => whnf); refine fa fl246_0 ?_
  (conv => whnf); refine fa fl76_3 ?_
  (conv => whnf); refine ld1 (v := .slice a es.length c) ct74 (by rw [(st.blk 0 rfl).cell]; rfl) trivial ?_
  (conv => whnf); refine sil_build p q ?_
  (conv => whnf); refine vbuild1 sl74 (edL (silE p q)) rfl rfl (by decide) (by decide) ?_
  intro y H1 hy hs1 hb1 ha1
  have st1 := st.skip hy ha1
  (conv => whnf); refine appO (ys := [silE p q]) st1 1 sl74 rfl (hb1.cells (o := 0) (cs := edL (silE p q)) fun j v hv => by rw [Nat.zero_add]; exact hv) (Ty.reps_one ⟨rfl, edge_ok hp hq _ _⟩) rfl (fun u hu => List.all_eq_true.1 (ed_ones _) u hu) (by simpa using hl) (by decide) fun a9 c9 H9 st9 _ => ?_
  (conv => whnf); refine fa fl246_0 ?_
  (conv => whnf); refine fa fl76_3 ?_
  (conv => whnf); refine st1B st9 0 ct74 rfl (show 3 < 6 by decide) rfl fun H10 st10 => ?_
  (conv => whnf)
  have el : es.length + [silE p q].length = (es ++ [silE p q]).length := by simp
  rw [el] at st10
  exact ⟨rfl, a9, c9, st10⟩
theorem btake_v {K : Value → Heap → Prop} {a : Option Addr} {c : Nat} {es : List EdM} {s : BitVec 256} (st : StB B H0 H (pB tBd bb (bdL n (.slice a es.length c) sub) :: pS tEd 174 a es.length c es :: rest)) (hn : n ≤ 1000000) (hl : es.length + 1 ≤ 4194304)
    (k : ∀ a' c' H', StB B H0 H' (pB tBd bb (bdL (n + 2) (.slice a' (es ++ [setE n (n + 1) s]).length c') sub) :: pS tEd 174 a' (es ++ [setE n (n + 1) s]).length c' (es ++ [setE n (n + 1) s]) :: rest) → K (.tuple #[.int .i64 (n : Int), .int .i64 ((n + 1 : Nat) : Int)]) H') :
    VCall Tryz.prog 177 #[.pointer (some ⟨bb, 0, none⟩), setV s] H K := by
  refine VCall.mk (R := fun r H' => r = .tuple #[.int .i64 (n : Int), .int .i64 ((n + 1 : Nat) : Int)] ∧ ∃ a' c', StB B H0 H' (pB tBd bb (bdL (n + 2) (.slice a' (es ++ [setE n (n + 1) s]).length c') sub) :: pS tEd 174 a' (es ++ [setE n (n + 1) s]).length c' (es ++ [setE n (n + 1) s]) :: rest)) ?_ fun r H' ⟨h1, a', c', h2⟩ => by rw [h1]; exact k a' c' H' h2
  refine FnOk.of_vc Tryz.func177 rfl (Tryz.call177 _) ?_
  (conv => whnf); refine vbox (setL s) rfl ?_
  intro x H1 hx hs1 hb1 ha1
  have st1 := (st.box hx hs1 hb1 ha1).perm (List.perm_append_singleton _ _)
  have st2 : StB B H0 H1 (pB tBd bb (bdL n (.slice a es.length c) sub) :: pB 101 x (setL s) :: pS tEd 174 a es.length c es :: rest) := st1.perm (List.Perm.swap _ _ _)
  (conv => whnf); refine bstate_v st2 (by omega) fun H3 st3 => ?_
  (conv => whnf); refine bstate_v st3 (by omega) fun H4 st4 => ?_
  have hdis := st4.apart2 (i := 0) (j := 2) rfl rfl (by decide)
  have hdis2 := st4.apart2 (i := 1) (j := 2) rfl rfl (by decide)
  (conv => whnf); refine VDraw.heldZ (fun k => k < H4.size ∧ ¬ slB (.slice a es.length c) k) [15] (sq [0,1,2,3,4,5,6,7,8,9] (.f 10 (.f 11 (sq [12,13,14] (.f 15 .e))))) rfl (by kernel_rfl) ?_
  have hb4 : bb < H4.size ∧ ¬ slB (.slice a es.length c) bb := ⟨(st4.in_ 0 rfl rfl).2, fun h => hdis bb rfl (.inl h)⟩
  have hx4 : x < H4.size ∧ ¬ slB (.slice a es.length c) x := ⟨(st4.in_ 1 rfl rfl).2, fun h => hdis2 x rfl (.inl h)⟩
  (conv => whnf); refine fa fl246_0 ?_
  (conv => whnf); refine fa fl76_3 ?_
  (conv => whnf); refine ld1 (v := .slice a es.length c) ct74 (by rw [(st4.blk 0 rfl).cell]; rfl) hb4 ?_
  (conv => whnf); refine ldN (cs := setL s) ag101 ((st4.blk 1 rfl).cells fun j v hv => by rw [Nat.zero_add]; exact hv) hx4 ?_
  (conv => whnf); refine set_build n (n + 1) s ?_
  (conv => whnf); refine vbuild1 sl74 (edL (setE n (n + 1) s)) rfl rfl (by decide) (by decide) ?_
  intro y H5 hy hs5 hb5 ha5
  have st5 := st4.skip hy ha5
  refine ⟨ha5.mono fun k hk => by have := hk.1; omega, ?_⟩
  (conv => whnf); refine appO (ys := [setE n (n + 1) s]) st5 2 sl74 rfl (hb5.cells (o := 0) (cs := edL (setE n (n + 1) s)) fun j v hv => by rw [Nat.zero_add]; exact hv) (Ty.reps_one ⟨rfl, edge_ok (by omega) (by omega) _ _⟩) rfl (fun u hu => List.all_eq_true.1 (ed_ones _) u hu) (by simpa using hl) (by decide) fun a9 c9 H9 st9 ha9 => ?_
  refine ⟨(ha5.mono fun k hk => by have := hk.1; omega).trans (ha9.mono fun k hk => ⟨by have := hk.1; omega, hk.2⟩), ?_⟩
  (conv => whnf); refine fa fl246_0 ?_
  (conv => whnf); refine fa fl76_3 ?_
  (conv => whnf); refine st1B st9 0 ct74 rfl (show 3 < 6 by decide) rfl fun H10 st10 => ?_
  (conv => whnf)
  have el : es.length + [setE n (n + 1) s].length = (es ++ [setE n (n + 1) s]).length := by simp
  rw [el] at st10
  exact ⟨rfl, a9, c9, (st10.perm (List.Perm.swap _ _ _)).sub (List.sublist_cons_self _ _)⟩
end
theorem node_z1 : (Tryz.prog.info? 98).bind (·.zero) = some (.agg #[]) := rfl
theorem node_z2 : (Tryz.prog.info? 104).bind (·.zero) = some (.agg #[.int .u64 0, .int .u64 0, .int .u64 0, .int .u64 0]) := rfl
theorem node_z3 : (Tryz.prog.info? 105).bind (·.zero) = some (.agg #[.nilIface, .nilIface]) := rfl
theorem node_z4 : (Tryz.prog.info? 305).bind (·.zero) = some (.agg #[.nilIface, .nilIface]) := rfl
theorem node_z5 : (Tryz.prog.info? 310).bind (·.zero) = some (.agg #[.nilIface]) := rfl
set_option maxHeartbeats 16000000 in
theorem part_c {B : Nat → Prop} {H0 : Heap} {bb : Nat} {sub : Value} : ∀ (r : ReM), r.plain = true → ∀ {H : Heap} {rest : List Pc} {n : Nat} {a : Option Addr} {c : Nat} {es : List EdM} (st : StB B H0 H (pB tBd bb (bdL n (.slice a es.length c) sub) :: pS tEd 174 a es.length c es :: rest)), n + stM r ≤ 1000000 → es.length + 2 * stM r ≤ 4000000 →
    FnOk Tryz.prog 138 #[.pointer (some ⟨bb, 0, none⟩), nodeV r] H fun v H' => v = .tuple #[.int .i64 ((bldM r n).1 : Nat), .int .i64 ((bldM r n).2.1 : Nat)] ∧ ∃ a' c', StB B H0 H' (pB tBd bb (bdL (n + stM r) (.slice a' (es ++ (bldM r n).2.2).length c') sub) :: pS tEd 174 a' (es ++ (bldM r n).2.2).length c' (es ++ (bldM r n).2.2) :: rest) := fun r => by
  induction r with
  | eps =>
    intro hpl H rest n a c es st hn hl
    simp only [stM] at hn hl
    refine FnOk.of_vc Tryz.func138 rfl (Tryz.call138 _) ?_
    (conv => whnf); refine fa fl246_2 ?_
    (conv => whnf); refine ld1 (v := .int .i64 0) ct24 (by rw [(st.blk 0 rfl).cell]; rfl) trivial ?_
    (conv => whnf); refine vta_yes Tryz.underlying98 (by intro ms h; cases h) ?_
    (conv => whnf); refine valloc (.agg #[]) [] rfl rfl ?_
    intro x H1 hx hs1 hb1 ha1
    have st1 : StB B H0 H1 (pB 98 x [] :: pB tBd bb (bdL n (.slice a es.length c) sub) :: pS tEd 174 a es.length c es :: rest) := (st.box hx hs1 hb1 ha1).perm (List.perm_append_singleton _ _)
    (conv => whnf); refine stNB (cs := []) st1 0 rfl rfl (Nat.le_refl _) rfl fun H2 st2 => ?_
    have st3 : StB B H0 H2 (pB tBd bb (bdL n (.slice a es.length c) sub) :: pS tEd 174 a es.length c es :: rest) := st2.sub (List.sublist_cons_self _ _)
    (conv => whnf); refine bstate_v st3 (by omega) fun H4 st4 => ?_
    (conv => whnf); refine bstate_v st4 (by omega) fun H5 st5 => ?_
    (conv => whnf); refine bsil_v st5 (by omega) (by omega) (by omega) fun a' c' H6 st6 => ?_
    (conv => whnf)
    exact ⟨rfl, a', c', st6⟩
  | cls s =>
    intro hpl H rest n a c es st hn hl
    simp only [stM] at hn hl
    refine FnOk.of_vc Tryz.func138 rfl (Tryz.call138 _) ?_
    (conv => whnf); refine fa fl246_2 ?_
    (conv => whnf); refine ld1 (v := .int .i64 0) ct24 (by rw [(st.blk 0 rfl).cell]; rfl) trivial ?_
    (conv => whnf); refine vta_no Tryz.underlying98 (by intro ms h; cases h) node_z1 (by decide) ?_
    (conv => whnf); refine vta_yes Tryz.underlying104 (by intro ms h; cases h) ?_
    (conv => whnf); refine valloc _ [.int .u64 0, .int .u64 0, .int .u64 0, .int .u64 0] node_z2 rfl ?_
    intro x H1 hx hs1 hb1 ha1
    have st1 : StB B H0 H1 (pB 104 x [.int .u64 0, .int .u64 0, .int .u64 0, .int .u64 0] :: pB tBd bb (bdL n (.slice a es.length c) sub) :: pS tEd 174 a es.length c es :: rest) := (st.box hx hs1 hb1 ha1).perm (List.perm_append_singleton _ _)
    (conv => whnf); refine stNB (cs := setL s) st1 0 rfl rfl (Nat.le_refl _) rfl fun H2 st2 => ?_
    rw [splice_all (show (setL s).length = 4 from rfl)] at st2
    (conv => whnf); refine fa fl104_0 ?_
    (conv => whnf); refine ldN (cs := setL s) ag101 ((st2.blk 0 rfl).cells fun j v hv => by simpa using hv) trivial ?_
    have st3 : StB B H0 H2 (pB tBd bb (bdL n (.slice a es.length c) sub) :: pS tEd 174 a es.length c es :: rest) := st2.sub (List.sublist_cons_self _ _)
    (conv => whnf); refine btake_v st3 (by omega) (by omega) fun a' c' H4 st4 => ?_
    (conv => whnf)
    exact ⟨rfl, a', c', st4⟩
  | cat r1 r2 ih1 ih2 =>
    intro hpl H rest n a c es st hn hl
    simp only [ReM.plain, Bool.and_eq_true] at hpl
    simp only [stM] at hn hl
    have l1 := bldM_len r1 hpl.1 n
    have l2 := bldM_len r2 hpl.2 (n + stM r1)
    have i1 := bldM_in r1 hpl.1 n
    have i2 := bldM_in r2 hpl.2 (n + stM r1)
    refine FnOk.of_vc Tryz.func138 rfl (Tryz.call138 _) ?_
    (conv => whnf); refine fa fl246_2 ?_
    (conv => whnf); refine ld1 (v := .int .i64 0) ct24 (by rw [(st.blk 0 rfl).cell]; rfl) trivial ?_
    (conv => whnf); refine vta_no Tryz.underlying98 (by intro ms h; cases h) node_z1 (by decide) ?_
    (conv => whnf); refine vta_no Tryz.underlying104 (by intro ms h; cases h) node_z2 (by decide) ?_
    (conv => whnf); refine vta_yes Tryz.underlying105 (by intro ms h; cases h) ?_
    (conv => whnf); refine valloc _ [.nilIface, .nilIface] node_z3 rfl ?_
    intro x H1 hx hs1 hb1 ha1
    have st1 : StB B H0 H1 (pB 105 x [.nilIface, .nilIface] :: pB tBd bb (bdL n (.slice a es.length c) sub) :: pS tEd 174 a es.length c es :: rest) := (st.box hx hs1 hb1 ha1).perm (List.perm_append_singleton _ _)
    (conv => whnf); refine stNB (cs := [nodeV r1, nodeV r2]) st1 0 rfl rfl (Nat.le_refl _) (by simp [nodeV_one]) fun H2 st2 => ?_
    rw [splice_all (show [nodeV r1, nodeV r2].length = 2 from rfl)] at st2
    (conv => whnf); refine fa fl105_0 ?_
    (conv => whnf); refine ld1 (v := nodeV r1) ct28 (by rw [(st2.blk 0 rfl).cell]; rfl) trivial ?_
    have st3 : StB B H0 H2 (pB tBd bb (bdL n (.slice a es.length c) sub) :: pS tEd 174 a es.length c es :: pB 105 x [nodeV r1, nodeV r2] :: rest) := st2.pickN 3 [1, 2, 0] (by decide)
    (conv => whnf); refine VCall.mk (ih1 hpl.1 st3 (by omega) (by omega)) ?_
    rintro _ H4 ⟨rfl, a4, c4, st4⟩
    (conv => whnf); refine fa fl105_1 ?_
    (conv => whnf); refine ld1 (v := nodeV r2) ct28 (by rw [(st4.blk 2 rfl).cell]; rfl) trivial ?_
    (conv => whnf); refine VCall.mk (ih2 hpl.2 st4 (by omega) (by rw [List.length_append]; omega)) ?_
    rintro _ H5 ⟨rfl, a5, c5, st5⟩
    (conv => whnf); refine bsil_v st5 (by omega) (by omega) (by rw [List.length_append, List.length_append]; omega) fun a6 c6 H6 st6 => ?_
    (conv => whnf)
    have e1 : es ++ (bldM r1 n).2.2 ++ (bldM r2 (n + stM r1)).2.2 ++ [silE (bldM r1 n).2.1 (bldM r2 (n + stM r1)).1] = es ++ (bldM (.cat r1 r2) n).2.2 := by simp [bldM]
    rw [e1, Nat.add_assoc] at st6
    exact ⟨rfl, a6, c6, st6.pickN 3 [0, 1] (by decide)⟩
  | alt r1 r2 ih1 ih2 =>
    intro hpl H rest n a c es st hn hl
    simp only [ReM.plain, Bool.and_eq_true] at hpl
    simp only [stM] at hn hl
    have l1 := bldM_len r1 hpl.1 (n + 1)
    have l2 := bldM_len r2 hpl.2 (n + 1 + stM r1)
    have i1 := bldM_in r1 hpl.1 (n + 1)
    have i2 := bldM_in r2 hpl.2 (n + 1 + stM r1)
    refine FnOk.of_vc Tryz.func138 rfl (Tryz.call138 _) ?_
    (conv => whnf); refine fa fl246_2 ?_
    (conv => whnf); refine ld1 (v := .int .i64 0) ct24 (by rw [(st.blk 0 rfl).cell]; rfl) trivial ?_
    (conv => whnf); refine vta_no Tryz.underlying98 (by intro ms h; cases h) node_z1 (by decide) ?_
    (conv => whnf); refine vta_no Tryz.underlying104 (by intro ms h; cases h) node_z2 (by decide) ?_
    (conv => whnf); refine vta_no Tryz.underlying105 (by intro ms h; cases h) node_z3 (by decide) ?_
    (conv => whnf); refine vta_yes Tryz.underlying305 (by intro ms h; cases h) ?_
    (conv => whnf); refine valloc _ [.nilIface, .nilIface] node_z4 rfl ?_
    intro x H1 hx hs1 hb1 ha1
    have st1 : StB B H0 H1 (pB 305 x [.nilIface, .nilIface] :: pB tBd bb (bdL n (.slice a es.length c) sub) :: pS tEd 174 a es.length c es :: rest) := (st.box hx hs1 hb1 ha1).perm (List.perm_append_singleton _ _)
    (conv => whnf); refine stNB (cs := [nodeV r1, nodeV r2]) st1 0 rfl rfl (Nat.le_refl _) (by simp [nodeV_one]) fun H2 st2 => ?_
    rw [splice_all (show [nodeV r1, nodeV r2].length = 2 from rfl)] at st2
    have st3 : StB B H0 H2 (pB tBd bb (bdL n (.slice a es.length c) sub) :: pS tEd 174 a es.length c es :: pB 305 x [nodeV r1, nodeV r2] :: rest) := st2.pickN 3 [1, 2, 0] (by decide)
    (conv => whnf); refine bstate_v st3 (by omega) fun H4 st4 => ?_
    (conv => whnf); refine fa fl305_0 ?_
    (conv => whnf); refine ld1 (v := nodeV r1) ct28 (by rw [(st4.blk 2 rfl).cell]; rfl) trivial ?_
    (conv => whnf); refine VCall.mk (ih1 hpl.1 st4 (by omega) (by omega)) ?_
    rintro _ H5 ⟨rfl, a5, c5, st5⟩
    (conv => whnf); refine fa fl305_1 ?_
    (conv => whnf); refine ld1 (v := nodeV r2) ct28 (by rw [(st5.blk 2 rfl).cell]; rfl) trivial ?_
    (conv => whnf); refine VCall.mk (ih2 hpl.2 st5 (by omega) (by rw [List.length_append]; omega)) ?_
    rintro _ H6 ⟨rfl, a6, c6, st6⟩
    (conv => whnf); refine bstate_v st6 (by omega) fun H7 st7 => ?_
    (conv => whnf); refine bsil_v st7 (by omega) (by omega) (by simp only [List.length_append]; omega) fun a8 c8 H8 st8 => ?_
    (conv => whnf); refine bsil_v st8 (by omega) (by omega) (by simp only [List.length_append, List.length_cons, List.length_nil]; omega) fun a9 c9 H9 st9 => ?_
    (conv => whnf); refine bsil_v st9 (by omega) (by omega) (by simp only [List.length_append, List.length_cons, List.length_nil]; omega) fun a10 c10 H10 st10 => ?_
    (conv => whnf); refine bsil_v st10 (by omega) (by omega) (by simp only [List.length_append, List.length_cons, List.length_nil]; omega) fun a11 c11 H11 st11 => ?_
    (conv => whnf)
    have e1 : es ++ (bldM r1 (n + 1)).2.2 ++ (bldM r2 (n + 1 + stM r1)).2.2 ++ [silE n (bldM r1 (n + 1)).1] ++ [silE n (bldM r2 (n + 1 + stM r1)).1] ++ [silE (bldM r1 (n + 1)).2.1 (n + 1 + stM r1 + stM r2)] ++ [silE (bldM r2 (n + 1 + stM r1)).2.1 (n + 1 + stM r1 + stM r2)] = es ++ (bldM (.alt r1 r2) n).2.2 := by simp [bldM]
    rw [e1, show n + 1 + stM r1 + stM r2 + 1 = n + stM (.alt r1 r2) by simp only [stM]; omega] at st11
    exact ⟨rfl, a11, c11, st11.pickN 3 [0, 1] (by decide)⟩
  | star r1 ih1 =>
    intro hpl H rest n a c es st hn hl
    have hpl1 : r1.plain = true := hpl
    simp only [stM] at hn hl
    have l1 := bldM_len r1 hpl1 (n + 1)
    have i1 := bldM_in r1 hpl1 (n + 1)
    refine FnOk.of_vc Tryz.func138 rfl (Tryz.call138 _) ?_
    (conv => whnf); refine fa fl246_2 ?_
    (conv => whnf); refine ld1 (v := .int .i64 0) ct24 (by rw [(st.blk 0 rfl).cell]; rfl) trivial ?_
    (conv => whnf); refine vta_no Tryz.underlying98 (by intro ms h; cases h) node_z1 (by decide) ?_
    (conv => whnf); refine vta_no Tryz.underlying104 (by intro ms h; cases h) node_z2 (by decide) ?_
    (conv => whnf); refine vta_no Tryz.underlying105 (by intro ms h; cases h) node_z3 (by decide) ?_
    (conv => whnf); refine vta_no Tryz.underlying305 (by intro ms h; cases h) node_z4 (by decide) ?_
    (conv => whnf); refine vta_yes Tryz.underlying310 (by intro ms h; cases h) ?_
    (conv => whnf); refine valloc _ [.nilIface] node_z5 rfl ?_
    intro x H1 hx hs1 hb1 ha1
    have st1 : StB B H0 H1 (pB 310 x [.nilIface] :: pB tBd bb (bdL n (.slice a es.length c) sub) :: pS tEd 174 a es.length c es :: rest) := (st.box hx hs1 hb1 ha1).perm (List.perm_append_singleton _ _)
    (conv => whnf); refine stNB (cs := [nodeV r1]) st1 0 rfl rfl (Nat.le_refl _) (by simp [nodeV_one]) fun H2 st2 => ?_
    rw [splice_all (show [nodeV r1].length = 1 from rfl)] at st2
    have st3 : StB B H0 H2 (pB tBd bb (bdL n (.slice a es.length c) sub) :: pS tEd 174 a es.length c es :: pB 310 x [nodeV r1] :: rest) := st2.pickN 3 [1, 2, 0] (by decide)
    (conv => whnf); refine bstate_v st3 (by omega) fun H4 st4 => ?_
    (conv => whnf); refine fa fl310_0 ?_
    (conv => whnf); refine ld1 (v := nodeV r1) ct28 (by rw [(st4.blk 2 rfl).cell]; rfl) trivial ?_
    (conv => whnf); refine VCall.mk (ih1 hpl1 st4 (by omega) (by omega)) ?_
    rintro _ H5 ⟨rfl, a5, c5, st5⟩
    (conv => whnf); refine bstate_v st5 (by omega) fun H7 st7 => ?_
    (conv => whnf); refine bsil_v st7 (by omega) (by omega) (by simp only [List.length_append]; omega) fun a8 c8 H8 st8 => ?_
    (conv => whnf); refine bsil_v st8 (by omega) (by omega) (by simp only [List.length_append, List.length_cons, List.length_nil]; omega) fun a9 c9 H9 st9 => ?_
    (conv => whnf); refine bsil_v st9 (by omega) (by omega) (by simp only [List.length_append, List.length_cons, List.length_nil]; omega) fun a10 c10 H10 st10 => ?_
    (conv => whnf); refine bsil_v st10 (by omega) (by omega) (by simp only [List.length_append, List.length_cons, List.length_nil]; omega) fun a11 c11 H11 st11 => ?_
    (conv => whnf)
    have e1 : es ++ (bldM r1 (n + 1)).2.2 ++ [silE n (bldM r1 (n + 1)).1] ++ [silE n (n + 1 + stM r1)] ++ [silE (bldM r1 (n + 1)).2.1 (bldM r1 (n + 1)).1] ++ [silE (bldM r1 (n + 1)).2.1 (n + 1 + stM r1)] = es ++ (bldM (.star r1) n).2.2 := by simp [bldM]
    rw [e1, show n + 1 + stM r1 + 1 = n + stM (.star r1) by simp only [stM]; omega] at st11
    exact ⟨rfl, a11, c11, st11.pickN 3 [0, 1] (by decide)⟩
  | and_ => intro h; cases h
  | minus => intro h; cases h
end Go.Proofs.YtfbghcpdinlmcaaGreatDoor
/- The document's Begin, Go, Reach, Accepts of nondeterministic automata: the walks. -/
set_option linter.unusedVariables false
set_option linter.unusedSimpArgs false
set_option maxRecDepth 100000
namespace Go.VC
section
variable {α : Type} {T : Ty α} {e : TypeId} {a : Option Addr} {n cap : Nat} {xs ys : List α} {B S : Nat → Prop} {H0 H : Heap} {ps : List Pc}
end
end Go.VC
namespace Go.Proofs.YtfbghcpdinlmcaaGreatDoor
open Go.VC
/-! ### settled -/
/-- What has been gathered. -/
structure GthR (a : NfM) (L out : List Int) : Prop where
  nd : out.Nodup
  sub : ∀ q ∈ L, q ∈ out
  cl : ∀ q ∈ out, clS a (· ∈ L) q
end Go.Proofs.YtfbghcpdinlmcaaGreatDoor
/- The document's Reach and Accepts, nfa.Accepts: the walks. -/
set_option linter.unusedVariables false
set_option linter.unusedSimpArgs false
set_option maxRecDepth 100000
namespace Go.Proofs.YtfbghcpdinlmcaaGreatDoor
open Go.VC
/-! ### nfa.Accepts -/
end Go.Proofs.YtfbghcpdinlmcaaGreatDoor
/- Trees of texts; Size, Text, Build over trees without signs: the walks. -/
set_option linter.unusedVariables false
set_option linter.unusedSimpArgs false
set_option maxRecDepth 100000
namespace Go.Proofs.YtfbghcpdinlmcaaGreatDoor
open Go.VC
def nodeT : ReM → TypeId
  | .eps => 98
  | .cls _ => 104
  | .cat _ _ => 105
  | .alt _ _ => 305
  | .star _ => 310
  | .and_ _ _ => 64
  | .minus _ _ => 65
def nodeP : ReM → Value
  | .eps => .agg #[]
  | .cls s => setV s
  | .cat a b => .agg #[nodeV a, nodeV b]
  | .alt a b => .agg #[nodeV a, nodeV b]
  | .star a => .agg #[nodeV a]
  | .and_ a b => .agg #[nodeV a, nodeV b]
  | .minus a b => .agg #[nodeV a, nodeV b]
theorem nodeV_eq (r : ReM) : nodeV r = .iface (nodeT r) (nodeP r) := by cases r <;> rfl
def sizeF : ReM → FuncId
  | .eps => 271
  | .cls _ => 273
  | .cat _ _ => 275
  | .alt _ _ => 278
  | .star _ => 280
  | .and_ _ _ => 266
  | .minus _ _ => 269
theorem size_m (r : ReM) (w : World) : (callMethod (.iface (nodeT r) (nodeP r)) "Size" #[]).run Tryz.prog w = .ok (.enter (sizeF r) #[nodeP r]) w := by
  cases r with
  | eps => exact m_eps_size _ w
  | cls => exact m_cls_size _ w
  | cat => exact m_cat_size _ w
  | alt => exact m_alt_size _ w
  | star => exact m_star_size _ w
  | and_ => exact m_and_size _ w
  | minus => exact m_minus_size _ w
theorem sure_p (r : ReM) (H : Heap) : Pure Tryz.prog 267 #[nodeV r] H (.iface (nodeT r) (nodeP r)) := by
  rw [nodeV_eq]
  refine FnOk.of_vc Tryz.func267 rfl (Tryz.call267 _) ?_
  (conv => whnf); refine ifeq Tryz.underlying28 ?_
  (conv => whnf)
  exact ⟨rfl, Agr.refl _ _⟩
set_option maxHeartbeats 4000000 in
theorem size_p : ∀ (r : ReM), r.nodes ≤ 1000000000 → ∀ (H : Heap), Pure Tryz.prog (sizeF r) #[nodeP r] H (.int .i64 (r.nodes : Int)) := fun r => by
  induction r with
  | eps =>
    intro hn H
    refine FnOk.of_vc Tryz.func271 rfl (Tryz.call271 _) ?_
    (conv => whnf); refine vbox [] rfl ?_
    intro x H1 hx hs1 hb1 ha1
    have st1 := (St.nil H).box hx hs1 hb1 ha1
    (conv => whnf)
    exact ⟨rfl, st1.old⟩
  | cls s =>
    intro hn H
    refine FnOk.of_vc Tryz.func273 rfl (Tryz.call273 _) ?_
    (conv => whnf); refine vbox (setL s) rfl ?_
    intro x H1 hx hs1 hb1 ha1
    have st1 := (St.nil H).box hx hs1 hb1 ha1
    (conv => whnf)
    exact ⟨rfl, st1.old⟩
  | cat a b iha ihb =>
    intro hn H
    simp only [ReM.nodes] at hn
    refine FnOk.of_vc Tryz.func275 rfl (Tryz.call275 _) ?_
    (conv => whnf); refine vbox [nodeV a, nodeV b] rfl ?_
    intro x H1 hx hs1 hb1 ha1
    have st1 := (St.nil H).box hx hs1 hb1 ha1
    have hxl := hb1.lt
    (conv => whnf); refine VDraw.heldZ (Old H1) [] (sq [0,1,5,6] (.f 2 (.f 3 (sq [4] (.f 7 (.f 8 (sq [9] (.f 10 .e)))))))) rfl (by kernel_rfl) ?_
    (conv => whnf); refine fa fl105_0 ?_
    (conv => whnf); refine ld1 (v := nodeV a) ct28 (by rw [hb1.cell]; rfl) hxl ?_
    (conv => whnf); refine fa fl105_1 ?_
    (conv => whnf); refine ld1 (v := nodeV b) ct28 (by rw [hb1.cell]; rfl) hxl ?_
    (conv => whnf); refine pures (sure_p a H1) fun H2 ha2 => ?_
    refine ⟨ha2, ?_⟩
    (conv => whnf); refine VInv.mk (sizeF a) #[nodeP a] (size_m a) (iha (by omega) H2) ?_
    rintro _ H3 ⟨rfl, ha3⟩
    have h13 := ha2.trans (ha3.mono fun k hk => old_lt ha2 hk)
    refine ⟨h13, ?_⟩
    (conv => whnf); rw [w64 (x := 1 + (a.nodes : Int)) (by omega) (by omega)]
    (conv => whnf); refine pures (sure_p b H3) fun H4 ha4 => ?_
    have h14 := h13.trans (ha4.mono fun k hk => old_lt h13 hk)
    refine ⟨h14, ?_⟩
    (conv => whnf); refine VInv.mk (sizeF b) #[nodeP b] (size_m b) (ihb (by omega) H4) ?_
    rintro _ H5 ⟨rfl, ha5⟩
    have h15 := h14.trans (ha5.mono fun k hk => old_lt h14 hk)
    refine ⟨h15, ?_⟩
    (conv => whnf); rw [w64 (x := 1 + (a.nodes : Int) + (b.nodes : Int)) (by omega) (by omega)]
    refine ⟨h15, ?_⟩
    (conv => whnf)
    exact ⟨by simp only [ReM.nodes]; simp, st1.old.trans (h15.mono fun k hk => st1.up hk)⟩
  | alt a b iha ihb =>
    intro hn H
    simp only [ReM.nodes] at hn
    refine FnOk.of_vc Tryz.func278 rfl (Tryz.call278 _) ?_
    (conv => whnf); refine vbox [nodeV a, nodeV b] rfl ?_
    intro x H1 hx hs1 hb1 ha1
    have st1 := (St.nil H).box hx hs1 hb1 ha1
    have hxl := hb1.lt
    (conv => whnf); refine VDraw.heldZ (Old H1) [] (sq [0,1,5,6] (.f 2 (.f 3 (sq [4] (.f 7 (.f 8 (sq [9] (.f 10 .e)))))))) rfl (by kernel_rfl) ?_
    (conv => whnf); refine fa fl305_0 ?_
    (conv => whnf); refine ld1 (v := nodeV a) ct28 (by rw [hb1.cell]; rfl) hxl ?_
    (conv => whnf); refine fa fl305_1 ?_
    (conv => whnf); refine ld1 (v := nodeV b) ct28 (by rw [hb1.cell]; rfl) hxl ?_
    (conv => whnf); refine pures (sure_p a H1) fun H2 ha2 => ?_
    refine ⟨ha2, ?_⟩
    (conv => whnf); refine VInv.mk (sizeF a) #[nodeP a] (size_m a) (iha (by omega) H2) ?_
    rintro _ H3 ⟨rfl, ha3⟩
    have h13 := ha2.trans (ha3.mono fun k hk => old_lt ha2 hk)
    refine ⟨h13, ?_⟩
    (conv => whnf); rw [w64 (x := 1 + (a.nodes : Int)) (by omega) (by omega)]
    (conv => whnf); refine pures (sure_p b H3) fun H4 ha4 => ?_
    have h14 := h13.trans (ha4.mono fun k hk => old_lt h13 hk)
    refine ⟨h14, ?_⟩
    (conv => whnf); refine VInv.mk (sizeF b) #[nodeP b] (size_m b) (ihb (by omega) H4) ?_
    rintro _ H5 ⟨rfl, ha5⟩
    have h15 := h14.trans (ha5.mono fun k hk => old_lt h14 hk)
    refine ⟨h15, ?_⟩
    (conv => whnf); rw [w64 (x := 1 + (a.nodes : Int) + (b.nodes : Int)) (by omega) (by omega)]
    refine ⟨h15, ?_⟩
    (conv => whnf)
    exact ⟨by simp only [ReM.nodes]; simp, st1.old.trans (h15.mono fun k hk => st1.up hk)⟩
  | star a iha =>
    intro hn H
    simp only [ReM.nodes] at hn
    refine FnOk.of_vc Tryz.func280 rfl (Tryz.call280 _) ?_
    (conv => whnf); refine vbox [nodeV a] rfl ?_
    intro x H1 hx hs1 hb1 ha1
    have st1 := (St.nil H).box hx hs1 hb1 ha1
    (conv => whnf); refine fa fl310_0 ?_
    (conv => whnf); refine ld1 (v := nodeV a) ct28 (by rw [hb1.cell]; rfl) trivial ?_
    (conv => whnf); refine pures (sure_p a H1) fun H2 ha2 => ?_
    have st2 := st1.call ha2
    (conv => whnf); refine VInv.mk (sizeF a) #[nodeP a] (size_m a) (iha (by omega) H2) ?_
    rintro _ H3 ⟨rfl, ha3⟩
    have st3 := st2.call ha3
    (conv => whnf); rw [w64 (x := 1 + (a.nodes : Int)) (by omega) (by omega)]
    (conv => whnf)
    exact ⟨by simp only [ReM.nodes]; simp, st3.old⟩
  | and_ a b iha ihb =>
    intro hn H
    simp only [ReM.nodes] at hn
    refine FnOk.of_vc Tryz.func266 rfl (Tryz.call266 _) ?_
    (conv => whnf); refine vbox [nodeV a, nodeV b] rfl ?_
    intro x H1 hx hs1 hb1 ha1
    have st1 := (St.nil H).box hx hs1 hb1 ha1
    have hxl := hb1.lt
    (conv => whnf); refine VDraw.heldZ (Old H1) [] (sq [0,1,5,6] (.f 2 (.f 3 (sq [4] (.f 7 (.f 8 (sq [9] (.f 10 .e)))))))) rfl (by kernel_rfl) ?_
    (conv => whnf); refine fa fl64_0 ?_
    (conv => whnf); refine ld1 (v := nodeV a) ct28 (by rw [hb1.cell]; rfl) hxl ?_
    (conv => whnf); refine fa fl64_1 ?_
    (conv => whnf); refine ld1 (v := nodeV b) ct28 (by rw [hb1.cell]; rfl) hxl ?_
    (conv => whnf); refine pures (sure_p a H1) fun H2 ha2 => ?_
    refine ⟨ha2, ?_⟩
    (conv => whnf); refine VInv.mk (sizeF a) #[nodeP a] (size_m a) (iha (by omega) H2) ?_
    rintro _ H3 ⟨rfl, ha3⟩
    have h13 := ha2.trans (ha3.mono fun k hk => old_lt ha2 hk)
    refine ⟨h13, ?_⟩
    (conv => whnf); rw [w64 (x := 1 + (a.nodes : Int)) (by omega) (by omega)]
    (conv => whnf); refine pures (sure_p b H3) fun H4 ha4 => ?_
    have h14 := h13.trans (ha4.mono fun k hk => old_lt h13 hk)
    refine ⟨h14, ?_⟩
    (conv => whnf); refine VInv.mk (sizeF b) #[nodeP b] (size_m b) (ihb (by omega) H4) ?_
    rintro _ H5 ⟨rfl, ha5⟩
    have h15 := h14.trans (ha5.mono fun k hk => old_lt h14 hk)
    refine ⟨h15, ?_⟩
    (conv => whnf); rw [w64 (x := 1 + (a.nodes : Int) + (b.nodes : Int)) (by omega) (by omega)]
    refine ⟨h15, ?_⟩
    (conv => whnf)
    exact ⟨by simp only [ReM.nodes]; simp, st1.old.trans (h15.mono fun k hk => st1.up hk)⟩
  | minus a b iha ihb =>
    intro hn H
    simp only [ReM.nodes] at hn
    refine FnOk.of_vc Tryz.func269 rfl (Tryz.call269 _) ?_
    (conv => whnf); refine vbox [nodeV a, nodeV b] rfl ?_
    intro x H1 hx hs1 hb1 ha1
    have st1 := (St.nil H).box hx hs1 hb1 ha1
    have hxl := hb1.lt
    (conv => whnf); refine VDraw.heldZ (Old H1) [] (sq [0,1,5,6] (.f 2 (.f 3 (sq [4] (.f 7 (.f 8 (sq [9] (.f 10 .e)))))))) rfl (by kernel_rfl) ?_
    (conv => whnf); refine fa fl65_0 ?_
    (conv => whnf); refine ld1 (v := nodeV a) ct28 (by rw [hb1.cell]; rfl) hxl ?_
    (conv => whnf); refine fa fl65_1 ?_
    (conv => whnf); refine ld1 (v := nodeV b) ct28 (by rw [hb1.cell]; rfl) hxl ?_
    (conv => whnf); refine pures (sure_p a H1) fun H2 ha2 => ?_
    refine ⟨ha2, ?_⟩
    (conv => whnf); refine VInv.mk (sizeF a) #[nodeP a] (size_m a) (iha (by omega) H2) ?_
    rintro _ H3 ⟨rfl, ha3⟩
    have h13 := ha2.trans (ha3.mono fun k hk => old_lt ha2 hk)
    refine ⟨h13, ?_⟩
    (conv => whnf); rw [w64 (x := 1 + (a.nodes : Int)) (by omega) (by omega)]
    (conv => whnf); refine pures (sure_p b H3) fun H4 ha4 => ?_
    have h14 := h13.trans (ha4.mono fun k hk => old_lt h13 hk)
    refine ⟨h14, ?_⟩
    (conv => whnf); refine VInv.mk (sizeF b) #[nodeP b] (size_m b) (ihb (by omega) H4) ?_
    rintro _ H5 ⟨rfl, ha5⟩
    have h15 := h14.trans (ha5.mono fun k hk => old_lt h14 hk)
    refine ⟨h15, ?_⟩
    (conv => whnf); rw [w64 (x := 1 + (a.nodes : Int) + (b.nodes : Int)) (by omega) (by omega)]
    refine ⟨h15, ?_⟩
    (conv => whnf)
    exact ⟨by simp only [ReM.nodes]; simp, st1.old.trans (h15.mono fun k hk => st1.up hk)⟩
/-! ### Build -/
theorem stM_nodes : ∀ r : ReM, stM r ≤ 2 * r.nodes
  | .eps => by simp [stM, ReM.nodes]
  | .cls _ => by simp [stM, ReM.nodes]
  | .cat a b => by have := stM_nodes a; have := stM_nodes b; simp only [stM, ReM.nodes]; omega
  | .alt a b => by have := stM_nodes a; have := stM_nodes b; simp only [stM, ReM.nodes]; omega
  | .star a => by have := stM_nodes a; simp only [stM, ReM.nodes]; omega
  | .and_ a b => by simp [stM]
  | .minus a b => by simp [stM]
def nfaOf (r : ReM) : NfM := ⟨(stM r : Int), ((bldM r 0).1 : Int), ((bldM r 0).2.1 : Int), (bldM r 0).2.2⟩
def zeroNf : Value := .agg #[.int .i64 0, .int .i64 0, .int .i64 0, .slice none 0 0]
/-- What Build of a plain tree answers. -/
def BldR (H H' : Heap) (r : ReM) (v : Value) : Prop := Agr (Old H) H H' ∧ if 2000 < r.nodes then v = .tuple #[zeroNf, .int .i64 24] else
  ∃ ea ec, v = .tuple #[.agg (nfL (nfaOf r) (.slice ea (nfaOf r).edges.length ec)).toArray, .int .i64 0] ∧ SlO tEd none_ H' H.size 174 (.slice ea (nfaOf r).edges.length ec) (nfaOf r).edges
theorem bd_z : (Tryz.prog.info? 246).bind (·.zero) = some (.agg #[.int .i64 0, .int .i64 0, .int .i64 0, .slice none 0 0, .nilFunc, .int .i64 0]) := rfl
/-! ### texts -/
def ofB (x : BitVec 256) (l : List Nat) : BitVec 256 := l.foldl (fun x b => x ||| BitVec.twoPow 256 b) x
set_option maxHeartbeats 4000000 in
theorem of_p (s : ByteArray) (hs : s.size ≤ 1048576) (H : Heap) : Pure Tryz.prog 48 #[.string s] H (setV (ofB 0#256 (byN s))) := by
  refine FnOk.of_vc Tryz.func48 rfl (Tryz.call48 _) ?_
  (conv => whnf); refine valloc (setV 0) (setL 0) rfl rfl ?_
  intro r H1 hr hs1 hb1 ha1
  have st1 := (St.nil H).box hr hs1 hb1 ha1
  (conv => whnf); refine valloc (setV 0) (setL 0) rfl rfl ?_
  intro p H2 hp hs2 hb2 ha2
  have st2 := st1.box hp hs2 hb2 ha2
  (conv => whnf)
  refine VLoop.mk [7] (fun i : Nat => [.int .i64 (i : Int)]) (fun i H3 => i ≤ s.size ∧ St H H3 [pB 101 r (setL 0), pB 101 p (setL (ofB 0#256 ((byN s).take i)))]) (fun i _ => s.size - i) ?_ ?_
  · (conv => whnf)
    exact ⟨0, rfl, Nat.zero_le _, st2⟩
  · rintro i H3 junk ⟨hi, st3⟩
    (conv => whnf); refine VIte.mk (fun h => ?_) (fun h => ?_) <;> simp only [decide_eq_true_eq, decide_eq_false_iff_not] at h
    · obtain ⟨c, hc⟩ := getB (s := s) (k := i) (by omega)
      obtain ⟨b, hb⟩ : ∃ b, b = c.toNat := ⟨_, rfl⟩
      have hb256 : b < 256 := by rw [hb]; exact UInt8.toNat_lt c
      obtain ⟨x, hx⟩ : ∃ x, x = ofB 0#256 ((byN s).take i) := ⟨_, rfl⟩
      have hnext : ofB 0#256 ((byN s).take (i + 1)) = x ||| BitVec.twoPow 256 b := by
        rw [take_succ_snoc (byN_get hc), hx, hb]
        unfold ofB
        rw [List.foldl_append]
        rfl
      rw [← hx] at st3
      have hbp := st3.blk 1 rfl
      have hpl := (st3.in_ 1 rfl rfl).2
      (conv => whnf); refine VDraw.heldZ (Old H3) [13] (sq [0,1,2,3,4,5,6,7,8,9,10,11,12] (.f 13 .e)) rfl (by kernel_rfl) ?_
      (conv => whnf); refine vidxs Tryz.underlying9 rfl hc ?_
      rw [← hb]
      (conv => whnf); refine vshr (b := 6) (by decide) ?_
      (conv => whnf); refine ixa ar101 (by omega) (by omega) ?_
      (conv => whnf); refine ld1 ct99 (v := .int .u64 (wd x (b / 64))) (by rw [hbp.cell, Nat.zero_add, Nat.mul_one]; exact setL_get x b (by omega)) hpl ?_
      (conv => whnf); refine vidxs Tryz.underlying9 rfl hc ?_
      rw [← hb]
      (conv => whnf); refine vand (b := 63) (inU8 hb256) (inU8 (by decide)) ?_
      have hpow : 2 ^ (b % 64) < 2 ^ 64 := Nat.pow_lt_pow_right (by decide) (by omega)
      rw [and63]
      have hin : inK .u64 ((1 * 2 ^ (b % 64) : Nat) : Int) := inU64 (by omega)
      (conv => whnf); refine vshl (a := 1) (by simp [IntKind.bits]; omega) hin ?_
      (conv => whnf); refine vor (wd_in x _) hin ?_
      (conv => whnf); refine ixa ar101 (by omega) (by omega) ?_
      (conv => whnf); refine st1B st3 1 ct99 rfl (by simp [setL]; omega) rfl fun H4 st4 => ?_
      (conv => whnf); rw [w64 (x := (i : Int) + 1) (by omega) (by omega)]
      refine ⟨rfl, i + 1, by simp, ⟨by omega, ?_⟩, by omega⟩
      rw [hnext, ← setL_put x b (by omega)]
      rw [Nat.zero_add, Nat.mul_one, Nat.one_mul] at st4
      exact st4
    · obtain rfl : i = s.size := by omega
      rw [List.take_of_length_le (by rw [byN_len]; exact Nat.le_refl _)] at st3
      generalize ofB 0#256 (byN s) = x at *
      (conv => whnf); refine ldN (cs := setL x) ag101 ((st3.blk 1 rfl).cells fun j v hv => by rw [Nat.zero_add]; exact hv) trivial ?_
      (conv => whnf); refine stNB (cs := setL x) st3 0 rfl rfl (Nat.le_refl _) rfl fun H4 st4 => ?_
      rw [splice_all (show (setL x).length = (setL 0).length from rfl)] at st4
      (conv => whnf); refine ldN (cs := setL x) ag101 ((st4.blk 0 rfl).cells fun j v hv => by rw [Nat.zero_add]; exact hv) trivial ?_
      exact ⟨rfl, st4.old⟩
def oneS (b : Nat) : BitVec 256 := ofB 0#256 [b]
def textR : List Nat → ReM
  | [] => .eps
  | b :: l => l.foldl (fun r c => .cat r (.cls (oneS c))) (.cls (oneS b))
theorem textR_snoc {l : List Nat} (h : l ≠ []) (c : Nat) : textR (l ++ [c]) = .cat (textR l) (.cls (oneS c)) := by
  cases l with
  | nil => exact absurd rfl h
  | cons b l => simp [textR, List.foldl_append]
theorem textR_plain (l : List Nat) : (textR l).plain = true := by
  cases l with
  | nil => rfl
  | cons b l =>
    unfold textR
    have key : ∀ (l : List Nat) (r : ReM), r.plain = true → (l.foldl (fun r c => ReM.cat r (.cls (oneS c))) r).plain = true := by
      intro l
      induction l with
      | nil => exact fun r h => h
      | cons c l ih => exact fun r h => ih _ (by simp [ReM.plain, h])
    exact key l _ rfl
def textV (l : List Nat) : Value := match l with | [] => .nilIface | _ => nodeV (textR l)
theorem ext_one {s : ByteArray} {i : Nat} {c : UInt8} (h : s.data[i]? = some c) : byN (s.extract i (i + 1)) = [c.toNat] := by
  have hi := (Array.getElem?_eq_some_iff.1 h).1
  unfold byN
  rw [ByteArray.data_extract, Array.toList_extract, List.extract_eq_take_drop]
  have : (s.data.toList.drop i).take (i + 1 - i) = [c] := by
    rw [show i + 1 - i = 1 by omega]
    have h2 : s.data.toList[i]? = some c := by rw [Array.getElem?_toList]; exact h
    obtain ⟨h3, h4⟩ := List.getElem?_eq_some_iff.1 h2
    rw [List.drop_eq_getElem_cons h3, h4]
    rfl
  rw [this]
  rfl
set_option maxHeartbeats 8000000 in
theorem text_p (s : ByteArray) (hs : s.size ≤ 1048576) (H : Heap) : Pure Tryz.prog 15 #[.string s] H (nodeV (textR (byN s))) := by
  refine FnOk.of_vc Tryz.func15 rfl (Tryz.call15 _) ?_
  have hbl := byN_len s
  by_cases he : s.size = 0
  · have hnil : byN s = [] := List.eq_nil_of_length_eq_zero (by omega)
    have hse : s = ⟨#[]⟩ := text_inj (by
      have : s.data.toList = [] := List.eq_nil_of_length_eq_zero (by rw [Array.length_toList]; exact he)
      rw [this])
    have d0 : (s.toList == (⟨#[]⟩ : ByteArray).toList) = true := by rw [hse]; simp
    (conv => whnf); rw [d0]
    (conv => whnf); refine vbuildS Tryz.underlying98 rfl _ node_z1 [] rfl ?_
    (conv => whnf)
    exact ⟨by rw [hnil]; rfl, Agr.refl _ _⟩
  · have d0 : (s.toList == (⟨#[]⟩ : ByteArray).toList) = false := by
      cases h : (s.toList == (⟨#[]⟩ : ByteArray).toList) with
      | false => rfl
      | true =>
        rw [text_eq] at h
        rw [h] at he
        exact absurd rfl he
    (conv => whnf); rw [d0]
    (conv => whnf)
    refine VLoop.mk [3, 12] (fun i : Nat => [textV ((byN s).take i), .int .i64 (i : Int)]) (fun i H2 => i ≤ s.size ∧ St H H2 []) (fun i _ => s.size - i) ?_ ?_
    · (conv => whnf)
      exact ⟨0, rfl, Nat.zero_le _, St.nil H⟩
    · rintro i H2 junk ⟨hi, st2⟩
      (conv => whnf); refine VIte.mk (fun hz => ?_) (fun hz => ?_) <;> simp only [decide_eq_true_eq, decide_eq_false_iff_not] at hz
      · obtain ⟨c, hc⟩ := getB (s := s) (k := i) (by omega)
        have w1 : IntKind.wrap .i64 ((i : Int) + 1) = ((i + 1 : Nat) : Int) := by rw [w64 (by omega) (by omega)]; omega
        (conv => whnf); refine VSeq.run ?_
        (conv => whnf); rw [w1]
        (conv => whnf); refine vcutS (l := (i : Int)) (h := ((i + 1 : Nat) : Int)) Tryz.underlying9 (by omega) (by omega) (by omega) ?_
        rw [Int.toNat_natCast, Int.toNat_natCast]
        (conv => whnf); refine pures (of_p (s.extract i (i + 1)) (by simp; omega) H2) fun H3 ha3 => ?_
        have st3 := st2.call ha3
        rw [ext_one hc]
        (conv => whnf); refine vbuildS Tryz.underlying104 rfl _ node_z2 (setL (oneS c.toNat)) (by unfold setL; kernel_rfl) ?_
        (conv => whnf); refine valloc _ [.int .u64 0, .int .u64 0, .int .u64 0, .int .u64 0] node_z2 rfl ?_
        intro x H4 hx hs4 hb4 ha4
        have st4 := st3.box hx hs4 hb4 ha4
        (conv => whnf); refine stNB (cs := setL (oneS c.toNat)) st4 0 rfl rfl (Nat.le_refl _) rfl fun H5 st5 => ?_
        rw [splice_all (show (setL (oneS c.toNat)).length = 4 from rfl)] at st5
        have htk := take_succ_snoc (byN_get hc)
        have hb5 : Cells H5 x 0 (setL (oneS c.toNat)) := (st5.blk 0 rfl).cells fun j v hv => by rw [Nat.zero_add]; exact hv
        by_cases hi0 : i = 0
        · subst hi0
          (conv => whnf); refine ifeqN Tryz.underlying28 ?_
          (conv => whnf); refine ldN (cs := setL (oneS c.toNat)) ag104 hb5 trivial ?_
          (conv => whnf); rw [w1]
          refine ⟨rfl, 0 + 1, ?_, ⟨by omega, st5.pick [] (by decide)⟩, by omega⟩
          rw [htk]
          rfl
        · have hne : (byN s).take i ≠ [] := fun e => by
            have h := congrArg List.length e
            rw [List.length_take, hbl, List.length_nil] at h
            omega
          have htv : textV ((byN s).take i) = .iface (nodeT (textR ((byN s).take i))) (nodeP (textR ((byN s).take i))) := by
            rw [← nodeV_eq]
            cases h : (byN s).take i with
            | nil => exact absurd h hne
            | cons b l => rfl
          have htv2 : textV ((byN s).take (i + 1)) = .iface 105 (.agg #[.iface (nodeT (textR ((byN s).take i))) (nodeP (textR ((byN s).take i))), .iface 104 (setV (oneS c.toNat))]) := by
            have : textV ((byN s).take (i + 1)) = nodeV (textR ((byN s).take (i + 1))) := by
              cases h : (byN s).take (i + 1) with
              | nil =>
                have h9 := congrArg List.length h
                rw [List.length_take, hbl, List.length_nil] at h9
                omega
              | cons b l => rfl
            rw [this, htk, textR_snoc hne, ← nodeV_eq]
            rfl
          rw [htv]
          generalize nodeT (textR ((byN s).take i)) = NT at *
          generalize nodeP (textR ((byN s).take i)) = NP at *
          (conv => whnf); refine ifeq Tryz.underlying28 ?_
          (conv => whnf); refine ldN (cs := setL (oneS c.toNat)) ag104 hb5 trivial ?_
          (conv => whnf); refine vbuildS Tryz.underlying105 rfl _ node_z3 [.iface NT NP, .iface 104 (setV (oneS c.toNat))] rfl ?_
          (conv => whnf); rw [w1]
          refine ⟨rfl, i + 1, ?_, ⟨by omega, st5.pick [] (by decide)⟩, by omega⟩
          rw [htv2]
      · obtain rfl : i = s.size := by omega
        (conv => whnf)
        rw [List.take_of_length_le (by rw [hbl]; exact Nat.le_refl _)]
        refine ⟨?_, st2.old⟩
        cases h : byN s with
        | nil => rw [h] at hbl; simp at hbl; omega
        | cons b l => rfl
end Go.Proofs.YtfbghcpdinlmcaaGreatDoor
/- The automaton of a plain text: its sets of states. Plain law. -/
set_option linter.unusedVariables false
set_option linter.unusedSimpArgs false
set_option maxRecDepth 100000
namespace Go.Proofs.YtfbghcpdinlmcaaGreatDoor
open Go.VC
theorem oneS_bit {c b : Nat} (hb : b < 256) : (oneS c).getLsbD b = decide (b = c) := by
  unfold oneS ofB
  simp only [List.foldl_cons, List.foldl_nil]
  rw [BitVec.getLsbD_or, BitVec.getLsbD_twoPow]
  rw [Bool.eq_iff_iff]
  simp
  constructor
  · rintro ⟨-, h⟩; exact h.symm
  · rintro rfl; exact ⟨hb, rfl⟩
/-- The edges of a text's automaton. -/
theorem text_edges : ∀ (l : List Nat), l ≠ [] → stM (textR l) = 2 * l.length ∧ (bldM (textR l) 0).1 = 0 ∧ (bldM (textR l) 0).2.1 = 2 * l.length - 1 ∧
    ∀ e, e ∈ (bldM (textR l) 0).2.2 ↔ (∃ (i c : Nat), l[i]? = some c ∧ e = setE (2 * i) (2 * i + 1) (oneS c)) ∨ ∃ i : Nat, i + 1 < l.length ∧ e = silE (2 * i + 1) (2 * i + 2) := fun l => by
  induction l using snocInd with
  | h0 => exact fun h => absurd rfl h
  | hs l c ih =>
    intro _
    by_cases hl : l = []
    · subst hl
      refine ⟨rfl, rfl, rfl, fun e => ?_⟩
      show e ∈ [setE 0 1 (oneS c)] ↔ _
      rw [List.mem_singleton]
      constructor
      · rintro rfl
        exact .inl ⟨0, c, rfl, rfl⟩
      · rintro (⟨i, d, h1, rfl⟩ | ⟨i, h1, rfl⟩)
        · have := (List.getElem?_eq_some_iff.1 h1).1
          obtain rfl : i = 0 := by simpa using this
          cases h1
          rfl
        · simp at h1
    · obtain ⟨h1, h2, h3, h4⟩ := ih hl
      have hpos : 0 < l.length := List.length_pos_iff.2 hl
      rw [textR_snoc hl]
      refine ⟨?_, ?_, ?_, fun e => ?_⟩
      · show stM (textR l) + 2 = _
        rw [h1, List.length_append, List.length_singleton]; omega
      · exact h2
      · show 0 + stM (textR l) + 1 = _
        rw [h1, List.length_append, List.length_singleton]; omega
      · show e ∈ (bldM (textR l) 0).2.2 ++ [setE (0 + stM (textR l)) (0 + stM (textR l) + 1) (oneS c)] ++ [silE (bldM (textR l) 0).2.1 (0 + stM (textR l))] ↔ _
        rw [List.mem_append, List.mem_append, List.mem_singleton, List.mem_singleton, h4, h1, h3, Nat.zero_add]
        constructor
        · rintro (((⟨i, d, k1, rfl⟩ | ⟨i, k1, rfl⟩) | rfl) | rfl)
          · exact .inl ⟨i, d, by rw [List.getElem?_append_left (List.getElem?_eq_some_iff.1 k1).1]; exact k1, rfl⟩
          · exact .inr ⟨i, by rw [List.length_append]; omega, rfl⟩
          · exact .inl ⟨l.length, c, by simp, rfl⟩
          · refine .inr ⟨l.length - 1, by rw [List.length_append, List.length_singleton]; omega, ?_⟩
            rw [show 2 * (l.length - 1) + 1 = 2 * l.length - 1 by omega, show 2 * (l.length - 1) + 2 = 2 * l.length by omega]
        · rintro (⟨i, d, k1, rfl⟩ | ⟨i, k1, rfl⟩)
          · by_cases hi : i < l.length
            · rw [List.getElem?_append_left hi] at k1
              exact .inl (.inl (.inl ⟨i, d, k1, rfl⟩))
            · have := (List.getElem?_eq_some_iff.1 k1).1
              rw [List.length_append, List.length_singleton] at this
              obtain rfl : i = l.length := by omega
              simp at k1
              subst k1
              exact .inl (.inr rfl)
          · rw [List.length_append, List.length_singleton] at k1
            by_cases hi : i + 1 < l.length
            · exact .inl (.inl (.inr ⟨i, hi, rfl⟩))
            · obtain rfl : i = l.length - 1 := by omega
              refine .inr ?_
              rw [show 2 * (l.length - 1) + 1 = 2 * l.length - 1 by omega, show 2 * (l.length - 1) + 2 = 2 * l.length by omega]
/-- The states behind i bytes of a text of n. -/
def txS (n i : Nat) : PS := fun q => if n = 0 then q = 0 ∨ q = 1 else (0 < i ∧ q = 2 * (i : Int) - 1) ∨ (i < n ∧ q = 2 * (i : Int))
noncomputable def txL (n i : Nat) : List Int := lstS (txS n i)
theorem txS_rng {n i : Nat} (hn : n ≤ 30000) (hi : i ≤ n) : ∀ q, txS n i q → 0 ≤ q ∧ q < 65536 := fun q h => by
  unfold txS at h
  split at h
  · omega
  · omega
theorem txL_mem {n i : Nat} (hn : n ≤ 30000) (hi : i ≤ n) (q : Int) : q ∈ txL n i ↔ txS n i q := lstS_mem (txS_rng hn hi) q
theorem txL_ne {n i j : Nat} (hn : n ≤ 30000) (hi : i < j) (hj : j ≤ n) : txL n i ≠ txL n j := fun e => by
  have h1 : (2 * (i : Int)) ∈ txL n i := (txL_mem hn (by omega) _).2 (by unfold txS; rw [if_neg (by omega)]; exact .inr ⟨by omega, rfl⟩)
  rw [e, txL_mem hn hj] at h1
  unfold txS at h1
  rw [if_neg (by omega)] at h1
  omega
theorem txL_nil {n i : Nat} (hn : n ≤ 30000) (hi : i ≤ n) : txL n i ≠ [] := fun e => by
  have h1 : ∃ q, q ∈ txL n i := by
    by_cases h0 : n = 0
    · exact ⟨0, (txL_mem hn hi _).2 (by unfold txS; rw [if_pos h0]; exact .inl rfl)⟩
    · by_cases h : i < n
      · exact ⟨2 * (i : Int), (txL_mem hn hi _).2 (by unfold txS; rw [if_neg h0]; exact .inr ⟨h, rfl⟩)⟩
      · exact ⟨2 * (i : Int) - 1, (txL_mem hn hi _).2 (by unfold txS; rw [if_neg h0]; exact .inl ⟨by omega, rfl⟩)⟩
  obtain ⟨q, hq⟩ := h1
  rw [e] at hq
  cases hq
section
variable {l : List Nat}
theorem text_nil : nfaOf (textR []) = ⟨2, 0, 1, [silE 0 1]⟩ := rfl
theorem text_st (hl : l ≠ []) : (nfaOf (textR l)).st = 2 * (l.length : Int) := by
  show ((stM (textR l) : Nat) : Int) = _
  rw [(text_edges l hl).1]; omega
theorem text_has (hn : l.length ≤ 30000) {q : Int} : (nfaOf (textR l)).has q = true ↔ 0 ≤ q ∧ q < if l = [] then 2 else 2 * (l.length : Int) := by
  rw [NfM.has_iff]
  by_cases hl : l = []
  · subst hl
    rw [text_nil]
    simp
  · rw [text_st hl, if_neg hl]
    constructor
    · rintro ⟨h1, h2, -⟩; exact ⟨h1, h2⟩
    · rintro ⟨h1, h2⟩; exact ⟨h1, h2, by omega⟩
theorem text_edge (hl : l ≠ []) (e : EdM) : e ∈ (nfaOf (textR l)).edges ↔ (∃ (i c : Nat), l[i]? = some c ∧ e = setE (2 * i) (2 * i + 1) (oneS c)) ∨ ∃ i : Nat, i + 1 < l.length ∧ e = silE (2 * i + 1) (2 * i + 2) := (text_edges l hl).2.2.2 e
theorem text_beg (hn : l.length ≤ 30000) (q : Int) : begS (nfaOf (textR l)) q ↔ txS l.length 0 q := by
  by_cases hl : l = []
  · subst hl
    unfold txS
    rw [if_pos (show ([] : List Nat).length = 0 from rfl)]
    constructor
    · refine clS_least (Y := fun q => q = 0 ∨ q = 1) (fun q h => .inl h.1) (fun e he hs ht h => ?_) q
      rw [text_nil, List.mem_singleton] at he
      subst he
      exact .inr rfl
    · have h0 : begS (nfaOf (textR [])) 0 := clS_in ⟨rfl, (text_has (by simp)).2 (by decide)⟩
      rintro (rfl | rfl)
      · exact h0
      · exact clS_shut _ _ (silE 0 1) (List.mem_singleton.2 rfl) rfl ((text_has (by simp)).2 (by decide)) h0
  · have hpos : 0 < l.length := List.length_pos_iff.2 hl
    have h0 : (nfaOf (textR l)).start = 0 := by
      show (((bldM (textR l) 0).1 : Nat) : Int) = 0
      rw [(text_edges l hl).2.1]; rfl
    unfold txS
    rw [if_neg (by omega)]
    constructor
    · intro h
      refine .inr ⟨hpos, ?_⟩
      refine clS_least (Y := fun q => q = 2 * ((0 : Nat) : Int)) (fun q h => by rw [h.1, h0]; rfl) (fun e he hs ht h => ?_) q h
      rcases (text_edge hl e).1 he with ⟨i, c, -, rfl⟩ | ⟨i, -, rfl⟩
      · cases hs
      · have h : ((2 * i + 1 : Nat) : Int) = 2 * ((0 : Nat) : Int) := h
        omega
    · rintro (⟨h, -⟩ | ⟨-, rfl⟩)
      · omega
      · exact clS_in ⟨by rw [h0]; rfl, by rw [h0]; exact (text_has hn).2 ⟨Int.le_refl _, by rw [if_neg hl]; omega⟩⟩
theorem text_go (hn : l.length ≤ 30000) (hb8 : ∀ c ∈ l, c < 256) {i b : Nat} (hi : i ≤ l.length) (hb : b < 256) (q : Int) : goS (nfaOf (textR l)) (txS l.length i) b q ↔ l[i]? = some b ∧ txS l.length (i + 1) q := by
  by_cases hl : l = []
  · subst hl
    simp only [List.getElem?_nil, reduceCtorEq, false_and, iff_false]
    intro h
    refine clS_least (Y := fun _ => False) (fun q h => ?_) (fun e he hs ht h => h) q h
    obtain ⟨e, he, hs, -⟩ := h
    rw [text_nil, List.mem_singleton] at he
    subst he
    cases hs
  · have hpos : 0 < l.length := List.length_pos_iff.2 hl
    have hle := text_edge hl
    constructor
    · intro h
      refine clS_least (Y := fun q => l[i]? = some b ∧ txS l.length (i + 1) q) (fun q h => ?_) (fun e he hs ht h => ?_) q h
      · obtain ⟨e, he, hs, hbit, hX, hh, rfl⟩ := h
        rcases (hle e).1 he with ⟨j, c, hj, rfl⟩ | ⟨j, -, rfl⟩
        · have hbit : (oneS c).getLsbD b = true := hbit
          rw [oneS_bit hb, decide_eq_true_eq] at hbit
          subst hbit
          unfold txS at hX
          rw [if_neg (by omega)] at hX
          have hX : (0 < i ∧ ((2 * j : Nat) : Int) = 2 * (i : Int) - 1) ∨ (i < l.length ∧ ((2 * j : Nat) : Int) = 2 * (i : Int)) := hX
          obtain rfl : j = i := by omega
          refine ⟨hj, ?_⟩
          unfold txS
          rw [if_neg (by omega)]
          refine .inl ⟨by omega, ?_⟩
          show ((2 * j + 1 : Nat) : Int) = 2 * ((j + 1 : Nat) : Int) - 1
          omega
        · cases hs
      · obtain ⟨h1, h2⟩ := h
        refine ⟨h1, ?_⟩
        rcases (hle e).1 he with ⟨j, c, hj, rfl⟩ | ⟨j, hj, rfl⟩
        · cases hs
        · unfold txS at h2 ⊢
          rw [if_neg (by omega)] at h2 ⊢
          have h2 : (0 < i + 1 ∧ ((2 * j + 1 : Nat) : Int) = 2 * ((i + 1 : Nat) : Int) - 1) ∨ (i + 1 < l.length ∧ ((2 * j + 1 : Nat) : Int) = 2 * ((i + 1 : Nat) : Int)) := h2
          obtain rfl : j = i := by omega
          refine .inr ⟨hj, ?_⟩
          show ((2 * j + 2 : Nat) : Int) = 2 * ((j + 1 : Nat) : Int)
          omega
    · rintro ⟨h1, h2⟩
      have hil := (List.getElem?_eq_some_iff.1 h1).1
      have hto : (nfaOf (textR l)).has (((2 * i + 1 : Nat) : Int)) = true := (text_has hn).2 ⟨by omega, by rw [if_neg hl]; omega⟩
      have hbase : goS (nfaOf (textR l)) (txS l.length i) b (((2 * i + 1 : Nat) : Int)) := clS_in ⟨setE (2 * i) (2 * i + 1) (oneS b), (hle _).2 (.inl ⟨i, b, h1, rfl⟩), rfl, by
        show (oneS b).getLsbD b = true
        rw [oneS_bit hb]; simp, by
        show txS l.length i (((2 * i : Nat) : Int))
        unfold txS
        rw [if_neg (by omega)]
        exact .inr ⟨hil, by omega⟩, hto, rfl⟩
      unfold txS at h2
      rw [if_neg (by omega)] at h2
      rcases h2 with ⟨-, h2⟩ | ⟨h3, h2⟩
      · rw [h2, show 2 * ((i + 1 : Nat) : Int) - 1 = ((2 * i + 1 : Nat) : Int) by omega]
        exact hbase
      · rw [h2, show 2 * ((i + 1 : Nat) : Int) = ((2 * i + 2 : Nat) : Int) by omega]
        exact clS_shut _ _ (silE (2 * i + 1) (2 * i + 2)) ((hle _).2 (.inr ⟨i, h3, rfl⟩)) rfl ((text_has hn).2 ⟨by
          show (0 : Int) ≤ ((2 * i + 2 : Nat) : Int); omega, by
          show ((2 * i + 2 : Nat) : Int) < _
          rw [if_neg hl]; omega⟩) hbase
theorem text_begL (hn : l.length ≤ 30000) : begL (nfaOf (textR l)) = txL l.length 0 := by
  show lstS _ = lstS _
  rw [show begS (nfaOf (textR l)) = txS l.length 0 from funext fun q => propext (text_beg hn q)]
theorem text_step (hn : l.length ≤ 30000) (hb8 : ∀ c ∈ l, c < 256) {i b : Nat} (hi : i ≤ l.length) (hb : b < 256) : stepA (nfaOf (textR l)) (txL l.length i) b = if l[i]? = some b then txL l.length (i + 1) else [] := by
  unfold stepA
  have e : (fun q => q ∈ txL l.length i) = txS l.length i := funext fun q => propext (txL_mem hn hi q)
  rw [e]
  have e2 : goS (nfaOf (textR l)) (txS l.length i) b = fun q => l[i]? = some b ∧ txS l.length (i + 1) q := funext fun q => propext (text_go hn hb8 hi hb q)
  rw [e2]
  split
  · rename_i h
    unfold txL
    congr 1
    funext q
    exact propext ⟨fun h => h.2, fun h' => ⟨h, h'⟩⟩
  · rename_i h
    unfold lstS
    rw [List.filter_eq_nil_iff]
    intro q _
    simp [h]
theorem nil_step (a : NfM) (b : Nat) : stepA a [] b = [] := by
  have h : ∀ q, goS a (fun q => q ∈ ([] : List Int)) b q → False := clS_least (Y := fun _ => False) (fun q ⟨e, _, _, _, hx, _⟩ => by cases hx) fun e _ _ _ h => h
  rw [List.eq_nil_iff_forall_not_mem]
  intro q hq
  exact h q ((lstS_mem (has_rng (goS_has a _ b)) q).1 hq)
end
theorem nodup_sub {K : Type} [DecidableEq K] : ∀ {L M : List K}, L.Nodup → (∀ x ∈ L, x ∈ M) → L.length ≤ M.length
  | [], M, _, _ => Nat.zero_le _
  | x :: L, M, hn, h => by
    have h1 := List.nodup_cons.1 hn
    have h2 := nodup_sub (M := M.erase x) h1.2 fun y hy => (List.mem_erase_of_ne fun e : y = x => h1.1 (by rw [← e]; exact hy)).2 (h y (by simp [hy]))
    have h3 := h x (by simp)
    have h4 := List.length_erase_of_mem h3
    have h5 := List.length_pos_of_mem h3
    rw [List.length_cons]
    omega
/-- All sets that words lead to. -/
noncomputable def txAll (n : Nat) : List (List Int) := [] :: (List.range (n + 1)).map (txL n)
theorem txAll_len (n : Nat) : (txAll n).length = n + 2 := by simp [txAll]
theorem txAll_nd {n : Nat} (hn : n ≤ 30000) : (txAll n).Nodup := by
  unfold txAll
  refine List.nodup_cons.2 ⟨fun h => ?_, ?_⟩
  · obtain ⟨i, hi, e⟩ := List.mem_map.1 h
    have := List.mem_range.1 hi
    exact txL_nil hn (by omega) e
  · unfold List.Nodup
    rw [List.pairwise_map]
    refine List.pairwise_iff_getElem.2 fun i j hi hj hij => ?_
    rw [List.length_range] at hi hj
    rw [List.getElem_range, List.getElem_range]
    exact txL_ne hn hij (by omega)
theorem txAll_in {n i : Nat} (hi : i ≤ n) : txL n i ∈ txAll n := List.mem_cons_of_mem _ (List.mem_map.2 ⟨i, List.mem_range.2 (by omega), rfl⟩)
section
variable {l : List Nat}
theorem txAll_step (hn : l.length ≤ 30000) (hb8 : ∀ c ∈ l, c < 256) {x : List Int} (hx : x ∈ txAll l.length) {b : Nat} (hb : b < 256) : stepA (nfaOf (textR l)) x b ∈ txAll l.length := by
  rcases List.mem_cons.1 hx with rfl | hx
  · rw [nil_step]; exact List.mem_cons_self
  · obtain ⟨i, hi, rfl⟩ := List.mem_map.1 hx
    have hi := List.mem_range.1 hi
    rw [text_step hn hb8 (by omega) hb]
    split
    · rename_i h
      have := (List.getElem?_eq_some_iff.1 h).1
      exact txAll_in (by omega)
    · exact List.mem_cons_self
end
end Go.Proofs.YtfbghcpdinlmcaaGreatDoor
/- dfa.Determinize with a budget that may not be: the walk. -/
set_option linter.unusedVariables false
set_option linter.unusedSimpArgs false
set_option maxRecDepth 100000
namespace Go.Proofs.YtfbghcpdinlmcaaGreatDoor
open Go.VC
theorem determinizeBad_p {S : Nat → Prop} {H : Heap} {v : Value} {a : NfM} {b : Int} (h : NfV S H v a) (hb : b < 1 ∨ 4096 < b) :
    Pure Tryz.prog 38 #[v, .int .i64 b] H (.tuple #[.pointer none, .int .i64 2]) := by
  refine FnOk.of_vc Tryz.func38 rfl (Tryz.call38 _) ?_
  (conv => whnf); refine nf_box h fun ea ec he0 h1 => ?_
  subst he0
  intro p H1 hp hs1 hb1 ha1
  have st1 := (St.nil H).box hp hs1 hb1 ha1
  by_cases hl : b < 1
  · have d1 : decide (b < (1 : Int)) = true := decide_eq_true hl
    (conv => whnf); rw [d1]
    (conv => whnf)
    exact ⟨rfl, st1.old⟩
  · have d1 : decide (b < (1 : Int)) = false := decide_eq_false hl
    have d2 : decide ((4096 : Int) < b) = true := decide_eq_true (by omega)
    (conv => whnf); rw [d1]
    (conv => whnf); rw [d2]
    (conv => whnf)
    exact ⟨rfl, st1.old⟩
end Go.Proofs.YtfbghcpdinlmcaaGreatDoor
/- Law 5: nets as automata: the walks of machine and doc. -/
set_option linter.unusedVariables false
set_option linter.unusedSimpArgs false
set_option maxRecDepth 100000
namespace Go.Proofs.YtfbghcpdinlmcaaGreatDoor
open Go.VC
end Go.Proofs.YtfbghcpdinlmcaaGreatDoor
/- Determinize of the program and of the document, for any budget: what the calls give. -/
set_option linter.unusedVariables false
set_option linter.unusedSimpArgs false
set_option maxRecDepth 100000
namespace Go.Proofs.YtfbghcpdinlmcaaGreatDoor
open Go.VC
attribute [local irreducible] mRun gRun atRun
/-- The error's number, or the sets. -/
noncomputable def detB (a : NfM) (b : Int) : Except Int (List (List Int)) := if b < 1 ∨ 4096 < b then .error 2 else match detN a b.toNat with
  | none => .error 40
  | some F => .ok F
theorem detB_bad {a : NfM} {b : Int} (h : b < 1 ∨ 4096 < b) : detB a b = .error 2 := by unfold detB; rw [if_pos h]
theorem detB_in {a : NfM} {b : Nat} (h1 : 1 ≤ b) (h2 : b ≤ 4096) : detB a (b : Int) = match detN a b with
  | none => .error 40
  | some F => .ok F := by
  unfold detB
  rw [if_neg (by omega), Int.toNat_natCast]
theorem detB_err {a : NfM} {b e : Int} (h : detB a b = .error e) : e ≠ 0 ∧ 0 ≤ e ∧ e ≤ 40 := by
  unfold detB at h
  split at h
  · injection h with h; omega
  · split at h
    · injection h with h; omega
    · cases h
end Go.Proofs.YtfbghcpdinlmcaaGreatDoor
/- nfa.BuildWith with a function; lang.start, Build, Need of plain trees: the walks. (Printed by mklg7.py.) -/
set_option linter.unusedVariables false
set_option linter.unusedSimpArgs false
set_option maxRecDepth 100000
namespace Go.Proofs.YtfbghcpdinlmcaaGreatDoor
open Go.VC
attribute [local irreducible] mRun gRun atRun
set_option maxHeartbeats 4000000 in
theorem buildWithF_c {f : FuncId} {first cap : Array Value} (r : ReM) (hpl : r.plain = true) (hb : r.nodes ≤ 1000000000) (H : Heap) : FnOk Tryz.prog 84 #[nodeV r, .func (.func f) first cap] H fun v H' => BldR H H' r v := by
  rw [nodeV_eq]
  refine FnOk.of_vc Tryz.func84 rfl (Tryz.call84 _) ?_
  (conv => whnf); refine valloc _ [.int .i64 0, .int .i64 0, .int .i64 0, .slice none 0 0] nfa_z rfl ?_
  intro y H1 hy hs1 hb1 ha1
  have st1 := (St.nil H).box hy hs1 hb1 ha1
  (conv => whnf); refine ifneq Tryz.underlying28 ?_
  (conv => whnf); refine VInv.mk (sizeF r) #[nodeP r] (size_m r) (size_p r hb H1) ?_
  rintro _ H2 ⟨rfl, ha2⟩
  have st2 := st1.call ha2
  by_cases hbig : 2000 < r.nodes
  · have d1 : decide ((2000 : Int) < (r.nodes : Int)) = true := decide_eq_true (by omega)
    (conv => whnf); rw [d1]
    (conv => whnf); refine vbuildS Tryz.underlying76 rfl _ nfa_z [.int .i64 0, .int .i64 0, .int .i64 0, .slice none 0 0] rfl ?_
    (conv => whnf); refine stNB (cs := [.int .i64 0, .int .i64 0, .int .i64 0, .slice none 0 0]) st2 0 rfl rfl (Nat.le_refl _) rfl fun H3 st3 => ?_
    (conv => whnf); refine ldN (cs := [.int .i64 0, .int .i64 0, .int .i64 0, .slice none 0 0]) ag76 ((st3.blk 0 rfl).cells fun j v hv => by rw [Nat.zero_add]; exact hv) trivial ?_
    (conv => whnf)
    exact ⟨st3.old, by rw [if_pos hbig]; rfl⟩
  · have d1 : decide ((2000 : Int) < (r.nodes : Int)) = false := decide_eq_false (by omega)
    have hst := stM_nodes r
    have hin := bldM_in r hpl 0
    (conv => whnf); rw [d1]
    (conv => whnf); refine vbuildS Tryz.underlying246 rfl _ bd_z (bdL 0 (.slice none 0 0) (.func (.func f) first cap)) (by kernel_rfl) ?_
    (conv => whnf); refine vbox (bdL 0 (.slice none 0 0) (.func (.func f) first cap)) rfl ?_
    intro bb H3 hbb hs3 hb3 ha3
    have st3 : St H H3 (pB tBd bb (bdL 0 (.slice none 0 0) (.func (.func f) first cap)) :: pS tEd 174 none 0 0 [] :: [pB 76 y [.int .i64 0, .int .i64 0, .int .i64 0, .slice none 0 0]]) := ((st2.box hbb hs3 hb3 ha3).nils tEd 174).pick [1, 2, 0] (by decide)
    have hp := part_c (sub := (.func (.func f) first cap)) (n := 0) (es := []) r hpl st3 (by omega) (by simp only [List.length_nil]; omega)
    rw [nodeV_eq] at hp
    (conv => whnf); refine VCall.mk hp ?_
    rintro _ H4 ⟨rfl, a4, c4, st4⟩
    rw [List.nil_append, Nat.zero_add] at st4
    (conv => whnf); refine fa fl246_0 ?_
    (conv => whnf); refine fa fl76_1 ?_
    (conv => whnf); refine st1B st4 0 ct3 rfl (show 1 < 6 by decide) rfl fun H5 st5 => ?_
    (conv => whnf); refine fa fl246_0 ?_
    (conv => whnf); refine fa fl76_2 ?_
    (conv => whnf); refine st1B st5 0 ct3 rfl (show 2 < 6 by decide) rfl fun H6 st6 => ?_
    (conv => whnf); refine fa fl246_2 ?_
    (conv => whnf); refine ld1 (v := .int .i64 0) ct24 (by rw [(st6.blk 0 rfl).cell]; rfl) trivial ?_
    (conv => whnf); refine fa fl246_0 ?_
    (conv => whnf); refine fa fl76_0 ?_
    (conv => whnf); refine ld1 (v := .int .i64 (stM r : Int)) ct3 (by rw [(st6.blk 0 rfl).cell]; rfl) trivial ?_
    have d2 : decide ((65536 : Int) < (stM r : Int)) = false := decide_eq_false (by omega)
    (conv => whnf); rw [d2]
    (conv => whnf); refine fa fl246_0 ?_
    have hc6 : Cells H6 bb 0 (nfL (nfaOf r) (.slice a4 (nfaOf r).edges.length c4)) := (st6.blk 0 rfl).cells fun j v hv => by
      rw [Nat.zero_add]
      match j, hv with
      | 0, hv => exact hv
      | 1, hv => exact hv
      | 2, hv => exact hv
      | 3, hv => exact hv
    (conv => whnf); refine ldN (cs := nfL (nfaOf r) (.slice a4 (nfaOf r).edges.length c4)) ag76 hc6 trivial ?_
    (conv => whnf); refine stNB (cs := nfL (nfaOf r) (.slice a4 (nfaOf r).edges.length c4)) st6 2 rfl rfl (Nat.le_refl _) rfl fun H7 st7 => ?_
    rw [splice_all (show (nfL (nfaOf r) (.slice a4 (nfaOf r).edges.length c4)).length = 4 from rfl)] at st7
    (conv => whnf); refine ldN (cs := nfL (nfaOf r) (.slice a4 (nfaOf r).edges.length c4)) ag76 ((st7.blk 2 rfl).cells fun j v hv => by rw [Nat.zero_add]; exact hv) trivial ?_
    (conv => whnf)
    exact ⟨st7.old, by rw [if_neg hbig]; exact ⟨a4, c4, rfl, St.own st7 1 rfl⟩⟩
theorem nf_rng2 {r : ReM} (hpl : r.plain = true) (hn : r.nodes ≤ 2000) : (nfaOf r).Rng ∧ (nfaOf r).edges.length ≤ 1048576 := by
  have hst := stM_nodes r
  have hin := bldM_in r hpl 0
  have hlen := bldM_len r hpl 0
  refine ⟨⟨inI64 (by omega), inI64 (by omega), inI64 (by omega)⟩, ?_⟩
  show (bldM r 0).2.2.length ≤ _
  omega
/-- Determinize, with where its automaton comes from. -/
theorem detPm_c {S : Nat → Prop} {H : Heap} {v : Value} {a : NfM} {b : Int} (hS : ∀ k, S k → k < H.size) (h : NfV S H v a) (hpow : PowH Tryz.prog H) :
    FnOk Tryz.prog 38 #[v, .int .i64 b] H fun r H' => Agr (Old H) H H' ∧ match detB a b with
      | .error e => r = .tuple #[.pointer none, .int .i64 e]
      | .ok F => ∃ v, r = .tuple #[v, .int .i64 0] ∧ ∃ (o : AM), AutoV (fun k => H.size ≤ k ∧ k < H'.size) H' v (some o) ∧ Leads5 a F (stepM (some o)) (finM (some o)) ∧ stN (some o) = F.length ∧ IsMade (some o) := by
  by_cases hb : b < 1 ∨ 4096 < b
  · rw [detB_bad hb]
    exact (determinizeBad_p h hb).mono fun r H' ⟨h1, h2⟩ => ⟨h2, h1⟩
  · obtain ⟨m, rfl⟩ := Int.eq_ofNat_of_zero_le (show 0 ≤ b by omega)
    rw [detB_in (by omega) (by omega)]
    refine (determinize_c hS h hpow (budget := m) (by omega) (by omega)).mono fun r H' ⟨h1, h2⟩ => ⟨h1, ?_⟩
    have hA := detA a (most := m) (by omega)
    cases hd : detF m (stepA a) (repsM (setsA a)) (begL a) with
    | none =>
      rw [hd] at h2 hA
      rw [← hA]
      exact h2
    | some q =>
      obtain ⟨F, rows⟩ := q
      rw [hd] at h2 hA
      rw [← hA]
      obtain ⟨v', rfl, hv⟩ := h2
      obtain ⟨k1, k2, k3⟩ := autoA (by omega) (by omega) hd
      rw [k1, if_pos rfl] at hv
      exact ⟨v', rfl, _, hv, k2, k3, ⟨_, _, _, by
        unfold autoOf
        rw [List.length_map, if_pos k1]⟩⟩
theorem st1Blk {P : Program} {t e mb o : Nat} {v : Value} {l : List Value} {H : Heap} {K : Heap → Prop} (hb : Blk H mb e l) (ht : CellT P t) (ho : o < l.length) (hv : v.oneCell' = true)
    (k : ∀ H', Blk H' mb e (l.set o v) → Agr (fun k => k < H.size ∧ k ≠ mb) H H' → H'.size = H.size → K H') : VEffU P (Instr.storeAt t (.pointer (some ⟨mb, o, none⟩)) v) H K := by
  refine VC.st1 ht hb ho hv ?_
  intro H' hb' ha' hs'
  exact k H' hb' (ha'.mono fun k hk => hk.2) hs'
def mkL (b m : Int) : List Value := [.int .i64 b, .int .i64 m]
theorem mk_z : (Tryz.prog.info? 216).bind (·.zero) = some (.agg (mkL 0 0).toArray) := by kernel_rfl
/-- What start answers of a plain tree. -/
def StartR (r : ReM) (b : Int) (H' : Heap) (R : Value) : Prop :=
  if b < 1 ∨ 4096 < b then R = .tuple #[.pointer none, .int .i64 0, .int .i64 2] else
  if 2000 < r.nodes then R = .tuple #[.pointer none, .int .i64 0, .int .i64 24] else
  match detB (nfaOf r) b with
  | .error e => R = .tuple #[.pointer none, .int .i64 0, .int .i64 e]
  | .ok F => ∃ v o, R = .tuple #[v, .int .i64 (F.length : Int), .int .i64 0] ∧ AutoV (Old H') H' v (some o) ∧ Leads5 (nfaOf r) F (stepM (some o)) (finM (some o)) ∧ stN (some o) = F.length ∧ IsMade (some o)
set_option maxHeartbeats 8000000 in
theorem mbuild_c (r : ReM) (hpl : r.plain = true) (hn : r.nodes ≤ 2000) {H : Heap} {mb : Nat} {b : Int} (st : St H H []) (hmb : Blk H mb 216 (mkL b 0)) (hpow : PowH Tryz.prog H) :
    FnOk Tryz.prog 114 #[.pointer (some ⟨mb, 0, none⟩), nodeV r] H fun R H' => Agr (fun k => k < H.size ∧ k ≠ mb) H H' ∧ H.size ≤ H'.size ∧ match detB (nfaOf r) b with
      | .error e => R = .tuple #[.pointer none, .int .i64 e]
      | .ok F => Blk H' mb 216 (mkL b (F.length : Int)) ∧ ∃ v o, R = .tuple #[v, .int .i64 0] ∧ AutoV (fun k => H.size ≤ k ∧ k < H'.size) H' v (some o) ∧ Leads5 (nfaOf r) F (stepM (some o)) (finM (some o)) ∧ stN (some o) = F.length ∧ IsMade (some o) := by
  have hml := hmb.lt
  have hof : ∀ {H' : Heap}, Agr (Old H) H H' → Agr (fun k => k < H.size ∧ k ≠ mb) H H' := fun h => h.mono fun k hk => hk.1
  refine FnOk.of_vc Tryz.func114 rfl (Tryz.call114 _) ?_
  (conv => whnf); refine VCall.mk (buildWithF_c r hpl (by omega) H) ?_
  rintro _ H2 ⟨ha2, hv⟩
  rw [if_neg (by omega)] at hv
  obtain ⟨ea, ec, rfl, hown⟩ := hv
  obtain ⟨ea', ec', e2, st2⟩ := st.got ha2 hown
  injection e2 with e21 e22 e23
  subst e21; subst e23
  (conv => whnf); refine valloc _ [.int .i64 0, .int .i64 0, .int .i64 0, .slice none 0 0] nfa_z rfl ?_
  intro p H3 hp hs3 hb3 ha3
  have st3 := st2.box hp hs3 hb3 ha3
  (conv => whnf); refine stNB (cs := nfL (nfaOf r) (.slice ea (nfaOf r).edges.length ec)) st3 1 rfl rfl (Nat.le_refl _) rfl fun H4 st4 => ?_
  rw [splice_all (show (nfL (nfaOf r) (.slice ea (nfaOf r).edges.length ec)).length = 4 from rfl)] at st4
  have hb := st4.blk 1 rfl
  obtain ⟨hr, hl⟩ := nf_rng2 hpl hn
  have hm4 := hmb.agr st4.old hml
  have hSm : ∀ {G : Heap}, Agr (Old H4) H4 G → Agr (fun k => k < H4.size ∧ k ≠ mb) H4 G := fun h => h.mono fun k hk => hk.1
  have hA4 : ∀ {G : Heap}, Agr (fun k => k < H4.size ∧ k ≠ mb) H4 G → Agr (fun k => k < H.size ∧ k ≠ mb) H G := fun h => (st4.old.mono fun k hk => hk.1).trans (h.mono fun k hk => ⟨old_lt st4.old hk.1, hk.2⟩)
  have hsz4 : H.size ≤ H4.size := old_size st4.old
  (conv => whnf); refine VDraw.heldZ (fun k => k < H4.size ∧ k ≠ mb) [] (sq [0,1,2,3,4] (.f 5 (.f 6 (sq [7,8] (.f 9 (sq [10,11,12] (.f 13 .e))))))) rfl (by kernel_rfl) ?_
  have hpm : p ≠ mb := by
    have := St.ge st4 1 rfl (show (pB 76 p _).foot p from rfl)
    omega
  (conv => whnf); refine nf_load hr hl hb ag76 ⟨hb.lt, hpm⟩ (st4.view 0 rfl) fun v5 hv5 => ?_
  (conv => whnf); refine VC.fa fl216_0 ?_
  (conv => whnf); refine ld1 (v := .int .i64 b) ct3 (by rw [hm4.cell]; rfl) trivial ?_
  refine ⟨Agr.refl _ _, ?_⟩
  (conv => whnf); refine VCall.mk (detPm_c (b := b) (S := Old H4) (fun k hk => hk) hv5 (hpow.agr st4.old)) ?_
  rintro r5 H5 ⟨ha5, hr5⟩
  have hm5 := hm4.agr ha5 hm4.lt
  refine ⟨hSm ha5, ?_⟩
  cases hd : detB (nfaOf r) b with
  | error e =>
    rw [hd] at hr5
    simp only at hr5
    subst hr5
    have he := (detB_err hd).1
    have d1 : (e == 0) = false := beq_eq_false_iff_ne.2 he
    (conv => whnf); refine VCall.mk (R := fun R G => R = .tuple #[.pointer none, .int .i64 e] ∧ G = H5) (FnOk.of_vc Tryz.func161 rfl (Tryz.call161 _) (by
      (conv => whnf); refine VSeq.run ?_
      (conv => whnf); rw [d1]
      (conv => whnf)
      exact ⟨rfl, rfl⟩)) ?_
    rintro _ _ ⟨rfl, rfl⟩
    refine ⟨hSm ha5, ?_⟩
    (conv => whnf)
    refine ⟨hSm ha5, ?_⟩
    (conv => whnf)
    exact ⟨hA4 (hSm ha5), by have := old_size ha5; omega, rfl⟩
  | ok F =>
    rw [hd] at hr5
    obtain ⟨v6, rfl, o, hv6, hL, hN, hMd⟩ := hr5
    have hF := hv6.steps
    have hF1 := hF.n2
    have d1 : ((0 : Int) == 0) = true := rfl
    have hv6' : AutoV (fun k => H4.size ≤ k ∧ k < H5.size) H5 v6 (some o) := hv6
    have hmlt : mb < H4.size := hm4.lt
    (conv => whnf); refine VCall.mk (R := fun R G => R = .tuple #[v6, .int .i64 0] ∧ Agr (fun k => k < H5.size ∧ k ≠ mb) H5 G ∧ H5.size ≤ G.size ∧ Blk G mb 216 (mkL b (F.length : Int))) (FnOk.of_vc Tryz.func161 rfl (Tryz.call161 _) (by
      (conv => whnf); refine VSeq.run ?_
      (conv => whnf); refine VDraw.heldZ (fun k => k = mb) [10] (sq [0,1,2,3,4,5] (.f 6 (sq [7,8,9] (.f 10 .e)))) rfl (by kernel_rfl) ?_
      (conv => whnf); refine VC.fa fl216_1 ?_
      (conv => whnf); refine ld1 (v := .int .i64 0) ct3 (by rw [hm5.cell]; rfl) rfl ?_
      (conv => whnf); refine pures (states_p hv6') fun H6 ha6 => ?_
      have hm6 := hm5.agr ha6 hm5.lt
      refine ⟨ha6.mono fun k hk => by rw [hk]; exact hm5.lt, ?_⟩
      rw [hN]
      (conv => whnf); refine vmax_ ?_
      have e1 : (if (0 : Int) < (F.length : Int) then (F.length : Int) else 0) = (F.length : Int) := by split <;> omega
      rw [e1]
      (conv => whnf); refine VC.fa fl216_1 ?_
      (conv => whnf); refine st1Blk hm6 ct3 (show 1 < 2 by decide) rfl fun H7 hb7 ha7 hs7 => ?_
      (conv => whnf)
      refine ⟨rfl, (ha6.mono fun k hk => hk.1).trans (ha7.mono fun k hk => ⟨old_lt ha6 hk.1, hk.2⟩), ?_, hb7⟩
      have := old_size ha6
      omega)) ?_
    rintro _ H7 ⟨rfl, ha7, hs7, hb7⟩
    have hsz5 := old_size ha5
    have g7 : Agr (fun k => k < H4.size ∧ k ≠ mb) H4 H7 := (hSm ha5).trans (ha7.mono fun k hk => ⟨by omega, hk.2⟩)
    refine ⟨g7, ?_⟩
    (conv => whnf)
    refine ⟨g7, ?_⟩
    (conv => whnf)
    refine ⟨hA4 g7, by omega, hb7, v6, o, rfl, (hv6.frame (ha7.mono fun k hk => ⟨hk.2, by omega⟩)).mono fun k hk => ⟨by omega, by omega⟩, hL, hN, hMd⟩
set_option maxHeartbeats 8000000 in
theorem start_c (r : ReM) (hpl : r.plain = true) (hnb : r.nodes ≤ 1000000000) {H : Heap} {b : Int} (hpow : PowH Tryz.prog H) :
    FnOk Tryz.prog 47 #[nodeV r, .int .i64 b] H fun R H' => Agr (Old H) H H' ∧ StartR r b H' R := by
  rw [nodeV_eq]
  refine FnOk.of_vc Tryz.func47 rfl (Tryz.call47 _) ?_
  unfold StartR
  by_cases hb1 : b < 1
  · have d1 : decide (b < 1) = true := decide_eq_true hb1
    (conv => whnf); rw [d1]
    (conv => whnf)
    exact ⟨Agr.refl _ _, by rw [if_pos (.inl hb1)]⟩
  have d1 : decide (b < 1) = false := decide_eq_false hb1
  by_cases hb2 : 4096 < b
  · have d2 : decide (b > 4096) = true := decide_eq_true hb2
    (conv => whnf); rw [d1]
    (conv => whnf); rw [d2]
    (conv => whnf)
    exact ⟨Agr.refl _ _, by rw [if_pos (.inr hb2)]⟩
  have d2 : decide (b > 4096) = false := decide_eq_false hb2
  (conv => whnf); rw [d1]
  (conv => whnf); rw [d2]
  (conv => whnf); refine ifneq Tryz.underlying28 ?_
  (conv => whnf); refine VInv.mk (sizeF r) #[nodeP r] (size_m r) (size_p r hnb H) ?_
  rintro _ H1 ⟨rfl, ha1⟩
  have st1 := (St.nil H).call ha1
  by_cases hbig : 2000 < r.nodes
  · have d3 : decide ((r.nodes : Int) > 2000) = true := decide_eq_true (by omega)
    (conv => whnf); rw [d3]
    (conv => whnf)
    exact ⟨st1.old, by rw [if_neg (by omega), if_pos hbig]⟩
  have d3 : decide ((r.nodes : Int) > 2000) = false := decide_eq_false (by omega)
  (conv => whnf); rw [d3]
  (conv => whnf); refine vbuildS Tryz.underlying216 rfl _ mk_z (mkL b 0) rfl ?_
  (conv => whnf); refine vbox (mkL b 0) rfl ?_
  intro mb H2 hmb hs2 hb2 ha2
  have st2 := st1.skip hmb ha2
  have hmc := mbuild_c r hpl (by omega) (b := b) (St.nil H2) hb2 (hpow.agr st2.old)
  rw [nodeV_eq] at hmc
  (conv => whnf); refine VCall.mk hmc ?_
  rintro R H3 ⟨ha3, hs3, hR⟩
  have h3 : Agr (Old H) H H3 := st2.old.trans (ha3.mono fun k hk => by
    have h1 := old_lt st2.old hk
    have h2 := old_size st1.old
    have h3 : k < H.size := hk
    exact ⟨h1, by omega⟩)
  cases hd : detB (nfaOf r) b with
  | error e =>
    rw [hd] at hR
    simp only at hR
    subst hR
    have he := (detB_err hd).1
    have d4 : (e != 0) = true := by simpa using he
    (conv => whnf); rw [d4]
    (conv => whnf)
    exact ⟨h3, by rw [if_neg (by omega), if_neg hbig]⟩
  | ok F =>
    rw [hd] at hR
    obtain ⟨hb3, v, o, rfl, hv, hL, hN⟩ := hR
    (conv => whnf); refine VDraw.lex rfl (by kernel_rfl) ?_
    (conv => whnf); refine VC.fa fl216_1 ?_
    (conv => whnf); refine ld1 (v := .int .i64 (F.length : Int)) ct3 (by rw [hb3.cell]; rfl) trivial ?_
    (conv => whnf)
    refine ⟨h3, ?_⟩
    rw [if_neg (by omega), if_neg hbig]
    exact ⟨v, o, rfl, hv.mono fun k hk => hk.2, hL, hN⟩
/-- What Build answers of a plain tree. -/
theorem langBuild_c (r : ReM) (hpl : r.plain = true) (hnb : r.nodes ≤ 1000000000) {H : Heap} {b : Int} (hpow : PowH Tryz.prog H) :
    FnOk Tryz.prog 14 #[nodeV r, .int .i64 b] H fun R H' => Agr (Old H) H H' ∧ ∃ x y z, StartR r b H' (.tuple #[x, y, z]) ∧ R = .tuple #[x, z] := by
  refine FnOk.of_vc Tryz.func14 rfl (Tryz.call14 _) ?_
  (conv => whnf); refine VCall.mk (start_c r hpl hnb hpow) ?_
  rintro R H1 ⟨ha1, hR⟩
  obtain ⟨x, y, z, rfl⟩ : ∃ x y z, R = .tuple #[x, y, z] := by
    unfold StartR at hR
    split at hR
    · exact ⟨_, _, _, hR⟩
    · split at hR
      · exact ⟨_, _, _, hR⟩
      · split at hR
        · exact ⟨_, _, _, hR⟩
        · obtain ⟨v, o, h, -⟩ := hR
          exact ⟨_, _, _, h⟩
  (conv => whnf)
  exact ⟨ha1, x, y, z, hR, rfl⟩
theorem langNeed_c (r : ReM) (hpl : r.plain = true) (hnb : r.nodes ≤ 1000000000) {H : Heap} {b : Int} (hpow : PowH Tryz.prog H) :
    FnOk Tryz.prog 30 #[nodeV r, .int .i64 b] H fun R H' => Agr (Old H) H H' ∧ ∃ x y z, StartR r b H' (.tuple #[x, y, z]) ∧ R = .tuple #[y, z] := by
  refine FnOk.of_vc Tryz.func30 rfl (Tryz.call30 _) ?_
  (conv => whnf); refine VCall.mk (start_c r hpl hnb hpow) ?_
  rintro R H1 ⟨ha1, hR⟩
  obtain ⟨x, y, z, rfl⟩ : ∃ x y z, R = .tuple #[x, y, z] := by
    unfold StartR at hR
    split at hR
    · exact ⟨_, _, _, hR⟩
    · split at hR
      · exact ⟨_, _, _, hR⟩
      · split at hR
        · exact ⟨_, _, _, hR⟩
        · obtain ⟨v, o, h, -⟩ := hR
          exact ⟨_, _, _, h⟩
  (conv => whnf)
  exact ⟨ha1, x, y, z, hR, rfl⟩
end Go.Proofs.YtfbghcpdinlmcaaGreatDoor
/- lang.product, Meet, Join, Less: the walks. -/
set_option linter.unusedVariables false
set_option linter.unusedSimpArgs false
set_option maxRecDepth 100000
namespace Go.Proofs.YtfbghcpdinlmcaaGreatDoor
open Go.VC
attribute [local irreducible] mRun gRun atRun
/-- The product of the pairs that are reached. -/
def IsProd (a b : Option AM) (ends : Bool → Bool → Bool) (F : List (Int × Int)) (p : Option AM) : Prop :=
  IsMade p ∧ LeadsG (stepPr a b) (fun x : Int × Int => ends (finM a x.1) (finM b x.2)) F (stepM p) (finM p) ∧ stN p = F.length
def ProdR (a b : Option AM) (ends : Bool → Bool → Bool) (m : Int) (H H' : Heap) (r : Value) : Prop :=
  if m < 1 ∨ 4096 < m then r = .tuple #[.pointer none, .int .i64 2] else
  match prW a b m.toNat with
  | none => r = .tuple #[.pointer none, .int .i64 40]
  | some F => ∃ v A, r = .tuple #[v, .int .i64 0] ∧ AutoV (fun k => H.size ≤ k ∧ k < H'.size) H' v (some A) ∧ IsProd a b ends F (some A)
theorem auto_one {S : Nat → Prop} {H : Heap} {v : Value} {o : Option AM} (h : AutoV S H v o) : v.cells = [v].toArray := by
  cases o with
  | none => obtain rfl := h; rfl
  | some A => obtain ⟨p, rfl, -⟩ := h; rfl
section
variable {S : Nat → Prop} {H : Heap} {va vb : Value} {a b : Option AM} {ends : Bool → Bool → Bool} {f : FuncId} {m : Int}
set_option maxHeartbeats 16000000 in
theorem product_c (hS : ∀ k, S k → k < H.size) (hva : AutoV S H va a) (hvb : AutoV S H vb b) (ha : IsMade a) (hb : IsMade b) (hf : ∀ (G : Heap) (x y : Bool), Pure Tryz.prog f #[.bool x, .bool y] G (.bool (ends x y))) :
    FnOk Tryz.prog 57 #[va, vb, .int .i64 m, .func (.func f) #[] #[]] H fun r H' => Agr (Old H) H H' ∧ ProdR a b ends m H H' r := by
  have sa := ha.steps
  have sb := hb.steps
  have hla := cells_le hva
  have hlb := cells_le hvb
  have hpb : 0 < (cellsM b).length := by
    obtain ⟨ls, h⟩ := hb.ok
    exact cells_pos h
  refine FnOk.of_vc Tryz.func57 rfl (Tryz.call57 _) ?_
  (conv => whnf); refine vbox [va] (auto_one hva) ?_
  intro pa H1 hpa hs1 hb1 ha1
  have st1 := (St.nil H).box hpa hs1 hb1 ha1
  (conv => whnf); refine vbox [vb] (auto_one hvb) ?_
  intro pb H2 hpb2 hs2 hb2 ha2
  have st2 := st1.box hpb2 hs2 hb2 ha2
  (conv => whnf); refine vbox [.func (.func f) #[] #[]] rfl ?_
  intro pf H3 hpf hs3 hb3 ha3
  have st3 := st2.box hpf hs3 hb3 ha3
  unfold ProdR
  by_cases hm1 : m < 1
  · have d1 : decide (m < 1) = true := decide_eq_true hm1
    (conv => whnf); rw [d1]
    (conv => whnf)
    exact ⟨st3.old, by rw [if_pos (.inl hm1)]⟩
  · have d1 : decide (m < 1) = false := decide_eq_false hm1
    by_cases hm2 : 4096 < m
    · have d2 : decide (m > 4096) = true := decide_eq_true hm2
      (conv => whnf); rw [d1]
      (conv => whnf); rw [d2]
      (conv => whnf)
      exact ⟨st3.old, by rw [if_pos (.inr hm2)]⟩
    · have d2 : decide (m > 4096) = false := decide_eq_false hm2
      obtain ⟨n, rfl⟩ := Int.eq_ofNat_of_zero_le (show 0 ≤ m by omega)
      have hn1 : 1 ≤ n := by omega
      have hn2 : n ≤ 4096 := by omega
      (conv => whnf); rw [d1]
      (conv => whnf); rw [d2]
      have hS3 : ∀ {G : Heap} {ps : List Pc}, St H3 G ps → Agr S H G := fun st => (st3.old.trans (st.old.mono fun k hk => old_lt st3.old hk)).mono hS
      have up3 : ∀ {G : Heap} {ps : List Pc}, St H3 G ps → ∀ k, S k → k < G.size := fun st k hk => old_lt st.old (st3.up (hS k hk))
      have sx0 := St.nil H3
      (conv => whnf); refine VDraw.heldZ (Old H3) [] (sq [0,2] (.f 1 (.f 3 (.f 4 (.f 5 (.f 6 .e)))))) rfl (by kernel_rfl) ?_
      (conv => whnf); refine ld1 (v := va) ct23 (by rw [(st3.blk 0 rfl).cell]; rfl) (st3.blk 0 rfl).lt ?_
      (conv => whnf); refine ld1 (v := vb) ct23 (by rw [(st3.blk 1 rfl).cell]; rfl) (st3.blk 1 rfl).lt ?_
      (conv => whnf); refine VCall.mk (cells_o (up3 sx0) (hva.frame (hS3 sx0))) ?_
      rintro _ G1 ⟨ga1, -, hw1⟩
      obtain ⟨aa, ac, rfl, sx1⟩ := sx0.got ga1 hw1
      refine ⟨sx1.old, ?_⟩
      (conv => whnf); refine VCall.mk (cells_o (up3 sx1) (hvb.frame (hS3 sx1))) ?_
      rintro _ G2 ⟨ga2, -, hw2⟩
      obtain ⟨ba, bc, rfl, sx2⟩ := sx1.got ga2 hw2
      refine ⟨sx2.old, ?_⟩
      (conv => whnf); refine appSS sx2 0 1 sl106 rfl rfl hpb tSet_ones (by omega) (by decide) fun a3 c3 G3 sx3 _ => ?_
      refine ⟨sx3.old, ?_⟩
      obtain ⟨sets, hsets⟩ : ∃ sets, sets = cellsM a ++ cellsM b := ⟨_, rfl⟩
      have hsl : (cellsM a).length + (cellsM b).length = sets.length := by rw [hsets, List.length_append]
      rw [hsl, ← hsets] at sx3
      rw [hsl]
      (conv => whnf); refine VCall.mk (clsAtoms_c (S := Old G3) (fun k hk => hk) (sx3.view 0 rfl) (by omega)) ?_
      rintro _ G4 ⟨ga4, a4, c4, rfl, h4⟩
      have sx4 := sx3.call ga4
      refine ⟨sx4.old, ?_⟩
      (conv => whnf)
      refine ⟨sx4.old, ?_⟩
      have hal := reps_len sets
      have hgen := genPr ha hb
      rw [← hsets] at hgen
      have b1 := (st3.blk 0 rfl).agr sx4.old (st3.blk 0 rfl).lt
      have b2 := (st3.blk 1 rfl).agr sx4.old (st3.blk 1 rfl).lt
      have b3 := (st3.blk 2 rfl).agr sx4.old (st3.blk 2 rfl).lt
      have cl : ∀ {p t : Nat} {l : List Value}, Blk G4 p t l → Cells G4 p 0 l := fun h => h.cells fun j v hv => by rw [Nat.zero_add]; exact hv
      have hold : ∀ k, S k → Old G4 k := fun k hk => up3 sx4 k hk
      have hbox : BoxAB (Old G4) G4 pa pb va vb a b := ⟨b1.lt, b2.lt, cl b1, cl b2, (hva.frame (hS3 sx4)).mono hold, (hvb.frame (hS3 sx4)).mono hold⟩
      (conv => whnf); refine vbuildS Tryz.underlying224 rfl (pkV (0, 0)) pair_zL (pkL (0, 0)) rfl ?_
      (conv => whnf); refine VCall.mk (exploreP_c (S := Old G4) (l0 := (0, 0)) (most := n) (fun k hk => hk) hbox b3.lt (cl b3) hf h4 hal sa sb hgen.beg hn1 hn2) ?_
      rintro r G5 ⟨ga5, hr⟩
      have sx5 := sx4.call ga5
      have hfin : Agr (Old H) H G5 := st3.old.trans (sx5.old.mono fun k hk => old_lt st3.old hk)
      rw [show bsOf (atomsM sets) = repsM sets from rfl] at hr
      have hdA := hgen.detA hn1
      have hpw : prW a b ((n : Int)).toNat = detW n (stepPr a b) (0, 0) := by rw [Int.toNat_natCast]; rfl
      cases hd : detF n (stepPr a b) (repsM sets) (0, 0) with
      | none =>
        rw [hd] at hr hdA
        simp only at hr
        subst hr
        (conv => whnf)
        refine ⟨hfin, ?_⟩
        rw [if_neg (by omega), hpw, ← hdA]
        rfl
      | some z =>
        obtain ⟨F, rows⟩ := z
        rw [hd] at hr hdA
        obtain ⟨v, rfl, hv⟩ := hr
        obtain ⟨hsd, hL, hN⟩ := autoG (fin := fun x : Int × Int => ends (finM a x.1) (finM b x.2)) hgen hn1 (by omega) hd
        rw [if_pos hsd] at hv
        (conv => whnf)
        refine ⟨hfin, ?_⟩
        rw [if_neg (by omega), hpw, ← hdA]
        have hsz := old_size st3.old
        have hsz2 := old_size sx4.old
        exact ⟨v, _, rfl, hv.mono fun k hk => ⟨by omega, hk.2⟩, ⟨atomsM sets, rows.map rowI, F.map fun x => ends (finM a x.1) (finM b x.2), by
          unfold autoOf
          rw [List.length_map, if_pos hsd]⟩, hL, hN⟩
def orB (x y : Bool) : Bool := x || y
def andB (x y : Bool) : Bool := x && y
theorem meet1_p (G : Heap) (x y : Bool) : Pure Tryz.prog 58 #[.bool x, .bool y] G (.bool (andB x y)) := by
  refine FnOk.of_vc Tryz.func58 rfl (Tryz.call58 _) ?_
  cases x <;> ((conv => whnf); exact ⟨rfl, Agr.refl _ _⟩)
theorem join1_p (G : Heap) (x y : Bool) : Pure Tryz.prog 59 #[.bool x, .bool y] G (.bool (orB x y)) := by
  refine FnOk.of_vc Tryz.func59 rfl (Tryz.call59 _) ?_
  cases x <;> ((conv => whnf); exact ⟨rfl, Agr.refl _ _⟩)
theorem less1_p (G : Heap) (x y : Bool) : Pure Tryz.prog 60 #[.bool x, .bool y] G (.bool (outB x y)) := by
  refine FnOk.of_vc Tryz.func60 rfl (Tryz.call60 _) ?_
  cases x <;> ((conv => whnf); exact ⟨rfl, Agr.refl _ _⟩)
theorem prodR_tuple {H' : Heap} {r : Value} (h : ProdR a b ends m H H' r) : ∃ x y, r = .tuple #[x, y] := by
  unfold ProdR at h
  split at h
  · exact ⟨_, _, h⟩
  · split at h
    · exact ⟨_, _, h⟩
    · obtain ⟨v, A, h, -⟩ := h
      exact ⟨_, _, h⟩
theorem meetL_c (hS : ∀ k, S k → k < H.size) (hva : AutoV S H va a) (hvb : AutoV S H vb b) (ha : IsMade a) (hb : IsMade b) :
    FnOk Tryz.prog 21 #[va, vb, .int .i64 m] H fun r H' => Agr (Old H) H H' ∧ ProdR a b andB m H H' r := by
  refine FnOk.of_vc Tryz.func21 rfl (Tryz.call21 _) ?_
  (conv => whnf); refine VCall.mk (product_c hS hva hvb ha hb meet1_p) ?_
  rintro r H1 ⟨ha1, hr⟩
  obtain ⟨x, y, rfl⟩ := prodR_tuple hr
  (conv => whnf)
  exact ⟨ha1, hr⟩
theorem joinL_c (hS : ∀ k, S k → k < H.size) (hva : AutoV S H va a) (hvb : AutoV S H vb b) (ha : IsMade a) (hb : IsMade b) :
    FnOk Tryz.prog 22 #[va, vb, .int .i64 m] H fun r H' => Agr (Old H) H H' ∧ ProdR a b orB m H H' r := by
  refine FnOk.of_vc Tryz.func22 rfl (Tryz.call22 _) ?_
  (conv => whnf); refine VCall.mk (product_c hS hva hvb ha hb join1_p) ?_
  rintro r H1 ⟨ha1, hr⟩
  obtain ⟨x, y, rfl⟩ := prodR_tuple hr
  (conv => whnf)
  exact ⟨ha1, hr⟩
theorem lessL_c (hS : ∀ k, S k → k < H.size) (hva : AutoV S H va a) (hvb : AutoV S H vb b) (ha : IsMade a) (hb : IsMade b) :
    FnOk Tryz.prog 23 #[va, vb, .int .i64 m] H fun r H' => Agr (Old H) H H' ∧ ProdR a b outB m H H' r := by
  refine FnOk.of_vc Tryz.func23 rfl (Tryz.call23 _) ?_
  (conv => whnf); refine VCall.mk (product_c hS hva hvb ha hb less1_p) ?_
  rintro r H1 ⟨ha1, hr⟩
  obtain ⟨x, y, rfl⟩ := prodR_tuple hr
  (conv => whnf)
  exact ⟨ha1, hr⟩
end
end Go.Proofs.YtfbghcpdinlmcaaGreatDoor
/- lang.Not: the walk, and what it makes. -/
set_option linter.unusedVariables false
set_option linter.unusedSimpArgs false
set_option maxRecDepth 100000
namespace Go.Proofs.YtfbghcpdinlmcaaGreatDoor
open Go.VC
attribute [local irreducible] mRun gRun atRun
def rowN (o : Option AM) (q : Nat) : List Int := (bsOf (cellsM o)).map fun b => stepM o (q : Int) b
def finN (o : Option AM) (n q : Nat) : List Bool := (List.range n).map fun i => if i < q then !finM o (i : Int) else false
def tabN (o : Option AM) (n q j : Nat) : List (List Int) := (List.range n).map fun i => if i < q then rowN o i else if i = q then (rowN o q).take j else []
section
variable {o : Option AM} {n q j : Nat}
theorem rowN_len : (rowN o q).length = (cellsM o).length := by unfold rowN bsOf; simp
theorem tabN_len : (tabN o n q j).length = n := by simp [tabN]
theorem finN_len : (finN o n q).length = n := by simp [finN]
theorem tabN_get (h : q < n) : (tabN o n q j)[q]? = some ((rowN o q).take j) := by
  unfold tabN
  rw [List.getElem?_map, List.getElem?_range h]
  simp
theorem tabN_set {x : Int} (h : q < n) (hx : (rowN o q)[j]? = some x) : (tabN o n q j).set q ((rowN o q).take j ++ [x]) = tabN o n q (j + 1) := by
  rw [← take_succ_snoc hx]
  apply List.ext_getElem?
  intro i
  by_cases hi : i < n
  · rw [List.getElem?_set]
    by_cases e : q = i
    · subst e
      rw [if_pos rfl, if_pos (by rw [tabN_len]; exact h), tabN_get h]
    · rw [if_neg e]
      unfold tabN
      rw [List.getElem?_map, List.getElem?_map, List.getElem?_range hi]
      simp only [Option.map_some]
      congr 1
      by_cases h1 : i < q
      · rw [if_pos h1, if_pos h1]
      · rw [if_neg h1, if_neg h1, if_neg (fun h => e h.symm), if_neg (fun h => e h.symm)]
  · rw [List.getElem?_eq_none (by rw [List.length_set, tabN_len]; omega), List.getElem?_eq_none (by rw [tabN_len]; omega)]
theorem tabN_next (hj : (rowN o q).length ≤ j) : tabN o n q j = tabN o n (q + 1) 0 := by
  unfold tabN
  refine List.map_congr_left fun i _ => ?_
  by_cases h1 : i < q
  · rw [if_pos h1, if_pos (by omega)]
  · rw [if_neg h1]
    by_cases h2 : i = q
    · subst h2
      rw [if_pos rfl, if_pos (by omega), List.take_of_length_le hj]
    · rw [if_neg h2, if_neg (by omega)]
      simp
theorem tabN_zero : tabN o n 0 0 = List.replicate n [] := by
  unfold tabN
  rw [List.eq_replicate_iff]
  refine ⟨by simp, fun b hb => ?_⟩
  obtain ⟨i, -, rfl⟩ := List.mem_map.1 hb
  simp
theorem tabN_end : tabN o n n 0 = (List.range n).map (rowN o) := by
  unfold tabN
  refine List.map_congr_left fun i hi => ?_
  rw [if_pos (List.mem_range.1 hi)]
theorem finN_zero : finN o n 0 = List.replicate n false := by
  unfold finN
  rw [List.eq_replicate_iff]
  refine ⟨by simp, fun b hb => ?_⟩
  obtain ⟨i, -, rfl⟩ := List.mem_map.1 hb
  simp
theorem finN_set (h : q < n) : (finN o n q).set q (!finM o (q : Int)) = finN o n (q + 1) := by
  apply List.ext_getElem?
  intro i
  by_cases hi : i < n
  · rw [List.getElem?_set]
    unfold finN
    by_cases e : q = i
    · subst e
      rw [if_pos rfl, if_pos (by simpa using h), List.getElem?_map, List.getElem?_range hi]
      simp
    · rw [if_neg e, List.getElem?_map, List.getElem?_map, List.getElem?_range hi]
      simp only [Option.map_some]
      congr 1
      by_cases h1 : i < q
      · rw [if_pos h1, if_pos (by omega)]
      · rw [if_neg h1, if_neg (by omega)]
  · rw [List.getElem?_eq_none (by rw [List.length_set, finN_len]; omega), List.getElem?_eq_none (by rw [finN_len]; omega)]
/-- What Not makes. -/
def notA (o : Option AM) : AM := madeM (cellsM o) ((List.range (stN o)).map (rowN o)) (finN o (stN o) (stN o))
theorem not_made (h : IsMade o) : soundB (cellsM o) ((List.range (stN o)).map (rowN o)) (finN o (stN o) (stN o)).length = true ∧ IsMade (some (notA o)) ∧ stN (some (notA o)) = stN o ∧ (∀ q b : Nat, q < stN o → b < 256 → stepM (some (notA o)) (q : Int) b = stepM o (q : Int) b) ∧ ∀ q : Nat, q < stN o → finM (some (notA o)) (q : Int) = !finM o (q : Int) := by
  obtain ⟨ls, hc⟩ := h.ok
  have hs := h.steps
  have h1 := hs.n1
  have h2 := hs.n2
  have hsd : soundB (cellsM o) ((List.range (stN o)).map (rowN o)) (finN o (stN o) (stN o)).length = true := by
    rw [soundB_iff]
    refine ⟨⟨by simp; omega, by simp; omega, by rw [finN_len]; simp⟩, fun b hb => cellsOk_cnt hc hb, fun r hr => ?_⟩
    obtain ⟨q, hq, rfl⟩ := List.mem_map.1 hr
    have hq := List.mem_range.1 hq
    unfold rowOk
    rw [Bool.and_eq_true, beq_iff_eq, List.all_eq_true]
    refine ⟨rowN_len, fun t ht => ?_⟩
    unfold rowN bsOf at ht
    obtain ⟨b, hb, rfl⟩ := List.mem_map.1 ht
    obtain ⟨c, -, rfl⟩ := List.mem_map.1 hb
    have := hs.step (q : Int) (nextM c 0).1 ⟨by omega, by omega⟩ (nextM_lt c 0)
    simp only [Bool.and_eq_true, decide_eq_true_eq, List.length_map, List.length_range]
    exact this
  refine ⟨hsd, ⟨_, _, _, by unfold autoOf; rw [if_pos hsd]; rfl⟩, by unfold notA; simp only [stN, madeM, List.length_map, List.length_range], fun q b hq hb => ?_, fun q hq => ?_⟩
  · obtain ⟨c1, c2⟩ := soundB_cells hsd hb
    obtain ⟨c, hcg⟩ := get_some c1
    have hcb := c2 c hcg
    unfold notA
    rw [madeM_step (row := rowN o q) hsd (by rw [List.getElem?_map, List.getElem?_range hq]; rfl) hb]
    obtain ⟨l, hl, -, hnl, -⟩ := hc.least _ c hcg
    have hk := (hc.keeps _ c l b hcg hl hb hcb).2 (q : Int) (by omega) (by omega)
    unfold rowN bsOf
    rw [List.getD_eq_getElem?_getD, List.getElem?_map, List.getElem?_map, hcg]
    show stepM o (q : Int) (nextM c 0).1 = _
    rw [hnl, hk]
  · unfold notA
    simp [finM, madeM, finN, hq]
set_option maxHeartbeats 16000000 in
theorem notL_c {S : Nat → Prop} {H : Heap} {va : Value} (hS : ∀ k, S k → k < H.size) (hva : AutoV S H va o) (hm : IsMade o) :
    FnOk Tryz.prog 26 #[va] H fun r H' => Agr (Old H) H H' ∧ AutoV (fun k => H.size ≤ k ∧ k < H'.size) H' r (some (notA o)) := by
  have hs := hm.steps
  have h1 := hs.n1
  have h2 := hs.n2
  have hla := cells_le hva
  obtain ⟨n, hn⟩ : ∃ n, n = stN o := ⟨_, rfl⟩
  rw [← hn] at h1 h2
  have hVA : ∀ {G : Heap} {ps : List Pc}, St H G ps → AutoV S G va o := fun st => hva.frame (st.old.mono hS)
  refine FnOk.of_vc Tryz.func26 rfl (Tryz.call26 _) ?_
  (conv => whnf); refine VCall.mk (cells_o hS hva) ?_
  rintro _ H1 ⟨ha1, -, hw1⟩
  obtain ⟨ca, cc, rfl, st1⟩ := (St.nil H).got ha1 hw1
  (conv => whnf); refine pures (states_p (hVA st1)) fun H2 ha2 => ?_
  have st2 := st1.call ha2
  rw [← hn]
  (conv => whnf); refine vmake1 sl35 rfl (by omega) (by omega) (by omega) (by omega) ?_
  intro nb H3 hnb hs3 hb3 ha3
  rw [Int.toNat_natCast] at hb3 ⊢
  have st3 := st2.tabNew tI 3 hnb hs3 hb3 ha3
  (conv => whnf); refine pures (states_p (hVA st3)) fun H4 ha4 => ?_
  have st4 := st3.call ha4
  rw [← hn]
  (conv => whnf); refine vmake1 sl36 rfl (by omega) (by omega) (by omega) (by omega) ?_
  intro fb H5 hfb hs5 hb5 ha5
  rw [Int.toNat_natCast] at hb5 ⊢
  have hbr : tBool.reps none_ H5 (List.replicate n (Value.bool false)) (List.replicate n false) := by
    have := bool_reps (S := none_) (H := H5) (List.replicate n false)
    rwa [List.map_replicate] at this
  have st5 := st4.new (T := tBool) (n := n) (xs := List.replicate n false) hfb hs5 (by simpa using hb5) ha5 hbr (by simp) (by unfold maxLen; omega)
  rw [← finN_zero (o := o), ← tabN_zero (o := o)] at st5
  (conv => whnf)
  refine VLoop.mk [21] (fun q : Nat => [.int .i64 (q : Int)]) (fun q G => q ≤ n ∧ ∃ vs, St H G [pS tSet 101 ca (cellsM o).length cc (cellsM o), pT tI 3 41 nb vs (tabN o n q 0), pS tBool 4 (some ⟨fb, 0, none⟩) n n (finN o n q)]) (fun q _ => n - q) ?_ ?_
  · (conv => whnf)
    exact ⟨0, rfl, Nat.zero_le _, _, st5⟩
  · clear st5 st4 st3 st2 st1
    rintro q H6 junk6 ⟨hq, vs, st6⟩
    (conv => whnf); refine VIte.mk (fun hz => ?_) (fun hz => ?_) <;> simp only [decide_eq_true_eq, decide_eq_false_iff_not] at hz
    · have hq8 : q < n := by omega
      (conv => whnf)
      refine VLoop.mk [26] (fun j : Nat => [.int .i64 (j : Int)]) (fun j G => j ≤ (cellsM o).length ∧ ∃ vs, St H G [pS tSet 101 ca (cellsM o).length cc (cellsM o), pT tI 3 41 nb vs (tabN o n q j), pS tBool 4 (some ⟨fb, 0, none⟩) n n (finN o n q)]) (fun j _ => (cellsM o).length - j) ?_ ?_
      · (conv => whnf)
        exact ⟨0, rfl, Nat.zero_le _, _, st6⟩
      · clear st6
        rintro j H7 junk7 ⟨hj, vs7, st7⟩
        (conv => whnf); refine VIte.mk (fun hz2 => ?_) (fun hz2 => ?_) <;> simp only [decide_eq_true_eq, decide_eq_false_iff_not] at hz2
        · obtain ⟨c, hc⟩ := get_some (l := cellsM o) (k := j) (by omega)
          have hblt := nextM_lt c 0
          (conv => whnf); refine ixO (j := j) sl106 st7 0 rfl hc rfl ?_
          rintro b8 o8 c8 hS8 hc8 rfl
          (conv => whnf); refine ldN (cs := setL c) ag101 hc8 trivial ?_
          (conv => whnf); refine valloc (setV 0) (setL 0) rfl rfl ?_
          intro sx H8 hsx hs8 hb8 ha8
          have st8 := st7.box hsx hs8 hb8 ha8
          (conv => whnf); refine stNB (cs := setL c) st8 3 rfl rfl (Nat.le_refl _) rfl fun H9 st9 => ?_
          rw [splice_all (show (setL c).length = (setL 0).length from rfl)] at st9
          (conv => whnf); refine ldN (cs := setL c) ag101 ((st9.blk 3 rfl).cells fun j v hv => by rw [Nat.zero_add]; exact hv) trivial ?_
          (conv => whnf); refine pures (next_p c 0 (by decide) H9) fun H10 ha10 => ?_
          have st10 := st9.call ha10
          have hrow := tabN_get (o := o) (j := j) hq8
          obtain ⟨wa, wc, hvi, -⟩ := st10.row 1 rfl hrow
          have htl : vs7.length = n := by rw [(st10.tab 1 rfl).len, tabN_len]
          have hrj : (rowN o q)[j]? = some (stepM o (q : Int) (nextM c 0).1) := by
            unfold rowN bsOf
            rw [List.getElem?_map, List.getElem?_map, hc]; rfl
          have hnbl := (st10.tab 1 rfl).blk.lt
          have hrl : ((rowN o q).take j).length = j := by rw [List.length_take, rowN_len]; omega
          have hstr := hs.step (q : Int) (nextM c 0).1 ⟨by omega, by omega⟩ hblt
          (conv => whnf); refine VDraw.heldZ (fun k => k = nb) [13] (sq [0,1,2,3,4,5,6,7,8] (.f 9 (.f 10 (.f 11 (sq [12] (.f 13 .e)))))) rfl (by kernel_rfl) ?_
          (conv => whnf); refine ix sl35 (by omega) (by omega) ?_
          (conv => whnf); refine ld1 ct41 (st10.tcell 1 rfl hvi (by rw [Nat.zero_add, Nat.mul_one, Int.toNat_natCast])) rfl ?_
          (conv => whnf); refine pures (step_p (fun k hk => st10.up (hS k hk)) (hVA st10) hblt) fun H11 ha11 => ?_
          have st11 := st10.call ha11
          have g11 : Agr (fun k => k = nb) H10 H11 := ha11.mono fun k hk => by rw [hk]; exact hnbl
          refine ⟨g11, ?_⟩
          (conv => whnf); refine vbuild1 sl41 [.int .i64 (stepM o (q : Int) (nextM c 0).1)] rfl rfl (by decide) (by decide) ?_
          intro q12 H12 hq12 hs12 hb12 ha12
          have hnb11 : nb < H11.size := (st11.tab 1 rfl).blk.lt
          have g12 : Agr (fun k => k = nb) H10 H12 := g11.trans (ha12.mono fun k hk => by omega)
          refine ⟨g12, ?_⟩
          have st12 := st11.skip hq12 ha12
          (conv => whnf); refine appT st12 1 sl41 rfl hvi hrow hb12 ⟨rfl, kint ⟨hstr.1, by have := hstr.2; rw [← hn] at this; omega⟩⟩ rfl (by omega) (by decide) fun wa' wc' H13 mid => ?_
          have g13 : Agr (fun k => k = nb) H12 H13 := by
            obtain ⟨v, hv, hag, -⟩ := mid.ex
            refine hag.mono fun k hk => ?_
            subst hk
            refine ⟨(st12.tab 1 rfl).blk.lt, fun h => ?_⟩
            rw [hvi] at hv
            cases hv
            have := (((st12.tab 1 rfl).own _ _ _ hvi hrow).lt h).1
            omega
          refine ⟨g12.trans g13, ?_⟩
          (conv => whnf); refine ix sl35 (by omega) (by omega) ?_
          (conv => whnf); refine stT mid ct41 (by rw [Nat.zero_add, Nat.mul_one, Int.toNat_natCast]) fun H14 st14 => ?_
          (conv => whnf); rw [w64 (x := (j : Int) + 1) (by omega) (by omega)]
          rw [tabN_set hq8 hrj] at st14
          have hex : ∃ vs, St H H14 [pS tSet 101 ca (cellsM o).length cc (cellsM o), pT tI 3 41 nb vs (tabN o n q (j + 1)), pS tBool 4 (some ⟨fb, 0, none⟩) n n (finN o n q)] := ⟨_, st14.pick [0, 1, 2] (by decide)⟩
          exact ⟨rfl, j + 1, by simp, ⟨by omega, hex⟩, by omega⟩
        · obtain rfl : j = (cellsM o).length := by omega
          rw [tabN_next (by rw [rowN_len]; exact Nat.le_refl _)] at st7
          (conv => whnf); refine pures (final_p (hVA st7)) fun H8 ha8 => ?_
          have st8 := st7.call ha8
          (conv => whnf); refine ix sl36 (by omega) (by omega) ?_
          (conv => whnf); refine st1O (j := q) (x := !finM o (q : Int)) st8 2 ct4 rfl rfl (by omega) (by rw [finN_len]; omega) rfl (fun H' _ => rfl) fun H9 st9 => ?_
          rw [finN_set hq8] at st9
          (conv => whnf); rw [w64 (x := (q : Int) + 1) (by omega) (by omega)]
          exact ⟨rfl, q + 1, by simp, ⟨by omega, vs7, st9⟩, by omega⟩
    · obtain rfl : q = n := by omega
      rw [tabN_end] at st6
      have hv1 := st6.tview 1 rfl (by simp; unfold maxLen; omega)
      have hnew := new_c ca (some ⟨nb, 0, none⟩) (some ⟨fb, 0, none⟩) cc q q (cellsM o) ((List.range q).map (rowN o)) (finN o q q) (Old H6) H6 (fun k hk => hk) (st6.view 0 rfl) (by
        have := hv1
        rw [List.length_map, List.length_range] at this
        exact this) (st6.view 2 rfl)
      rw [List.length_map, List.length_range, finN_len] at hnew
      (conv => whnf); refine VCall.mk hnew ?_
      rintro v H7 ⟨ha7, hs7, hv7⟩
      have st7 := st6.call ha7
      obtain ⟨hsd, -⟩ := not_made hm
      rw [← hn, finN_len] at hsd
      rw [if_pos hsd] at hv7
      (conv => whnf)
      refine ⟨st7.old, ?_⟩
      have := old_size st6.old
      unfold notA
      rw [← hn]
      exact hv7.mono fun k hk => ⟨by have := hk.1; omega, hk.2⟩
end
end Go.Proofs.YtfbghcpdinlmcaaGreatDoor
/- The automaton of a plain text: how many states, what it takes; speaks of the laws of layer 6. -/
set_option linter.unusedVariables false
set_option linter.unusedSimpArgs false
set_option maxRecDepth 100000
namespace Go.Proofs.YtfbghcpdinlmcaaGreatDoor
open Go.VC
attribute [local irreducible] mRun gRun atRun
theorem big_step (a : NfM) (x : List Int) {b : Nat} (hb : 256 ≤ b) : stepA a x b = [] := by
  have h : ∀ q, goS a (fun q => q ∈ x) b q → False := clS_least (Y := fun _ => False) (fun q ⟨e, _, _, hbit, _⟩ => by
    rw [BitVec.getLsbD_of_ge _ _ hb] at hbit; cases hbit) fun e _ _ _ h => h
  rw [List.eq_nil_iff_forall_not_mem]
  intro q hq
  exact h q ((lstS_mem (has_rng (goS_has a _ b)) q).1 hq)
theorem closedW {K : Type} [DecidableEq K] {most : Nat} {step : K → Nat → K} {start : K} {F : List K} (hm : 1 ≤ most) (h : detW most step start = some F) : ∀ x ∈ F, ∀ b, b < 256 → step x b ∈ F := by
  unfold detW at h
  cases hd : detF most step (List.range 256) start with
  | none => rw [hd] at h; cases h
  | some z =>
    obtain ⟨G, rows⟩ := z
    rw [hd] at h
    simp only [Option.map_some, Option.some.injEq] at h
    subst h
    have hk := rowsF_ok hm G.length G rows (detF_at hm hd) fun j hj => hj
    intro x hx b hb
    obtain ⟨q, hq⟩ := List.getElem?_of_mem hx
    obtain ⟨row, hrow⟩ := get_some (l := rows) (k := q) (by rw [hk.rl]; exact (List.getElem?_eq_some_iff.1 hq).1)
    have hcl := hk.cols row (List.mem_of_getElem? hrow)
    obtain ⟨t, ht⟩ := get_some (l := row) (k := b) (by rw [hcl]; simpa using hb)
    exact List.mem_of_getElem? (hk.ok q b row b t x hrow (List.getElem?_range hb) ht hq)
section
variable {l : List Nat}
theorem text_fold (hn : l.length ≤ 30000) (hb8 : ∀ c ∈ l, c < 256) : ∀ i, i ≤ l.length → (l.take i).foldl (stepA (nfaOf (textR l))) (begL (nfaOf (textR l))) = txL l.length i
  | 0, _ => by rw [List.take_zero]; exact text_begL hn
  | i + 1, hi => by
    obtain ⟨c, hc⟩ := get_some (l := l) (k := i) (by omega)
    rw [take_succ_snoc hc, List.foldl_append, text_fold hn hb8 i (by omega)]
    show stepA _ _ c = _
    rw [text_step hn hb8 (by omega) (hb8 c (List.mem_of_getElem? hc)), if_pos hc]
theorem text_fin (hn : l.length ≤ 30000) {i : Nat} (hi : i ≤ l.length) : (nfaOf (textR l)).fin ∈ txL l.length i ↔ i = l.length := by
  rw [txL_mem hn hi]
  by_cases hl : l = []
  · subst hl
    unfold txS
    rw [if_pos (show ([] : List Nat).length = 0 from rfl)]
    have : i = 0 := by simpa using hi
    subst this
    exact ⟨fun _ => rfl, fun _ => .inr rfl⟩
  · have hpos : 0 < l.length := List.length_pos_iff.2 hl
    have hf : (nfaOf (textR l)).fin = ((2 * l.length - 1 : Nat) : Int) := by
      show (((bldM (textR l) 0).2.1 : Nat) : Int) = _
      rw [(text_edges l hl).2.2.1]
    unfold txS
    rw [if_neg (by omega), hf]
    omega
theorem text_det (hn : l.length ≤ 30000) (hb8 : ∀ c ∈ l, c < 256) {most : Nat} (hm : 1 ≤ most) : (l.length + 2 ≤ most → ∃ F, detN (nfaOf (textR l)) most = some F ∧ F.length = l.length + 2) ∧ (most < l.length + 2 → detN (nfaOf (textR l)) most = none) := by
  have hP : ∀ x b, x ∈ txAll l.length → stepA (nfaOf (textR l)) x b ∈ txAll l.length := fun x b hx => by
    by_cases hb : b < 256
    · exact txAll_step hn hb8 hx hb
    · rw [big_step _ _ (by omega)]; exact List.mem_cons_self
  have h0 : begL (nfaOf (textR l)) ∈ txAll l.length := by rw [text_begL hn]; exact txAll_in (Nat.zero_le _)
  have key : ∀ F, detN (nfaOf (textR l)) most = some F → F.length = l.length + 2 ∧ F.length ≤ most := fun F hF => by
    have hlen := detW_len hm hF
    have hcl := closedW hm hF
    have hsub : ∀ x ∈ txAll l.length, x ∈ F := by
      have hT : ∀ i, i ≤ l.length → txL l.length i ∈ F := fun i => by
        induction i with
        | zero => intro _; rw [← text_begL hn]; exact List.mem_of_getElem? hlen.2.2.2
        | succ i ih =>
          intro hi
          obtain ⟨c, hc⟩ := get_some (l := l) (k := i) (by omega)
          have hc8 := hb8 c (List.mem_of_getElem? hc)
          have := hcl _ (ih (by omega)) c hc8
          rwa [text_step hn hb8 (by omega) hc8, if_pos hc] at this
      intro x hx
      rcases List.mem_cons.1 hx with rfl | hx
      · have := hcl _ (hT l.length (Nat.le_refl _)) 0 (by decide)
        rwa [text_step hn hb8 (Nat.le_refl _) (by decide), if_neg (by rw [List.getElem?_eq_none (Nat.le_refl _)]; simp)] at this
      · obtain ⟨i, hi, rfl⟩ := List.mem_map.1 hx
        exact hT i (by have := List.mem_range.1 hi; omega)
    have hsup : ∀ x ∈ F, x ∈ txAll l.length := by
      have hF' := hF
      unfold detN detW at hF'
      cases hd : detF most (stepA (nfaOf (textR l))) (List.range 256) (begL (nfaOf (textR l))) with
      | none => rw [hd] at hF'; cases hF'
      | some z =>
        obtain ⟨G, rows⟩ := z
        rw [hd] at hF'
        simp only [Option.map_some, Option.some.injEq] at hF'
        subst hF'
        exact (rows_inv (P := fun x => x ∈ txAll l.length) hm h0 (fun x b hx => hP x b hx) _ most G rows hd).2.2.2
    have h1 := nodup_sub (txAll_nd hn) hsub
    have h2 := nodup_sub hlen.2.2.1 hsup
    rw [txAll_len] at h1 h2
    exact ⟨by omega, hlen.2.1⟩
  constructor
  · intro h
    cases hd : detN (nfaOf (textR l)) most with
    | some F => exact ⟨F, rfl, (key F hd).1⟩
    | none =>
      exfalso
      unfold detN detW at hd
      rw [Option.map_eq_none_iff] at hd
      obtain ⟨L, k1, k2, k3⟩ := rowsF_none_many (P := fun x => x ∈ txAll l.length) hm h0 hP _ _ hd
      have := nodup_sub k1 k3
      rw [txAll_len] at this
      omega
  · intro h
    cases hd : detN (nfaOf (textR l)) most with
    | none => rfl
    | some F => have := key F hd; omega
end
/-- The states that a word leads to. -/
theorem leads5_run {a : NfM} {F : List (List Int)} {st : Int → Nat → Int} {fi : Int → Bool} (h : Leads5 a F st fi) : ∀ (w : List Nat) (q : Nat) (x : List Int), bytes_ w → F[q]? = some x → ∃ t : Nat, w.foldl st (q : Int) = (t : Int) ∧ F[t]? = some (w.foldl (stepA a) x)
  | [], q, x, _, hx => ⟨q, rfl, hx⟩
  | b :: w, q, x, hw, hx => by
    obtain ⟨t, e, ht⟩ := h.st q b x hx (hw b (by simp))
    obtain ⟨u, e2, hu⟩ := leads5_run h w t (stepA a x b) (fun c hc => hw c (by simp [hc])) ht
    exact ⟨u, by rw [List.foldl_cons, e]; exact e2, hu⟩
theorem leads5_acc {a : NfM} {F : List (List Int)} {o : Option AM} (h : Leads5 a F (stepM o) (finM o)) (h0 : F[0]? = some (begL a)) {w : List Nat} (hw : bytes_ w) : accL o w = decide (a.fin ∈ w.foldl (stepA a) (begL a)) := by
  obtain ⟨t, e, ht⟩ := leads5_run h w 0 _ hw h0
  show finM o (w.foldl (stepM o) 0) = _
  rw [show w.foldl (stepM o) (0 : Int) = (t : Int) from e, h.fi t _ ht]
/-- What Determinize of a text's automaton gives. -/
theorem text_detB {l : List Nat} (hn : l.length ≤ 30000) (hb8 : ∀ c ∈ l, c < 256) {b : Int} (h1 : 1 ≤ b) (h2 : b ≤ 4096) : if (l.length : Int) + 2 ≤ b then ∃ F, detB (nfaOf (textR l)) b = .ok F ∧ F.length = l.length + 2 ∧ F[0]? = some (begL (nfaOf (textR l))) else detB (nfaOf (textR l)) b = .error 40 := by
  obtain ⟨m, rfl⟩ := Int.eq_ofNat_of_zero_le (show 0 ≤ b by omega)
  obtain ⟨k1, k2⟩ := text_det hn hb8 (most := m) (by omega)
  rw [detB_in (by omega) (by omega)]
  split
  · obtain ⟨F, hF, hl⟩ := k1 (by omega)
    rw [hF]
    exact ⟨F, rfl, hl, (detW_len (by omega) hF).2.2.2⟩
  · rw [k2 (by omega)]
set_option maxHeartbeats 8000000 in
theorem speaks06_p {H : Heap} (hpow : PowH Tryz.prog H) : Pure Tryz.prog 13 #[] H (.bool true) := by
  have hb : bytes_ [97, 98] := fun b hb => by simp at hb; omega
  have hbn : byN ⟨#[97, 98]⟩ = [97, 98] := rfl
  have hnd : (textR [97, 98]).nodes = 3 := rfl
  refine FnOk.of_vc Tryz.func13 rfl (Tryz.call13 _) ?_
  (conv => whnf); refine pures (text_p ⟨#[97, 98]⟩ (by decide) H) fun H1 ha1 => ?_
  rw [hbn]
  (conv => whnf); refine VCall.mk (langBuild_c (textR [97, 98]) (textR_plain _) (by rw [hnd]; decide) (hpow.agr ha1)) ?_
  rintro _ H2 ⟨ha2, x, y, z, hS, rfl⟩
  have h12 := ha1.trans (ha2.mono fun k hk => old_lt ha1 hk)
  unfold StartR at hS
  rw [if_neg (by decide), if_neg (by rw [hnd]; decide)] at hS
  have hd := text_detB (l := [97, 98]) (by decide) hb (b := 4) (by decide) (by decide)
  rw [if_pos (by decide)] at hd
  obtain ⟨F, hF, hFl, hF0⟩ := hd
  rw [hF] at hS
  obtain ⟨v, o, e, hv, hL, hN⟩ := hS
  have e := Array.toList_inj.2 (Value.tuple.inj e)
  simp only [List.cons.injEq, and_true] at e
  obtain ⟨rfl, rfl, rfl⟩ := e
  (conv => whnf); refine pures (text_p ⟨#[97, 98]⟩ (by decide) H2) fun H3 ha3 => ?_
  have h13 := h12.trans (ha3.mono fun k hk => old_lt h12 hk)
  rw [hbn]
  (conv => whnf); refine VCall.mk (langNeed_c (textR [97, 98]) (textR_plain _) (by rw [hnd]; decide) (hpow.agr h13)) ?_
  rintro _ H4 ⟨ha4, x', y', z', hS', rfl⟩
  have h14 := h13.trans (ha4.mono fun k hk => old_lt h13 hk)
  unfold StartR at hS'
  rw [if_neg (by decide), if_neg (by rw [hnd]; decide)] at hS'
  have hd' := text_detB (l := [97, 98]) (by decide) hb (b := 4096) (by decide) (by decide)
  rw [if_pos (by decide)] at hd'
  obtain ⟨F', hF', hFl', -⟩ := hd'
  rw [hF'] at hS'
  obtain ⟨v', o', e', -, -, -⟩ := hS'
  have e' := Array.toList_inj.2 (Value.tuple.inj e')
  simp only [List.cons.injEq, and_true] at e'
  obtain ⟨rfl, rfl, rfl⟩ := e'
  have h24 : Agr (Old H2) H2 H4 := ha3.trans (ha4.mono fun k hk => old_lt ha3 hk)
  have hv4 := hv.frame h24
  obtain ⟨pv, hpv⟩ : ∃ pv, x = .pointer (some pv) := by
    obtain ⟨pv, e, -⟩ := hv
    exact ⟨_, e⟩
  subst hpv
  have acc : ∀ i, i ≤ 2 → accL (some o) ([97, 98].take i) = decide (i = 2) := fun i hi => by
    rw [leads5_acc hL hF0 (fun b hb' => hb b (List.mem_of_mem_take hb')), text_fold (l := [97, 98]) (by decide) hb i hi, decide_eq_decide]
    exact text_fin (l := [97, 98]) (by decide) hi
  have a2 : acceptsM (some o) ⟨#[97, 98]⟩ = true := by
    rw [show (⟨#[97, 98]⟩ : ByteArray) = bA [97, 98] from rfl, acc_bA hb]
    exact acc 2 (Nat.le_refl _)
  have a1 : acceptsM (some o) ⟨#[97]⟩ = false := by
    rw [show (⟨#[97]⟩ : ByteArray) = bA [97] from rfl, acc_bA (fun b hb' => hb b (by simp at hb'; simp [hb']))]
    exact acc 1 (by decide)
  have hFl4 : F'.length = 4 := hFl'
  rw [hFl4]
  (conv => whnf); refine pneqS Tryz.underlying23 ?_
  have hq1 := accepts_p (s := ⟨#[97, 98]⟩) (fun k hk => old_lt h24 hk) hv4 (by decide)
  (conv => whnf); refine pures hq1 fun H5 ha5 => ?_
  rw [a2]
  have h25 := h24.trans (ha5.mono fun k hk => old_lt h24 hk)
  have hq2 := accepts_p (s := ⟨#[97]⟩) (fun k hk => old_lt h25 hk) (hv.frame h25) (by decide)
  (conv => whnf); refine pures hq2 fun H6 ha6 => ?_
  rw [a1]
  have h26 := h25.trans (ha6.mono fun k hk => old_lt h25 hk)
  (conv => whnf)
  exact ⟨rfl, h12.trans (h26.mono fun k hk => old_lt h12 hk)⟩
end Go.Proofs.YtfbghcpdinlmcaaGreatDoor
/- auto of the laws of layer 06. -/
set_option linter.unusedVariables false
set_option linter.unusedSimpArgs false
set_option maxRecDepth 100000
namespace Go.Proofs.YtfbghcpdinlmcaaGreatDoor
open Go.VC
attribute [local irreducible] mRun atRun

set_option maxHeartbeats 4000000 in
theorem auto06_c (v : Value) (cells : List (BitVec 256)) (next : List (List Int)) (final : List Bool) (S : Nat → Prop) (H : Heap) (ht : TabIn S H v cells next final) :
    FnOk Tryz.prog 19 #[v] H fun v H' => Agr (Old H) H H' ∧ H.size ≤ H'.size ∧ AutoV (Fresh H H') H' v (autoOf cells next final) := by
  obtain ⟨hS, ⟨ca, na, fa, cc, nc, fc, rfl, hc, hn, hf⟩, cn, nn, rn, fn⟩ := ht
  refine FnOk.of_vc Tryz.func19 rfl (Tryz.call19 _) ?_
  (conv => whnf); refine vbox [.slice ca cells.length cc, .slice na next.length nc, .slice fa final.length fc] rfl ?_
  intro pb H1 hpb hs1 hb1 ha1
  (conv => whnf); refine VC.fa fl38_0 ?_
  (conv => whnf); refine ld1 ct34 (by rw [hb1.cell]; rfl) trivial ?_
  (conv => whnf); refine vmakeT (T := tSet) (v := 0#256) (S := fun _ => False) sl106 (zero_set _ _) (by omega) rfl (by omega) (by omega) ?_
  intro nb H2 hnb hs2 hb2' ha2
  rw [Int.toNat_natCast] at hb2'
  have hA2 : Agr (Old H) H H2 := (ha1.mono fun j hj => by unfold Old at hj; omega).trans (ha2.mono fun j hj => by unfold Old at hj; omega)
  (conv => whnf)
  refine VLoop.mk [4] (fun k : Nat => [.int .i64 k]) (fun k H3 => k ≤ cells.length ∧ Agr (fun j => j < H2.size ∧ j ≠ nb) H2 H3 ∧ H3.size = H2.size ∧
    SlO tSet (fun _ => False) H3 H.size 101 (.slice (some ⟨nb, 0, none⟩) cells.length cells.length) (cells.take k ++ List.replicate (cells.length - k) 0#256)) (fun k _ => cells.length - k) ?_ ?_
  · (conv => whnf)
    refine ⟨0, rfl, by omega, Agr.refl _ _, rfl, ?_⟩
    rw [fill_beg]
    exact SlO.made (by omega) hb2' (zero_set _ _) (by unfold maxLen; omega)
  · rintro k H3 junk ⟨hk, ha3, hs3, hown⟩
    have hb13 := (hb1.agr ha2 (show pb < nb by omega)).agr ha3 ⟨by omega, by omega⟩
    have hA3 : Agr (Old H) H H3 := hA2.trans (ha3.mono fun j hj => by unfold Old at hj; omega)
    (conv => whnf); refine VC.fa fl38_0 ?_
    (conv => whnf); refine ld1 ct34 (by rw [hb13.cell]; rfl) trivial ?_
    (conv => whnf); refine VIte.mk (fun h => ?_) (fun h => ?_) <;> simp only [decide_eq_true_eq, decide_eq_false_iff_not] at h
    · obtain ⟨x, hx⟩ := get_some (l := cells) (k := k) (by omega)
      (conv => whnf); refine VC.fa fl38_0 ?_
      (conv => whnf); refine ld1 ct34 (by rw [hb13.cell]; rfl) trivial ?_
      (conv => whnf); refine ixr sl34 (hc.frame (hA3.mono hS)) hx rfl ?_
      rintro b4 o4 cs4 hSb4 hcells4 rfl
      (conv => whnf); refine ldN (cs := setL x) ag100 hcells4 trivial ?_
      obtain ⟨-, -, hlo5, l5, hblk5, hlen5, hget5, hput5⟩ := hown.placeS (i := k) (by rw [fill_len hk]; omega)
      (conv => whnf); refine ix sl106 (by omega) (by omega) ?_
      (conv => whnf); refine VC.stN rfl hblk5 (by rw [Nat.zero_add, Int.toNat_natCast]; exact hlen5) rfl ?_
      intro H6 hb6 ha6 hs6
      rw [Nat.zero_add, Int.toNat_natCast] at hb6
      have hown6 := hput5 H6 (setL x) x hb6 (fun j hj => hj.elim) rfl
      rw [fill_set hx] at hown6
      (conv => whnf); rw [w64 (x := (k : Int) + 1) (by omega) (by omega)]
      exact ⟨rfl, k + 1, by simp, ⟨by omega, ha3.trans (ha6.mono fun j hj => hj.2), by omega, hown6⟩, by omega⟩
    · obtain rfl : k = cells.length := by omega
      rw [fill_end] at hown
      have hSs : ∀ {H4 : Heap}, Agr (Old H3) H3 H4 → Agr S H H4 := fun h => (hA3.trans (h.mono fun k hk => old_lt hA3 hk)).mono hS
      have hSo : ∀ {H4 : Heap}, Agr (Old H3) H3 H4 → ∀ k, S k → k < H4.size := fun h k hk => old_lt h (old_lt hA3 (hS k hk))
      have fin : ∀ {H6 : Heap} {v1 v3 : Value} {nb lo1 lo2 : Nat} {vs : List Value} {K : Value → Heap → Prop}, Agr (Old H3) H3 H6 → SlO tSet (fun _ => False) H6 lo1 101 v1 cells → Tab tI (fun _ => False) H6 (nb + 1) 3 nb 41 vs next → SlO tBool (fun _ => False) H6 lo2 4 v3 final →
          (∀ v H7, Agr (Old H) H H7 → H.size ≤ H7.size → Agr (Old H3) H3 H7 → AutoV (Fresh H H7) H7 v (autoOf cells next final) → K v H7) → VCall Tryz.prog 51 #[v1, .slice (some ⟨nb, 0, none⟩) next.length next.length, v3] H6 K := fun hag h1 h2 h3 k =>
        vcall_newO h1 h2 h3 (by unfold maxLen; omega) fun v H7 h4 h5 h6 => k v H7 (hA3.trans ((hag.trans (h4.mono fun k hk => old_lt hag hk)).mono fun k hk => old_lt hA3 hk)) (by have := old_size hag; omega) (hag.trans (h4.mono fun k hk => old_lt hag hk)) (h6.mono fun k hk => ⟨by have := old_size hag; have := hk.1; omega, hk.2⟩)
      have hnb3 : nb < H3.size := by omega
      (conv => whnf)
      refine VDraw.held (Old H3) 9 (sq [0,1,2,5,6] (.b 3 (.f 4 (.f 7 (.f 8 (.f 9 .e)))) 4 (.f 3 (.f 7 (.f 8 (.f 9 .e)))))) rfl (by kernel_rfl) ?_
      (conv => whnf); refine VC.fa fl38_1 ?_
      (conv => whnf); refine ld1 ct35 (by rw [hb13.cell]; rfl) hb13.lt ?_
      (conv => whnf); refine VC.fa fl38_2 ?_
      (conv => whnf); refine ld1 ct36 (by rw [hb13.cell]; rfl) hb13.lt ?_
      (conv => whnf); refine ⟨?_, ?_⟩
      · refine VCall.mk (rows_c na nc next S H3 (hSo (Agr.refl _ _)) (hn.frame (hSs (Agr.refl _ _))) (by omega) (fun row hr => Nat.le_trans (rn row hr) (by decide))) ?_
        rintro v4 H4 ⟨ha4, hs4, mb, vs, rfl, hmb, tab⟩
        refine ⟨ha4, ?_⟩
        (conv => whnf); refine vbuild0 sl36 ?_
        intro q H5 hq hs5 hb5 ha5
        have hA5 : Agr (Old H3) H3 H5 := ha4.trans (ha5.mono fun k hk => by have := old_lt ha4 hk; omega)
        refine ⟨hA5, ?_⟩
        (conv => whnf); refine ends_c hb5 (S := S) (fun k hk => ⟨hSo hA5 k hk, by have := hSo ha4 k hk; omega⟩) (hf.frame (hSs hA5)) (by omega) ?_
        intro v6 H6 own3 ha6 hs6
        have h46 : Agr (fun k => k < H4.size) H4 H6 := (ha5.mono fun k hk => by omega).trans (ha6.mono fun k hk => by omega)
        have hA6 : Agr (Old H3) H3 H6 := ha4.trans (h46.mono fun k hk => old_lt ha4 hk)
        refine ⟨hA6, ?_⟩
        (conv => whnf); refine fin hA6 (hown.agr hA6 (fun b hb => (hown.lt hb).2) (fun _ h => h.elim)) (tab.agr h46 tab.blk.lt (fun b _ hb => hb) (fun _ h => h.elim)) own3 fun v7 H7 g1 g2 g3 g4 => ⟨g3, ?_⟩
        (conv => whnf); exact ⟨g1, g2, g4⟩
      · refine vbuild0 sl36 ?_
        intro q H4 hq hs4 hb4 ha4
        have hA4 : Agr (Old H3) H3 H4 := ha4.mono fun k hk => by unfold Old at hk; omega
        refine ⟨hA4, ?_⟩
        (conv => whnf); refine VCall.mk (rows_c na nc next S H4 (hSo hA4) (hn.frame (hSs hA4)) (by omega) (fun row hr => Nat.le_trans (rn row hr) (by decide))) ?_
        rintro v5 H5 ⟨ha5, hs5, mb, vs, rfl, hmb, tab⟩
        have hA5 := hA4.trans (ha5.mono fun k hk => old_lt hA4 hk)
        refine ⟨hA5, ?_⟩
        (conv => whnf); refine ends_c (hb4.agr ha5 hb4.lt) (S := S) (fun k hk => ⟨hSo hA5 k hk, by have := hSo (Agr.refl _ _) k hk; omega⟩) (hf.frame (hSs hA5)) (by omega) ?_
        intro v6 H6 own3 ha6 hs6
        have hA6 : Agr (Old H3) H3 H6 := hA5.trans (ha6.mono fun k hk => ⟨old_lt hA5 hk, by unfold Old at hk; omega⟩)
        refine ⟨hA6, ?_⟩
        (conv => whnf); refine fin hA6 (hown.agr hA6 (fun b hb => (hown.lt hb).2) (fun _ h => h.elim)) (tab.agr ha6 ⟨tab.blk.lt, by omega⟩ (fun b h1 h2 => ⟨h2, by omega⟩) (fun _ h => h.elim)) own3 fun v7 H7 g1 g2 g3 g4 => ⟨g3, ?_⟩
        (conv => whnf); exact ⟨g1, g2, g4⟩

end Go.Proofs.YtfbghcpdinlmcaaGreatDoor
/- minim.Table: the walk (under way: begins here). -/
set_option linter.unusedVariables false
set_option linter.unusedSimpArgs false
set_option maxRecDepth 100000
namespace Go.Proofs.YtfbghcpdinlmcaaGreatDoor
open Go.VC Go.Lib
attribute [local irreducible] mRun gRun atRun
end Go.Proofs.YtfbghcpdinlmcaaGreatDoor
/- louperef07.Table: the walk. -/
set_option linter.unusedVariables false
set_option linter.unusedSimpArgs false
set_option maxRecDepth 100000
namespace Go.Proofs.YtfbghcpdinlmcaaGreatDoor
open Go.VC Go.Lib
attribute [local irreducible] mRun gRun atRun
end Go.Proofs.YtfbghcpdinlmcaaGreatDoor
/- auto of the laws of layer 07. -/
set_option linter.unusedVariables false
set_option linter.unusedSimpArgs false
set_option maxRecDepth 100000
namespace Go.Proofs.YtfbghcpdinlmcaaGreatDoor
open Go.VC
attribute [local irreducible] mRun atRun

end Go.Proofs.YtfbghcpdinlmcaaGreatDoor
/- The laws MinimCanons and MinimTables: the walks. -/
set_option linter.unusedVariables false
set_option linter.unusedSimpArgs false
set_option maxRecDepth 100000
namespace Go.Proofs.YtfbghcpdinlmcaaGreatDoor
open Go.VC Go.Lib
attribute [local irreducible] mRun gRun atRun odd7M
end Go.Proofs.YtfbghcpdinlmcaaGreatDoor
/- The law MinimOneTable: the walk. -/
set_option linter.unusedVariables false
set_option linter.unusedSimpArgs false
set_option maxRecDepth 100000
namespace Go.Proofs.YtfbghcpdinlmcaaGreatDoor
open Go.VC Go.Lib
attribute [local irreducible] mRun gRun atRun odd7M
end Go.Proofs.YtfbghcpdinlmcaaGreatDoor
/- The law LangAlgebra: the walk. -/
set_option linter.unusedVariables false
set_option linter.unusedSimpArgs false
set_option maxRecDepth 100000
namespace Go.Proofs.YtfbghcpdinlmcaaGreatDoor
open Go.VC Go.Lib
attribute [local irreducible] mRun gRun atRun
/-- What a product answers, in parts. -/
theorem prodR_parts {a b : Option AM} {ends : Bool → Bool → Bool} {m : Int} {H H' : Heap} {r : Value} (h : ProdR a b ends m H H' r) : ∃ v e, r = .tuple #[v, .int .i64 e] ∧ (if m < 1 ∨ 4096 < m then v = .pointer none ∧ e = 2 else match prW a b m.toNat with
    | none => v = .pointer none ∧ e = 40
    | some F => e = 0 ∧ ∃ A, AutoV (fun k => H.size ≤ k ∧ k < H'.size) H' v (some A) ∧ IsProd a b ends F (some A)) := by
  unfold ProdR at h
  split at h
  · rename_i hc
    exact ⟨_, _, h, by rw [if_pos hc]; exact ⟨rfl, rfl⟩⟩
  · rename_i hc
    cases hp : prW a b m.toNat with
    | none =>
      rw [hp] at h
      exact ⟨_, _, h, by rw [if_neg hc]; exact ⟨rfl, rfl⟩⟩
    | some F =>
      rw [hp] at h
      obtain ⟨v, A, h, h2, h3⟩ := h
      exact ⟨_, _, h, by rw [if_neg hc]; exact ⟨rfl, A, h2, h3⟩⟩
end Go.Proofs.YtfbghcpdinlmcaaGreatDoor
/- same of the laws of layer 6: the walk (loupelaw05's, with a question for nil ahead). -/
set_option linter.unusedVariables false
set_option linter.unusedSimpArgs false
set_option maxRecDepth 100000
namespace Go.Proofs.YtfbghcpdinlmcaaGreatDoor
open Go.VC
attribute [local irreducible] mRun atRun
set_option maxHeartbeats 4000000 in
theorem same06_p {S : Nat → Prop} {H : Heap} {v w : Value} {A0 : AM} {o : Option AM} {D : DM} (hoA : o = some A0) (hS : ∀ k, S k → k < H.size) (hv : AutoV S H v o) (hw : DfaV S H w D) (hok : D.Ok) (hn : stN o = D.next.length) (hst : ∀ (q b : Nat), q < D.next.length → b < 256 → stepM o (q : Int) b = stepD D (q : Int) b) (hfi : ∀ q : Nat, q < D.next.length → finM o (q : Int) = finD D (q : Int)) :
    Pure Tryz.prog 25 #[v, w] H (.bool true) := by
  have hlen := hw.len
  obtain ⟨pv, rfl⟩ : ∃ pv, v = .pointer (some pv) := by
    subst hoA
    obtain ⟨p, rfl, -⟩ := hv
    exact ⟨_, rfl⟩
  have hn1 := hok.n1
  have hn2 := hok.n2
  have hfl := hok.fl
  refine FnOk.of_vc Tryz.func25 rfl (Tryz.call25 _) ?_
  (conv => whnf); refine dfa_box hw fun ra rc na nc fa fc he h1 h2 h3 => ?_
  subst he
  intro pb H1 hpb hs1 hb1 ha1
  have hA1 : Agr (Old H) H H1 := ha1.mono fun j hj => by unfold Old at hj; omega
  have hF : ∀ {H' : Heap}, Agr (Old H) H H' → AutoV S H' (.pointer (some pv)) o := fun h => hv.frame (h.mono hS)
  have up : ∀ {H' : Heap}, Agr (Old H) H H' → ∀ k, S k → k < H'.size := fun h k hk => old_lt h (hS k hk)
  have tr : ∀ {H2 H' : Heap}, Agr (Old H) H H2 → Agr (Old H2) H2 H' → Agr (Old H) H H' := fun h k => h.trans (k.mono fun j hj => old_lt h hj)
  (conv => whnf)
  refine VDraw.quiet (Old H1) rfl (by kernel_rfl) ?_
  (conv => whnf); refine peqS Tryz.underlying23 ?_
  (conv => whnf); refine pureq (fun H' h' => states_p (hF (tr hA1 h'))) ?_
  (conv => whnf); refine VC.fa fl43_2 ?_
  (conv => whnf); refine ld1 ct35 (by rw [hb1.cell, Nat.zero_add]; exact dfaL_257 hlen) hb1.lt ?_
  have e0 : ((stN o : Int) != (D.next.length : Int)) = false := by rw [hn]; simp
  (conv => whnf); rw [e0]
  (conv => whnf)
  intro H2 ha2
  have hA2 := tr hA1 ha2
  (conv => whnf)
  refine VLoop.mk [5] (fun q : Nat => [.int .i64 q]) (fun q H3 => q ≤ D.next.length ∧ Agr (Old H1) H1 H3) (fun q _ => D.next.length - q) ?_ ?_
  · (conv => whnf); exact ⟨0, rfl, by omega, ha2⟩
  · rintro q H3 junk ⟨hq, ha3⟩
    have hA3 := tr hA1 ha3
    have hb3 := hb1.agr ha3 hb1.lt
    (conv => whnf); refine VC.fa fl43_2 ?_
    (conv => whnf); refine ld1 ct35 (by rw [hb3.cell, Nat.zero_add]; exact dfaL_257 hlen) trivial ?_
    (conv => whnf); refine VIte.mk (fun h => ?_) (fun h => ?_) <;> simp only [decide_eq_true_eq, decide_eq_false_iff_not] at h
    · obtain ⟨f, hf⟩ := get_some (l := D.final) (k := q) (by omega)
      have hfin : finM o (q : Int) = f := by rw [hfi q (by omega)]; simp [finD, hf]
      (conv => whnf)
      refine VDraw.quiet (Old H3) rfl (by kernel_rfl) ?_
      (conv => whnf); refine pureq (fun H' h' => final_p (hF (tr hA3 h'))) ?_
      (conv => whnf); refine VC.fa fl43_3 ?_
      (conv => whnf); refine ld1 ct36 (by rw [hb3.cell, Nat.zero_add]; exact dfaL_258 hlen) hb3.lt ?_
      (conv => whnf); refine ixr sl36 (h3.frame (hA3.mono hS)) hf rfl ?_
      rintro b4 o4 cs4 hSb4 hcells4 rfl
      (conv => whnf); refine ld1 ct4 hcells4.one (up hA3 _ hSb4) ?_
      (conv => whnf); refine bneq_b rfl ?_
      rw [hfin, show (!(f == f)) = false by simp]
      (conv => whnf)
      intro H4 ha4
      have ha14 := ha3.trans (ha4.mono fun k hk => old_lt ha3 hk)
      (conv => whnf)
      refine VLoop.mk [6] (fun b : Nat => [.int .i64 b]) (fun b H5 => b ≤ 256 ∧ Agr (Old H1) H1 H5) (fun b _ => 256 - b) ?_ ?_
      · (conv => whnf); exact ⟨0, rfl, by omega, ha14⟩
      · rintro b H5 junk5 ⟨hb, ha5⟩
        have hA5 := tr hA1 ha5
        have hb5 := hb1.agr ha5 hb1.lt
        (conv => whnf); refine VIte.mk (fun h => ?_) (fun h => ?_) <;> simp only [decide_eq_true_eq, decide_eq_false_iff_not] at h
        · obtain ⟨row, c, t, hr, hc, ht, hc256, _⟩ := hok.at (q := q) (b := b) (by omega) (by omega)
          have hstep : stepM o (q : Int) b = t := by rw [hst _ _ (by omega) (by omega), stepD_at hr hc ht]
          (conv => whnf)
          refine VDraw.quiet (Old H5) rfl (by kernel_rfl) ?_
          (conv => whnf); rw [w8 (x := (b : Int)) (by omega) (by omega)]
          (conv => whnf); refine pureq (fun H' h' => step_p (up (tr hA5 h')) (hF (tr hA5 h')) (show b < 256 by omega)) ?_
          (conv => whnf); refine VC.fa fl43_2 ?_
          (conv => whnf); refine ld1 ct35 (by rw [hb5.cell, Nat.zero_add]; exact dfaL_257 hlen) hb5.lt ?_
          (conv => whnf); refine ixr sl35 (h2.frame (hA5.mono hS)) hr rfl ?_
          rintro b6 o6 cs6 hSb6 hcells6 ⟨xa, xc, rfl, hx⟩
          (conv => whnf); refine ld1 ct41 hcells6.one (up hA5 _ hSb6) ?_
          (conv => whnf); refine VC.fa fl43_0 ?_
          (conv => whnf); refine ixa ar40 (by omega) (by omega) ?_
          (conv => whnf); refine ld1 (v := .int .i64 (c : Int)) ct3 (by rw [hb5.cell, show 0 + 0 + ((b : Nat) : Int).toNat * 1 = b by omega]; exact dfaL_at hc) hb5.lt ?_
          (conv => whnf); refine ixr sl41 hx ht rfl ?_
          rintro b7 o7 cs7 hSb7 hcells7 ⟨rfl, -⟩
          (conv => whnf); refine ld1 ct3 hcells7.one (up hA5 _ hSb7) ?_
          rw [hstep]
          have e1 : (t != t) = false := by simp
          (conv => whnf); rw [e1]
          (conv => whnf)
          intro H6 ha6
          (conv => whnf); rw [w64 (x := (b : Int) + 1) (by omega) (by omega)]
          exact ⟨rfl, b + 1, by simp, ⟨by omega, ha5.trans (ha6.mono fun k hk => old_lt ha5 hk)⟩, by omega⟩
        · (conv => whnf); rw [w64 (x := (q : Int) + 1) (by omega) (by omega)]
          exact ⟨rfl, q + 1, by simp, ⟨by omega, ha5⟩, by omega⟩
    · (conv => whnf)
      exact ⟨rfl, hA3⟩
end Go.Proofs.YtfbghcpdinlmcaaGreatDoor
