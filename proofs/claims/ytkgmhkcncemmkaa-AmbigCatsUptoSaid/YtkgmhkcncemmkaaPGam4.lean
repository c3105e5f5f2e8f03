/- The document's first word of a game: the walk. -/
import Derived.Test.YtkgmhkcncemmkaaPGam3
set_option linter.unusedVariables false
set_option linter.unusedSimpArgs false
set_option maxRecDepth 100000
namespace Go.Proofs.Ytkgmhkcncemmkaa
open Go.VC
attribute [local irreducible] oneM mRun gRun atRun
/-- A slice that is only read, as a piece. -/
def pV (a : Option Addr) (cap : Nat) (xs : List Int) (S : Nat → Prop) : Pc := ⟨S, fun H => SlD tI S H a cap xs, fun h hp => hp.frame h⟩
theorem splice_whole {l cs : List Value} (h : l.length = cs.length) : splice l 0 cs = cs := by
  apply List.ext_getElem?
  intro j
  by_cases hj : j < cs.length
  · rw [splice_get (by omega), if_pos ⟨Nat.zero_le _, by omega⟩, Nat.sub_zero]
  · rw [List.getElem?_eq_none (by rw [splice_length (by omega)]; omega), List.getElem?_eq_none (by omega)]
theorem partedB {ca : Option Addr} {cc n : Nat} {cells : List (BitVec 256)} {S : Nat → Prop} {H : Heap} (hn : n = cells.length) (hS : ∀ k, S k → k < H.size) (hc : SlD tB S H ca cc cells) (hl : cells.length ≤ 4194304) :
    FnOk Try.prog 77 #[.slice ca n cc] H fun v H' => Agr (Old H) H H' ∧ ∃ cell ra rc, cell.length = 256 ∧ v = .agg (dfaL cell (.slice ra (atRun cells 256).1.length rc) (.slice none 0 0) (.slice none 0 0)).toArray ∧ SlD tI (Fresh H H') H' ra rc (asI (atRun cells 256).1) := by
  subst hn
  refine (parted_c ca cc cells S H hS hc hl).mono ?_
  rintro v H' ⟨h1, -, ra, rc, rfl, h2⟩
  exact ⟨h1, _, ra, rc, by unfold asI; rw [List.length_map]; exact (atRun_ok cells 256).plen, rfl, h2⟩
theorem put_v {B : Nat → Prop} {H0 H : Heap} {ps : List Pc} {b : Nat} {vs : List Value} {F : List NW} {n : Nd} {w : List Nat} {K : Value → Heap → Prop} (st : StB B H0 H ps) (i : Nat) (hp : ps[i]? = some (pRow b vs F)) (hr : RowP vs F) (hn : InR 2 n) (hF : ∀ x ∈ F, x.1.Ok ∧ x.2.length = w.length ∧ bytes_ x.2) (hw : bytes_ w) (hlen : F.length + 1 ≤ 5864062014805)
    (k : ∀ vs' F' r H', StB B H0 H' (ps.set i (pRow b vs' F')) → RowP vs' F' → Put F n w F' r → K (.bool r) H') : VCall Try.prog 86 #[.pointer (some ⟨b, 0, none⟩), ndV n, .string (bA w)] H K := by
  refine VCall.mk (put_c (StB.start (st.at_ i hp) fun k hk => (st.in_ i hp hk).2) hr hn hF hw hlen) ?_
  rintro _ H' ⟨vs', F', r, rfl, st', hr', hput⟩
  refine k vs' F' r H' (st.upd i hp st'.old _ (st'.at_ 0 rfl) (fun k hk => ?_) (fun k hk => (st'.in_ 0 rfl hk).2) st'.size) hr' hput
  have := (st'.in_ 0 rfl hk).1
  by_cases h1 : k < H.size
  · by_cases h2 : (pRow b vs F).foot k
    · exact .inl h2
    · exact absurd ⟨h1, h2⟩ this
  · exact .inr (by omega)
theorem put_order {F F' : List NW} {n : Nd} {w : List Nat} {r : Bool} (h : Put F n w F' r) : (n ∈ F.map (·.1) ∧ F'.map (·.1) = F.map (·.1)) ∨ (n ∉ F.map (·.1) ∧ F'.map (·.1) = F.map (·.1) ++ [n]) := by
  have hf := h.fst
  rcases h with ⟨i, u, hi, rfl, -⟩ | ⟨hno, rfl, -⟩
  · exact .inl ⟨List.mem_map.2 ⟨_, List.mem_of_getElem? hi, rfl⟩, by simpa using hf⟩
  · refine .inr ⟨fun hm => ?_, by simpa using hf⟩
    obtain ⟨x, hx, e⟩ := List.mem_map.1 hm
    exact hno x hx e
theorem put_words {F F' : List NW} {n : Nd} {w : List Nat} {r : Bool} (h : Put F n w F' r) : ∀ x ∈ F', x ∈ F ∨ x = (n, w) := fun x hx => by
  rcases h with ⟨i, u, hi, rfl, ⟨-, rfl⟩ | ⟨-, rfl⟩⟩ | ⟨-, rfl, rfl⟩
  · exact .inl hx
  · exact List.mem_or_eq_of_mem_set hx
  · rcases List.mem_append.1 hx with hx | hx
    · exact .inl hx
    · exact .inr (List.mem_singleton.1 hx)
theorem row_z : (Try.prog.info? 156).bind (·.zero) = some (.agg (List.replicate 258 (Value.slice none 0 0)).toArray) := by kernel_rfl
theorem rowS_nil (j : Nat) (H : Heap) : (rowS [] j).ok H (.slice none 0 0) := by
  match j with
  | 0 => exact SlO.nil
  | 1 => exact SlO.nil
  | h + 2 => exact SlO.nil
theorem bA_append (u v : List Nat) : bA u ++ bA v = bA (u ++ v) := by
  apply text_inj
  rw [bA_data, ByteArray.data_append, Array.toList_append, bA_data, bA_data, List.map_append]
theorem RInv.startA {g : Gr} {by_ : List Nat} {a : Nd} : RInv g by_ a [a] (fun t p => Reach g by_ a p ∧ ∃ b, b ∈ by_ ∧ t ∈ g.next p b) fun _ _ _ => False :=
  ⟨rfl, by simp, fun n hn => by rw [List.mem_singleton] at hn; subst hn; exact .refl, fun _ _ h => h, fun _ _ _ h => h.elim⟩
theorem RInv.seeA {g : Gr} {by_ : List Nat} {a n t : Nd} {b : Nat} {order order' : List Nd} {d : Nd → Nat → Nd → Prop} (h : RInv g by_ a order (fun t p => Reach g by_ a p ∧ ∃ b, b ∈ by_ ∧ t ∈ g.next p b) d) (hn : n ∈ order) (hb : b ∈ by_) (ht : t ∈ g.next n b) (ho : (t ∈ order ∧ order' = order) ∨ (t ∉ order ∧ order' = order ++ [t])) :
    RInv g by_ a order' (fun t p => Reach g by_ a p ∧ ∃ b, b ∈ by_ ∧ t ∈ g.next p b) fun m c x => d m c x ∨ (m = n ∧ c = b ∧ x = t) :=
  h.see hn hb ht (fun x p => ⟨.inl, fun hh => hh.elim id fun ⟨e1, e2⟩ => by subst e1; subst e2; exact ⟨h.reach _ hn, b, hb, ht⟩⟩) order' ho
/-- A new row. -/
theorem row_new {H0 H : Heap} {ps : List Pc} {K : Value → Heap → Prop} (st : St H0 H ps) (k : ∀ b H', St H0 H' (ps ++ [pRow b (List.replicate 258 (.slice none 0 0)) []]) → K (.pointer (some ⟨b, 0, none⟩)) H') : VEff Try.prog (Instr.box 156 (.agg (List.replicate 258 (Value.slice none 0 0)).toArray)) H K := by
  refine vbox (List.replicate 258 (Value.slice none 0 0)) rfl ?_
  intro b H' hb hs hk ha
  have st1 := st.box hb hs hk ha
  have st2 := st1.fldNew (ss := rowS []) ps.length (by rw [List.getElem?_append_right (Nat.le_refl _), Nat.sub_self]; rfl) rowS_nil
  refine k b H' ?_
  have e : (ps ++ [pB 156 b (List.replicate 258 (Value.slice none 0 0))]).set ps.length (pF 156 b (List.replicate 258 (.slice none 0 0)) (rowS [])) = ps ++ [pRow b (List.replicate 258 (.slice none 0 0)) []] := by
    rw [List.set_append_right _ _ (Nat.le_refl _), Nat.sub_self]; rfl
  rw [e] at st2
  exact st2
theorem rowP_new : RowP (List.replicate 258 (.slice none 0 0)) [] := ⟨by simp, List.nodup_nil⟩
set_option maxHeartbeats 32000000 in
theorem gfirst_c {S : Nat → Prop} {H : Heap} {v : Value} {it : Bool} {a b : Option AM} {A B : DM} {M C : Nat} (hS : ∀ k, S k → k < H.size) (hv : GameV S H v it A B) (ho : GameO it a b A B) (hg : GraphOk (gameG it a b) (repsD A B) M C) (hR : ∀ n, Reach (gameG it a b) (repsD A B) root n → GameR it a b n)
    (hcov : ∀ c, c < 256 → ∃ r ∈ repsD A B, r ≤ c ∧ ∀ n, (gameG it a b).next n r = (gameG it a b).next n c) (hD : (∃ u, bytes_ u ∧ Leads (gameG it a b) u root) → ∃ u, bytes_ u ∧ Leads (gameG it a b) u root ∧ u.length ≤ 1099511627776) :
    FnOk Try.prog 65 #[v] H fun v H' => Agr (Old H) H H' ∧ ∃ w ok, v = .tuple #[.string (bA w), .bool ok] ∧ FirstR (gameG it a b) w ok := by
  have hbig := hg.big
  have hMC : 256 * M ≤ C * (256 * M) := Nat.le_mul_of_pos_left _ hg.c0
  have hnb := hg.nb
  have hin : ∀ n, Reach (gameG it a b) (repsD A B) root n → InR 2 n := fun n hn => by
    have h := hR n hn
    unfold GameR at h
    split at h
    · have h1 := IterR.inR ho.sa h
      exact ⟨h1.s0, by have := h1.s1; omega, h1.x0, h1.x1, h1.y0, h1.y1, h1.z⟩
    · exact CatR.inR ho.sa ho.sb h
  obtain ⟨la, lb, rfl, da, db⟩ := hv
  have aok := ho.ha.ok
  have bok := ho.hb.ok
  have lenA := cellsD_len A
  have lenB := cellsD_len B
  refine FnOk.of_vc Try.func65 rfl (Try.call65 _) ?_
  (conv => whnf); refine vbox (la ++ lb ++ [Value.bool it]) rfl ?_
  intro p1 H1 hp1 hs1 hb1 ha1
  have st1 := (St.nil H).box hp1 hs1 hb1 ha1
  have hup1 : ∀ k, S k → k < H1.size := fun k hk => st1.up (hS k hk)
  have hA : DfaV (Old H1) H1 (.agg la.toArray) A := (da.frame (st1.old.mono hS)).mono hup1
  have hB : DfaV (Old H1) H1 (.agg lb.toArray) B := (db.frame (st1.old.mono hS)).mono hup1
  have g1 : GameB (Old H1) H1 p1 it A B la lb := ⟨st1.blk 0 rfl, hA, hB⟩
  (conv => whnf); refine VDraw.cut [4] (fun p : Nat => [.pointer (some ⟨p, 0, none⟩)]) (fun p H' => Agr (Old H1) H1 H' ∧ ∃ cell ra rc, cell.length = 256 ∧ Blk H' p 38 (dfaL cell (.slice ra (repsD A B).length rc) (.slice none 0 0) (.slice none 0 0)) ∧ SlD tI (Old H') H' ra rc (asI (repsD A B))) ?_ ?_
  · refine VDraw.held (Old H1) 9 (sq [0,1,3,4] (.b 2 (.b 5 (.b 6 (.b 7 (.f 8 (.f 9 .e)) 8 (.f 7 (.f 9 .e))) 8 (.f 6 (.f 7 (.f 9 .e)))) 8 (.f 5 (.f 6 (.f 7 (.f 9 .e))))) 8 (.f 2 (.f 5 (.f 6 (.f 7 (.f 9 .e))))))) rfl (by kernel_rfl) ?_
    (conv => whnf); refine fa fl123_0 ?_
    (conv => whnf); refine g1.lda g1.blk.lt ?_
    (conv => whnf); refine fa fl123_1 ?_
    (conv => whnf); refine g1.ldb g1.blk.lt ?_
    have sx0 := St.nil H1
    (conv => whnf); refine ⟨?_, ?_⟩
    · -- c1 first
      refine VCall.mk (refcellsB (S := Old H1) (fun k hk => old_lt sx0.old hk) (hA.frame sx0.old) aok) ?_
      rintro _ G1 ⟨ga1, go1⟩
      obtain ⟨xa1, xc1, rfl, sx1⟩ := sx0.got ga1 go1
      refine ⟨sx1.old, ?_⟩
      (conv => whnf); refine ⟨?_, ?_⟩
      · -- c2 first
        refine VCall.mk (refcellsB (S := Old H1) (fun k hk => old_lt sx1.old hk) (hB.frame sx1.old) bok) ?_
        rintro _ G2 ⟨ga2, go2⟩
        obtain ⟨xa2, xc2, rfl, sx2⟩ := sx1.got ga2 go2
        refine ⟨sx2.old, ?_⟩
        (conv => whnf); refine ⟨?_, ?_⟩
        · -- app first
          refine appSS sx2 0 1 slB_ rfl rfl lenB.1 tB_ones (by omega) (by decide) fun xa3 xc3 G3 sx3 _ => ?_
          refine ⟨sx3.old, ?_⟩
          (conv => whnf); refine ⟨?_, ?_⟩
          · -- par first
            refine VCall.mk (partedB List.length_append.symm (fun k hk => hk) (sx3.view 0 rfl) (by rw [List.length_append]; omega)) ?_
            rintro _ G4 ⟨ga4, cell, ra, rc, hcl, rfl, gr4⟩
            have sx4 := sx3.add ga4 (pV ra rc (asI (repsD A B)) (Fresh G3 G4)) gr4 (fun k hk => hk)
            refine ⟨sx4.old, ?_⟩
            (conv => whnf); refine valloc _ (dfaL (List.replicate 256 0) (.slice none 0 0) (.slice none 0 0) (.slice none 0 0)) rfl (by kernel_rfl) ?_
            intro pp G5 gp5 gs5 gb5 ga5
            have sx5 := sx4.box gp5 gs5 gb5 ga5
            refine ⟨sx5.old, ?_⟩
            (conv => whnf); refine stNB (cs := dfaL cell (.slice ra (repsD A B).length rc) (.slice none 0 0) (.slice none 0 0)) sx5 3 (by rw [dfaL_len hcl]; rfl) rfl (by rw [dfaL_len hcl]; decide) (dfaL_ones rfl rfl rfl) fun GF sf => ?_
            rw [splice_whole (by rw [dfaL_len hcl]; rfl)] at sf
            (conv => whnf); exact ⟨rfl, pp, rfl, sf.old, cell, ra, rc, hcl, sf.blk 3 rfl, SlD.mono (sf.at_ 2 rfl) fun k hk => (sf.in_ 2 rfl hk).2⟩
          · -- the block first
            refine valloc _ (dfaL (List.replicate 256 0) (.slice none 0 0) (.slice none 0 0) (.slice none 0 0)) rfl (by kernel_rfl) ?_
            intro pp G4 gp4 gs4 gb4 ga4
            have sx4 := sx3.box gp4 gs4 gb4 ga4
            refine ⟨sx4.old, ?_⟩
            (conv => whnf); refine VCall.mk (partedB List.length_append.symm (fun k hk => hk) (sx4.view 0 rfl) (by rw [List.length_append]; omega)) ?_
            rintro _ G5 ⟨ga5, cell, ra, rc, hcl, rfl, gr5⟩
            have sx5 := sx4.add ga5 (pV ra rc (asI (repsD A B)) (Fresh G4 G5)) gr5 (fun k hk => hk)
            refine ⟨sx5.old, ?_⟩
            (conv => whnf); refine stNB (cs := dfaL cell (.slice ra (repsD A B).length rc) (.slice none 0 0) (.slice none 0 0)) sx5 2 (by rw [dfaL_len hcl]; rfl) rfl (by rw [dfaL_len hcl]; decide) (dfaL_ones rfl rfl rfl) fun GF sf => ?_
            rw [splice_whole (by rw [dfaL_len hcl]; rfl)] at sf
            (conv => whnf); exact ⟨rfl, pp, rfl, sf.old, cell, ra, rc, hcl, sf.blk 2 rfl, SlD.mono (sf.at_ 3 rfl) fun k hk => (sf.in_ 3 rfl hk).2⟩
        · -- the block first
          refine valloc _ (dfaL (List.replicate 256 0) (.slice none 0 0) (.slice none 0 0) (.slice none 0 0)) rfl (by kernel_rfl) ?_
          intro pp G3 gp3 gs3 gb3 ga3
          have sx3 := sx2.box gp3 gs3 gb3 ga3
          refine ⟨sx3.old, ?_⟩
          (conv => whnf); refine appSS sx3 0 1 slB_ rfl rfl lenB.1 tB_ones (by omega) (by decide) fun xa4 xc4 G4 sx4 _ => ?_
          refine ⟨sx4.old, ?_⟩
          (conv => whnf); refine VCall.mk (partedB List.length_append.symm (fun k hk => hk) (sx4.view 0 rfl) (by rw [List.length_append]; omega)) ?_
          rintro _ G5 ⟨ga5, cell, ra, rc, hcl, rfl, gr5⟩
          have sx5 := sx4.add ga5 (pV ra rc (asI (repsD A B)) (Fresh G4 G5)) gr5 (fun k hk => hk)
          refine ⟨sx5.old, ?_⟩
          (conv => whnf); refine stNB (cs := dfaL cell (.slice ra (repsD A B).length rc) (.slice none 0 0) (.slice none 0 0)) sx5 2 (by rw [dfaL_len hcl]; rfl) rfl (by rw [dfaL_len hcl]; decide) (dfaL_ones rfl rfl rfl) fun GF sf => ?_
          rw [splice_whole (by rw [dfaL_len hcl]; rfl)] at sf
          (conv => whnf); exact ⟨rfl, pp, rfl, sf.old, cell, ra, rc, hcl, sf.blk 2 rfl, SlD.mono (sf.at_ 3 rfl) fun k hk => (sf.in_ 3 rfl hk).2⟩
      · -- the block first
        refine valloc _ (dfaL (List.replicate 256 0) (.slice none 0 0) (.slice none 0 0) (.slice none 0 0)) rfl (by kernel_rfl) ?_
        intro pp G2 gp2 gs2 gb2 ga2
        have sx2 := sx1.box gp2 gs2 gb2 ga2
        refine ⟨sx2.old, ?_⟩
        (conv => whnf); refine VCall.mk (refcellsB (S := Old H1) (fun k hk => old_lt sx2.old hk) (hB.frame sx2.old) bok) ?_
        rintro _ G3 ⟨ga3, go3⟩
        obtain ⟨xa3, xc3, rfl, sx3⟩ := sx2.got ga3 go3
        refine ⟨sx3.old, ?_⟩
        (conv => whnf); refine appSS sx3 0 2 slB_ rfl rfl lenB.1 tB_ones (by omega) (by decide) fun xa4 xc4 G4 sx4 _ => ?_
        refine ⟨sx4.old, ?_⟩
        (conv => whnf); refine VCall.mk (partedB List.length_append.symm (fun k hk => hk) (sx4.view 0 rfl) (by rw [List.length_append]; omega)) ?_
        rintro _ G5 ⟨ga5, cell, ra, rc, hcl, rfl, gr5⟩
        have sx5 := sx4.add ga5 (pV ra rc (asI (repsD A B)) (Fresh G4 G5)) gr5 (fun k hk => hk)
        refine ⟨sx5.old, ?_⟩
        (conv => whnf); refine stNB (cs := dfaL cell (.slice ra (repsD A B).length rc) (.slice none 0 0) (.slice none 0 0)) sx5 1 (by rw [dfaL_len hcl]; rfl) rfl (by rw [dfaL_len hcl]; decide) (dfaL_ones rfl rfl rfl) fun GF sf => ?_
        rw [splice_whole (by rw [dfaL_len hcl]; rfl)] at sf
        (conv => whnf); exact ⟨rfl, pp, rfl, sf.old, cell, ra, rc, hcl, sf.blk 1 rfl, SlD.mono (sf.at_ 3 rfl) fun k hk => (sf.in_ 3 rfl hk).2⟩
    · -- the block first
      refine valloc _ (dfaL (List.replicate 256 0) (.slice none 0 0) (.slice none 0 0) (.slice none 0 0)) rfl (by kernel_rfl) ?_
      intro pp G1 gp1 gs1 gb1 ga1
      have sx1 := sx0.box gp1 gs1 gb1 ga1
      refine ⟨sx1.old, ?_⟩
      (conv => whnf); refine VCall.mk (refcellsB (S := Old H1) (fun k hk => old_lt sx1.old hk) (hA.frame sx1.old) aok) ?_
      rintro _ G2 ⟨ga2, go2⟩
      obtain ⟨xa2, xc2, rfl, sx2⟩ := sx1.got ga2 go2
      refine ⟨sx2.old, ?_⟩
      (conv => whnf); refine VCall.mk (refcellsB (S := Old H1) (fun k hk => old_lt sx2.old hk) (hB.frame sx2.old) bok) ?_
      rintro _ G3 ⟨ga3, go3⟩
      obtain ⟨xa3, xc3, rfl, sx3⟩ := sx2.got ga3 go3
      refine ⟨sx3.old, ?_⟩
      (conv => whnf); refine appSS sx3 1 2 slB_ rfl rfl lenB.1 tB_ones (by omega) (by decide) fun xa4 xc4 G4 sx4 _ => ?_
      refine ⟨sx4.old, ?_⟩
      (conv => whnf); refine VCall.mk (partedB List.length_append.symm (fun k hk => hk) (sx4.view 1 rfl) (by rw [List.length_append]; omega)) ?_
      rintro _ G5 ⟨ga5, cell, ra, rc, hcl, rfl, gr5⟩
      have sx5 := sx4.add ga5 (pV ra rc (asI (repsD A B)) (Fresh G4 G5)) gr5 (fun k hk => hk)
      refine ⟨sx5.old, ?_⟩
      (conv => whnf); refine stNB (cs := dfaL cell (.slice ra (repsD A B).length rc) (.slice none 0 0) (.slice none 0 0)) sx5 0 (by rw [dfaL_len hcl]; rfl) rfl (by rw [dfaL_len hcl]; decide) (dfaL_ones rfl rfl rfl) fun GF sf => ?_
      rw [splice_whole (by rw [dfaL_len hcl]; rfl)] at sf
      (conv => whnf); exact ⟨rfl, pp, rfl, sf.old, cell, ra, rc, hcl, sf.blk 0 rfl, SlD.mono (sf.at_ 3 rfl) fun k hk => (sf.in_ 3 rfl hk).2⟩
  · rintro p4 H2 junk2 ⟨ha2, cell, ra, rc, hcl, hk4, hreps⟩
    have g2 : GameB (Old H2) H2 p1 it A B la lb := ⟨g1.blk.agr ha2 g1.blk.lt, (hA.frame ha2).mono fun k hk => old_lt ha2 hk, (hB.frame ha2).mono fun k hk => old_lt ha2 hk⟩
    have hfin : ∀ {H' : Heap} {ps : List Pc}, St H2 H' ps → Agr (Old H) H H' := fun st => (st1.old.trans (ha2.mono fun k hk => st1.up hk)).trans (st.old.mono fun k hk => old_lt (st1.old.trans (ha2.mono fun k hk => st1.up hk)) hk)
    have hlt8 := hg.byl
    have hup2 := repsD_up A B
    have hrl : (asI (repsD A B)).length = (repsD A B).length := by unfold asI; rw [List.length_map]
    have hrg : ∀ (k r : Nat), (repsD A B)[k]? = some r → (asI (repsD A B))[k]? = some (r : Int) := fun k r h => by unfold asI; rw [List.getElem?_map, h]; rfl
    generalize repsD A B = by_ at *
    have hnx : ∀ {H' : Heap} {ps : List Pc}, St H2 H' ps → ∀ (n : Nd) (c : Nat), Reach (gameG it a b) by_ root n → c < 256 → FnOk Try.prog 88 #[.agg (la ++ lb ++ [Value.bool it]).toArray, ndV n, .int .u8 (c : Int)] H' fun v H'' => Agr (Old H') H' H'' ∧ SlO tNd none_ H'' H'.size 159 v ((gameG it a b).next n c) := fun st n c hn hc =>
      gnext_c (S := Old H2) (fun k hk => old_lt st.old hk) ⟨la, lb, rfl, g2.a.frame st.old, g2.b.frame st.old⟩ ho n (hR n hn) hc
    have hend : ∀ {H' : Heap}, Agr (Old H2) H2 H' → ∀ n, Reach (gameG it a b) by_ root n → Pure Try.prog 87 #[.agg (la ++ lb ++ [Value.bool it]).toArray, ndV n] H' (.bool ((gameG it a b).ends n)) := fun hh n hn =>
      gends_p (S := Old H2) (fun k hk => old_lt hh hk) ⟨la, lb, rfl, g2.a.frame hh, g2.b.frame hh⟩ ho n (hR n hn)
    have hgl : (la ++ lb ++ [Value.bool it]).length = 519 := by have := (dfa_len g2.a).1; have := (dfa_len g2.b).1; simp; omega
    have hgld : ∀ {H' : Heap} {ps : List Pc} (S0 : Nat → Prop) {K : Value → Prop}, St H2 H' ps → S0 p1 → K (.agg (la ++ lb ++ [Value.bool it]).toArray) → VDet Try.prog (Instr.loadAt 123 (.pointer (some ⟨p1, 0, none⟩))) S0 H' K := fun S0 K st hS0 hK =>
      ldN (cs := la ++ lb ++ [Value.bool it]) (by rw [hgl]; exact ag123) ((g2.blk.agr st.old g2.blk.lt).cells fun j v hv => by rw [Nat.zero_add]; exact hv) hS0 hK
    have hrd : ∀ {H' : Heap} {ps : List Pc} (S0 : Nat → Prop) {K : Value → Prop}, St H2 H' ps → S0 p4 → K (.slice ra by_.length rc) → VDet Try.prog (Instr.loadAt 36 (.pointer (some ⟨p4, 0 + 256, none⟩))) S0 H' K := fun S0 K st hS0 hK =>
      ld1 ct36 (by rw [(hk4.agr st.old hk4.lt).cell]; exact dfaL_256 hcl) hS0 hK
    generalize gameG it a b = g at *
    generalize la ++ lb ++ [Value.bool it] = lg at *
    have hshort : ∀ (F : List NW) (L : Nat), RowOk g by_ root L F → F.length ≤ M := fun F L h => by
      rw [← List.length_map (f := (·.1))]
      exact hg.card _ h.nd fun n hn => by
        obtain ⟨x, hx, rfl⟩ := List.mem_map.1 hn
        obtain ⟨-, h2, h3⟩ := h.ok x hx
        exact to_reach .refl h2 h3
    have hshortM : ∀ (F : List NW) (L : Nat) d, RowMid g by_ root L F d → F.length ≤ M := fun F L d h => by
      rw [← List.length_map (f := (·.1))]
      exact hg.card _ h.nd fun n hn => by
        obtain ⟨x, hx, rfl⟩ := List.mem_map.1 hn
        obtain ⟨-, h2, h3⟩ := h.ok x hx
        exact to_reach .refl h2 h3
    (conv => whnf); refine vbuildS Try.underlying156 rfl _ row_z (List.replicate 258 (.slice none 0 0)) rfl ?_
    (conv => whnf); refine row_new (St.nil H2) fun p5 H5 st5 => ?_
    (conv => whnf); refine vbuildS Try.underlying159 rfl (ndV root) spot_z (ndL root) rfl ?_
    (conv => whnf); refine put_v (n := root) (w := []) st5 0 rfl rowP_new (hin root .refl) (fun x hx => by cases hx) (fun b hb => by cases hb) (by simp) fun vs6 F6 r6 H6 st6 hr6 hput6 => ?_
    have hF6 : F6 = [(root, [])] := by
      rcases hput6 with ⟨i, u, hi, -⟩ | ⟨-, -, h⟩
      · simp at hi
      · exact h
    subst hF6
    (conv => whnf)
    refine VLoop.mk [6, 7] (fun x : Nat × Bool × List NW => match x with | (i, sm, F) => [.bool sm, .int .i64 (i : Int)])
      (fun x H7 => x.1 ≤ x.2.2.length ∧ (∀ y ∈ x.2.2, y.2 = []) ∧ RInv g by_ root (x.2.2.map (·.1)) (fun t p => Reach g by_ root p ∧ ∃ b, b ∈ by_ ∧ t ∈ g.next p b) (fun n b t => n ∈ (x.2.2.map (·.1)).take x.1 ∧ b ∈ by_ ∧ t ∈ g.next n b) ∧
        (x.2.1 = true → ∃ n, Reach g by_ root n ∧ g.ends n = true) ∧ (x.2.1 = false → ∀ n ∈ (x.2.2.map (·.1)).take x.1, g.ends n = false) ∧ ∃ vs, RowP vs x.2.2 ∧ St H2 H7 [pRow p5 vs x.2.2]) (fun x _ => M - x.1) ?_ ?_
    · (conv => whnf)
      exact ⟨(0, false, [(root, [])]), rfl, by simp, by simp, RInv.startA.weak fun n b t h => by simp at h, fun h => (by cases h), by simp, vs6, hr6, st6⟩
    · rintro ⟨i, sm, F⟩ H7 junk7 ⟨hi, hFw, hinv, hsm, hsmf, vs7, hr7, st7⟩
      simp only at hi hFw hinv hsm hsmf hr7 st7
      have hFM : F.length ≤ M := by
        rw [← List.length_map (f := (·.1))]
        exact hg.card _ hinv.nodup hinv.reach
      obtain ⟨v0, hv0⟩ := get_some (l := vs7) (k := 0) (by rw [hr7.len]; decide)
      have hk7 : Blk H7 p5 156 vs7 := st7.fblk 0 rfl
      obtain ⟨a0, c0, e0, hvs⟩ := st7.fview 0 rfl hv0 (xs := F.map (·.1)) (T := tNd) (e := 159) rfl
      rw [List.length_map] at e0
      subst e0
      (conv => whnf); refine fa fl156_0 ?_
      (conv => whnf); refine ld1 (v := .slice a0 F.length c0) ct153 (by rw [hk7.cell]; exact hv0) trivial ?_
      have hvsr : ∀ (m : Nat) (y : NW), F[m]? = some y → (F.map (·.1))[m]? = some y.1 := fun m y h => by rw [List.getElem?_map, h]; rfl
      cases sm with
      | false =>
        have hends := hsmf rfl
        by_cases hlt : i < F.length
        · obtain ⟨y, hy⟩ := get_some hlt
          have hn := hvsr i y hy
          generalize y.1 = n at hn
          have hnmem := List.mem_of_getElem? hn
          have hnr := hinv.reach n hnmem
          have d1 : decide ((i : Int) < (F.length : Int)) = true := decide_eq_true (by omega)
          (conv => whnf); rw [d1]
          (conv => whnf); refine VDraw.held (Old H7) 9 (sq [0,1,2,3,4,5,6,7] (.f 8 (.f 9 .e))) rfl (by kernel_rfl) ?_
          (conv => whnf); refine hgld _ st7 (old_lt st7.old g2.blk.lt) ?_
          (conv => whnf); refine fa fl156_0 ?_
          (conv => whnf); refine ld1 (v := .slice a0 F.length c0) ct153 (by rw [hk7.cell]; exact hv0) hk7.lt ?_
          (conv => whnf); refine ixrn (i := i) (x := n) sl153 hvs (by simp) hn rfl ?_
          rintro b8 o8 cs8 hS8 hc8 rfl
          (conv => whnf); refine ldN (cs := ndL n) ag159 hc8 hS8 ?_
          (conv => whnf); refine pures (hend st7.old n hnr) fun H8 ha8 => ?_
          refine ⟨ha8, ?_⟩
          have st8 := st7.call ha8
          (conv => whnf)
          refine VLoop.mk [8] (fun x : Nat × List NW => match x with | (k, F') => [.int .i64 (k : Int)])
            (fun x H9 => x.1 ≤ by_.length ∧ (x.2.map (·.1))[i]? = some n ∧ (∀ y ∈ x.2, y.2 = []) ∧ RInv g by_ root (x.2.map (·.1)) (fun t p => Reach g by_ root p ∧ ∃ b, b ∈ by_ ∧ t ∈ g.next p b) (fun n' b t => (n' ∈ (x.2.map (·.1)).take i ∧ b ∈ by_ ∧ t ∈ g.next n' b) ∨ (n' = n ∧ b ∈ by_.take x.1 ∧ t ∈ g.next n b)) ∧
              (∀ m ∈ (x.2.map (·.1)).take i, g.ends m = false) ∧ ∃ vs, RowP vs x.2 ∧ St H2 H9 [pRow p5 vs x.2]) (fun x _ => by_.length - x.1) ?_ ?_
          · (conv => whnf)
            exact ⟨(0, F), rfl, Nat.zero_le _, hn, hFw, hinv.weak fun n' b t h => by simpa using h, hends, vs7, hr7, st8⟩
          · rintro ⟨k, F9⟩ H9 junk9 ⟨hk, hn9, hFw9, hinv9, hends9, vs9, hr9, st9⟩
            simp only at hk hn9 hFw9 hinv9 hends9 hr9 st9
            (conv => whnf); refine fa fl38_1 ?_
            (conv => whnf); refine hrd _ st9 trivial ?_
            (conv => whnf); refine VIte.mk (fun hz => ?_) (fun hz => ?_) <;> simp only [decide_eq_true_eq, decide_eq_false_iff_not] at hz
            · obtain ⟨c, hc⟩ := get_some (l := by_) (k := k) (by omega)
              have hcmem := List.mem_of_getElem? hc
              have hc8 := hlt8 c hcmem
              have hk9 : Blk H9 p5 156 vs9 := st9.fblk 0 rfl
              obtain ⟨v9, hv9⟩ := get_some (l := vs9) (k := 0) (by rw [hr9.len]; decide)
              obtain ⟨a9, c9, e9, hvs9⟩ := st9.fview 0 rfl hv9 (xs := F9.map (·.1)) (T := tNd) (e := 159) rfl
              rw [List.length_map] at e9
              subst e9
              have hi9 := (List.getElem?_eq_some_iff.1 hn9).1
              (conv => whnf); refine VDraw.held (Old H9) 15 (sq [0,1,2,3,4,5,6,7,8,9,10,11,12,13] (.f 14 (.f 15 .e))) rfl (by kernel_rfl) ?_
              (conv => whnf); refine hgld _ st9 (old_lt st9.old g2.blk.lt) ?_
              (conv => whnf); refine fa fl156_0 ?_
              (conv => whnf); refine ld1 (v := .slice a9 F9.length c9) ct153 (by rw [hk9.cell]; exact hv9) hk9.lt ?_
              (conv => whnf); refine ixrn (i := i) (x := n) sl153 hvs9 (by simp) hn9 rfl ?_
              rintro b10 o10 cs10 hS10 hc10 rfl
              (conv => whnf); refine ldN (cs := ndL n) ag159 hc10 hS10 ?_
              (conv => whnf); refine fa fl38_1 ?_
              (conv => whnf); refine hrd _ st9 (old_lt st9.old hk4.lt) ?_
              (conv => whnf); refine ixrn (i := k) (x := (c : Int)) sl36 (hreps.frame st9.old) hrl.symm (hrg k c hc) rfl ?_
              rintro b11 o11 cs11 hS11 hc11 ⟨rfl, -⟩
              (conv => whnf); refine ld1 ct3 hc11.one (old_lt st9.old hS11) ?_
              (conv => whnf); rw [w8 (x := (c : Int)) (by omega) (by omega)]
              refine VCall.mk (hnx st9 n c hnr hc8) ?_
              rintro _ H10 ⟨ha10, hown10⟩
              refine ⟨ha10, ?_⟩
              obtain ⟨a10, c10, rfl, st10⟩ := st9.got ha10 hown10
              have hmax := st10.max 1 rfl
              unfold maxLen at hmax
              have htr : ∀ t, t ∈ g.next n c → Reach g by_ root t := fun t ht => hnr.step hcmem ht
              generalize hls : g.next n c = ls at *
              (conv => whnf)
              refine VLoop.mk [10] (fun x : Nat × List NW => match x with | (j, F') => [.int .i64 (j : Int)])
                (fun x H11 => x.1 ≤ ls.length ∧ (x.2.map (·.1))[i]? = some n ∧ (∀ y ∈ x.2, y.2 = []) ∧ RInv g by_ root (x.2.map (·.1)) (fun t p => Reach g by_ root p ∧ ∃ b, b ∈ by_ ∧ t ∈ g.next p b) (fun n' b t => ((n' ∈ (x.2.map (·.1)).take i ∧ b ∈ by_ ∧ t ∈ g.next n' b) ∨ (n' = n ∧ b ∈ by_.take k ∧ t ∈ g.next n b)) ∨ (n' = n ∧ b = c ∧ t ∈ ls.take x.1)) ∧
                  (∀ m ∈ (x.2.map (·.1)).take i, g.ends m = false) ∧ ∃ vs, RowP vs x.2 ∧ St H2 H11 [pRow p5 vs x.2, pS tNd 159 a10 ls.length c10 ls]) (fun x _ => ls.length - x.1) ?_ ?_
              · (conv => whnf)
                exact ⟨(0, F9), rfl, Nat.zero_le _, hn9, hFw9, hinv9.weak fun n' b t h => by simpa using h, hends9, vs9, hr9, st10⟩
              · rintro ⟨j, F11⟩ H11 junk11 ⟨hj, hn11, hFw11, hinv11, hends11, vs11, hr11, st11⟩
                simp only at hj hn11 hFw11 hinv11 hends11 hr11 st11
                (conv => whnf); refine VIte.mk (fun hz2 => ?_) (fun hz2 => ?_) <;> simp only [decide_eq_true_eq, decide_eq_false_iff_not] at hz2
                · obtain ⟨t, ht⟩ := get_some (l := ls) (k := j) (by omega)
                  have htmem := List.mem_of_getElem? ht
                  have htR := htr t htmem
                  have hFM11 : F11.length ≤ M := by
                    rw [← List.length_map (f := (·.1))]
                    exact hg.card _ hinv11.nodup hinv11.reach
                  have hi11 := (List.getElem?_eq_some_iff.1 hn11).1
                  (conv => whnf); refine ixO (j := j) sl153 st11 1 rfl ht rfl fun b12 o12 cs12 hO12 hc12 hr12 => ?_
                  obtain rfl := hr12
                  (conv => whnf); refine ldN (cs := ndL t) ag159 hc12 trivial ?_
                  (conv => whnf); refine put_v (n := t) (w := []) st11 0 rfl hr11 (hin t htR) (fun x hx => ⟨hg.ok _ (hinv11.reach _ (List.mem_map.2 ⟨x, hx, rfl⟩)), by rw [hFw11 x hx], by rw [hFw11 x hx]; exact fun b hb => by cases hb⟩) (fun b hb => by cases hb) (by omega) fun vs13 F13 r13 H13 st13 hr13 hput => ?_
                  have hord := put_order hput
                  have hpre : ∀ m, m < (F11.map (·.1)).length → (F13.map (·.1))[m]? = (F11.map (·.1))[m]? := fun m hm => by
                    rcases hord with ⟨-, e⟩ | ⟨-, e⟩
                    · rw [e]
                    · rw [e, List.getElem?_append_left hm]
                  have htake : (F13.map (·.1)).take i = (F11.map (·.1)).take i := by
                    rcases hord with ⟨-, e⟩ | ⟨-, e⟩
                    · rw [e]
                    · rw [e, List.take_append_of_le_length (by omega)]
                  have hsee := hinv11.seeA (List.mem_of_getElem? hn11) hcmem (by rw [hls]; exact htmem) hord
                  (conv => whnf); rw [w64 (x := (j : Int) + 1) (by omega) (by omega)]
                  refine ⟨rfl, (j + 1, F13), rfl, ⟨by simp only; omega, by simp only; rw [hpre i hi11]; exact hn11, fun y hy => ?_, hsee.weak fun n' b' x h => ?_, by simp only; rw [htake]; exact hends11, vs13, hr13, st13⟩, by simp only; omega⟩
                  · rcases put_words hput y hy with h | h
                    · exact hFw11 y h
                    · rw [h]
                  · simp only at h
                    rw [htake, take_succ_snoc ht, List.mem_append, List.mem_singleton] at h
                    rcases h with h | ⟨h1, h2, h3 | h3⟩
                    · exact .inl (.inl h)
                    · exact .inl (.inr ⟨h1, h2, h3⟩)
                    · exact .inr ⟨h1, h2, h3⟩
                · obtain rfl : j = ls.length := by omega
                  rw [List.take_length] at hinv11
                  (conv => whnf); rw [w64 (x := (k : Int) + 1) (by omega) (by omega)]
                  refine ⟨rfl, (k + 1, F11), rfl, ⟨by simp only; omega, hn11, hFw11, hinv11.weak fun n' b' t h => ?_, hends11, vs11, hr11, st11.pick [0] (by decide)⟩, by simp only; omega⟩
                  rcases h with h | ⟨rfl, h1, h2⟩
                  · exact .inl (.inl h)
                  · rw [take_succ_snoc hc, List.mem_append, List.mem_singleton] at h1
                    rcases h1 with h1 | rfl
                    · exact .inl (.inr ⟨rfl, h1, h2⟩)
                    · exact .inr ⟨rfl, rfl, hls ▸ h2⟩
            · obtain rfl : k = by_.length := by omega
              rw [List.take_length] at hinv9
              have hi9 := (List.getElem?_eq_some_iff.1 hn9).1
              have hFM9 : F9.length ≤ M := by
                rw [← List.length_map (f := (·.1))]
                exact hg.card _ hinv9.nodup hinv9.reach
              (conv => whnf); rw [w64 (x := (i : Int) + 1) (by omega) (by omega)]
              refine ⟨rfl, (i + 1, g.ends n, F9), rfl, ⟨by simp only; simp only [List.length_map] at hi9; omega, hFw9, hinv9.weak fun n' b' t h => ?_, fun h => ⟨n, hnr, h⟩, fun h m hm => ?_, vs9, hr9, st9⟩, by simp only; simp only [List.length_map] at hi9; omega⟩
              · obtain ⟨h1, h2, h3⟩ := h
                rw [take_succ_snoc hn9, List.mem_append, List.mem_singleton] at h1
                rcases h1 with h1 | rfl
                · exact .inl ⟨h1, h2, h3⟩
                · exact .inr ⟨rfl, h2, h3⟩
              · rw [take_succ_snoc hn9, List.mem_append, List.mem_singleton] at hm
                rcases hm with hm | rfl
                · exact hends9 m hm
                · exact h
        · have d1 : decide ((i : Int) < (F.length : Int)) = false := decide_eq_false (by omega)
          (conv => whnf); rw [d1]
          (conv => whnf)
          refine ⟨hfin st7, [], false, rfl, fun h => (by cases h), fun _ => ⟨rfl, fun u hu hul => ?_⟩⟩
          obtain ⟨m, rfl, hm⟩ := hul
          obtain ⟨w, h1, h2, h3, -⟩ := leads_less hcov hu hm
          obtain ⟨t, h4, h5⟩ := leads_to.1 h3
          have hil : i = (F.map (·.1)).length := by rw [List.length_map]; omega
          rw [hil, List.take_length] at hinv hends
          have hall := hinv.all fun n b t k1 k2 k3 => ⟨k1, k2, k3⟩
          rw [hends t ((hall.1 t).2 (to_reach .refl h2 h4))] at h5
          cases h5
      | true =>
        obtain ⟨n, hnr, hne⟩ := hsm rfl
        obtain ⟨w0, hw0, ht0⟩ := reach_to hnr
        obtain ⟨u, hub, hul, huM⟩ := hD ⟨w0, fun b hb => hlt8 b (hw0 b hb), leads_to.2 ⟨n, ht0, hne⟩⟩
        have st8 := st7.pick [] (by decide)
        cases hd : decide ((i : Int) < (F.length : Int))
        all_goals
          (conv => whnf); rw [hd]
          (conv => whnf); refine vbuildS Try.underlying156 rfl _ row_z (List.replicate 258 (.slice none 0 0)) rfl ?_
          (conv => whnf); refine row_new st8 fun p9 H9 st9 => ?_
          (conv => whnf); refine vbuildS Try.underlying159 rfl (ndV root) spot_z (ndL root) rfl ?_
          (conv => whnf); refine put_v (n := root) (w := []) st9 0 rfl rowP_new (hin root .refl) (fun x hx => by cases hx) (fun b hb => by cases hb) (by simp) fun vs10 F10 r10 H10 st10 hr10 hput10 => ?_
          have hF10 : F10 = [(root, [])] := by
            rcases hput10 with ⟨i, u, hi, -⟩ | ⟨-, -, h⟩
            · simp at hi
            · exact h
          subst hF10
          (conv => whnf)
          refine VLoop.mk [11] (fun x : Nat × Nat × List NW => match x with | (L, p, F) => [.pointer (some ⟨p, 0, none⟩)])
            (fun x H11 => RowOk g by_ root x.1 x.2.2 ∧ Dry g root x.1 ∧ x.1 ≤ u.length ∧ ∃ vs, RowP vs x.2.2 ∧ St H2 H11 [pRow x.2.1 vs x.2.2]) (fun x _ => u.length + 1 - x.1) ?_ ?_
          · (conv => whnf)
            exact ⟨(0, p9, [(root, [])]), rfl, RowOk.start, fun u _ h => absurd h (Nat.not_lt_zero _), Nat.zero_le _, vs10, hr10, st10⟩
          · rintro ⟨L, pn, Fn⟩ H11 junk11 ⟨hrow, hdry, hLu, vs11, hr11, st11⟩
            simp only at hrow hdry hLu hr11 st11
            have hFM11 := hshort Fn L hrow
            have hbys : ∀ x ∈ Fn, bytes_ x.2 := fun x hx b hb => hlt8 b ((hrow.ok x hx).2.1 b hb)
            have hrch : ∀ x ∈ Fn, Reach g by_ root x.1 := fun x hx => to_reach .refl (hrow.ok x hx).2.1 (hrow.ok x hx).2.2
            obtain ⟨v0', hv0'⟩ := get_some (l := vs11) (k := 0) (by rw [hr11.len]; decide)
            obtain ⟨v1', hv1'⟩ := get_some (l := vs11) (k := 1) (by rw [hr11.len]; decide)
            obtain ⟨a0', c0', e0, -⟩ := st11.fview 0 rfl hv0' (xs := Fn.map (·.1)) (T := tNd) (e := 159) rfl
            obtain ⟨a1', c1', e1, -⟩ := st11.fview 0 rfl hv1' (xs := Fn.map (·.2)) (T := tW) (e := 9) rfl
            rw [List.length_map] at e0 e1
            subst e0; subst e1
            have hspots : ∀ {H' : Heap} {ps : List Pc} (st : St H2 H' ps), ps[0]? = some (pRow pn vs11 Fn) → SlD tNd (Old H') H' a0' c0' (Fn.map (·.1)) := fun st hp => by
              obtain ⟨a', c', e, h⟩ := st.fview 0 hp hv0' (xs := Fn.map (·.1)) (T := tNd) (e := 159) rfl
              injection e with e2 e3 e4
              subst e2; subst e4
              exact h
            have hwords : ∀ {H' : Heap} {ps : List Pc} (st : St H2 H' ps), ps[0]? = some (pRow pn vs11 Fn) → SlD tW (Old H') H' a1' c1' (Fn.map (·.2)) := fun st hp => by
              obtain ⟨a', c', e, h⟩ := st.fview 0 hp hv1' (xs := Fn.map (·.2)) (T := tW) (e := 9) rfl
              injection e with e2 e3 e4
              subst e2; subst e4
              exact h
            have hld0 : ∀ {H' : Heap} {ps : List Pc} (S0 : Nat → Prop) {K : Value → Prop} (st : St H2 H' ps), ps[0]? = some (pRow pn vs11 Fn) → (∀ k, k < H'.size → S0 k) → K (.slice a0' Fn.length c0') → VDet Try.prog (Instr.loadAt 153 (.pointer (some ⟨pn, 0 + 0, none⟩))) S0 H' K := fun S0 K st hp hS0 hK => by
              have hbk : Blk _ pn 156 vs11 := st.fblk 0 hp
              exact ld1 ct153 (by rw [hbk.cell]; exact hv0') (hS0 pn hbk.lt) hK
            have hld1 : ∀ {H' : Heap} {ps : List Pc} (S0 : Nat → Prop) {K : Value → Prop} (st : St H2 H' ps), ps[0]? = some (pRow pn vs11 Fn) → (∀ k, k < H'.size → S0 k) → K (.slice a1' Fn.length c1') → VDet Try.prog (Instr.loadAt 57 (.pointer (some ⟨pn, 0 + 1, none⟩))) S0 H' K := fun S0 K st hp hS0 hK => by
              have hbk : Blk _ pn 156 vs11 := st.fblk 0 hp
              exact ld1 ct57 (by rw [hbk.cell]; exact hv1') (hS0 pn hbk.lt) hK
            (conv => whnf)
            refine VLoop.mk [12, 13, 14] (fun x : Nat × List Nat × Bool => match x with | (i, w, f) => [.string (bA w), .bool f, .int .i64 (i : Int)])
              (fun x H12 => x.1 ≤ Fn.length ∧ (x.2.2 = false → ∀ y ∈ Fn.take x.1, g.ends y.1 = false) ∧ (x.2.2 = true → ∃ y ∈ Fn, g.ends y.1 = true ∧ x.2.1 = y.2 ∧ ∀ z ∈ Fn.take x.1, g.ends z.1 = true → lexL y.2 z.2) ∧ St H2 H12 [pRow pn vs11 Fn]) (fun x _ => Fn.length - x.1) ?_ ?_
            · (conv => whnf)
              exact ⟨(0, [], false), rfl, Nat.zero_le _, by simp, fun h => (by cases h), st11⟩
            · rintro ⟨m, best, found⟩ H12 junk12 ⟨hm, hf0, hf1, st12⟩
              simp only at hm hf0 hf1
              have hsp := hspots st12 rfl
              have hwd := hwords st12 rfl
              (conv => whnf); refine fa fl156_0 ?_
              (conv => whnf); refine hld0 _ st12 rfl (fun _ _ => trivial) ?_
              (conv => whnf); refine VIte.mk (fun hz => ?_) (fun hz => ?_) <;> simp only [decide_eq_true_eq, decide_eq_false_iff_not] at hz
              · obtain ⟨y, hy⟩ := get_some (l := Fn) (k := m) (by omega)
                have hymem := List.mem_of_getElem? hy
                have hyr := hrch y hymem
                have hyl := (hrow.ok y hymem).1
                have hy1 : (Fn.map (·.1))[m]? = some y.1 := by rw [List.getElem?_map, hy]; rfl
                have hy2 : (Fn.map (·.2))[m]? = some y.2 := by rw [List.getElem?_map, hy]; rfl
                have htk : ∀ z, z ∈ Fn.take (m + 1) ↔ z ∈ Fn.take m ∨ z = y := fun z => by rw [take_succ_snoc hy, List.mem_append, List.mem_singleton]
                (conv => whnf); refine VSeq.run ?_
                (conv => whnf); refine VDraw.quiet (Old H12) rfl (by kernel_rfl) ?_
                (conv => whnf); refine hgld _ st12 (old_lt st12.old g2.blk.lt) ?_
                (conv => whnf); refine fa fl156_0 ?_
                (conv => whnf); refine hld0 _ st12 rfl (fun _ h => h) ?_
                (conv => whnf); refine ixrn (i := m) (x := y.1) sl153 hsp (by simp) hy1 rfl ?_
                rintro b13 o13 cs13 hS13 hc13 rfl
                (conv => whnf); refine ldN (cs := ndL y.1) ag159 hc13 hS13 ?_
                (conv => whnf); refine pureq (fun H' h' => hend (st12.old.trans (h'.mono fun k hk => old_lt st12.old hk)) y.1 hyr) ?_
                cases hey : g.ends y.1 with
                | false =>
                  (conv => whnf)
                  intro H14 ha14
                  have st14 := st12.call ha14
                  (conv => whnf); rw [w64 (x := (m : Int) + 1) (by omega) (by omega)]
                  refine ⟨rfl, (m + 1, best, found), rfl, ⟨by simp only; omega, fun h z hz2 => ?_, fun h => ?_, st14⟩, by simp only; omega⟩
                  · rcases (htk z).1 hz2 with hz3 | rfl
                    · exact hf0 h z hz3
                    · exact hey
                  · obtain ⟨x, k1, k2, k3, k4⟩ := hf1 h
                    refine ⟨x, k1, k2, k3, fun z hz2 hz3 => ?_⟩
                    rcases (htk z).1 hz2 with hz4 | rfl
                    · exact k4 z hz4 hz3
                    · rw [hey] at hz3; cases hz3
                | true =>
                  have htake : ∀ {H14 : Heap}, Agr (Old H12) H12 H14 → (found = true → ¬ lexL best y.2) → (∃ z ∈ Fn, g.ends z.1 = true ∧ y.2 = z.2 ∧ ∀ x ∈ Fn.take (m + 1), g.ends x.1 = true → lexL z.2 x.2) := fun _ hb => by
                    refine ⟨y, hymem, hey, rfl, fun x hx hex => ?_⟩
                    rcases (htk x).1 hx with hx2 | rfl
                    · cases hfd : found with
                      | false => rw [hf0 hfd x hx2] at hex; cases hex
                      | true =>
                        obtain ⟨z, k1, k2, k3, k4⟩ := hf1 hfd
                        have h2 := lexL_total (hb hfd)
                        have hzl := (hrow.ok z k1).1
                        have hxl := (hrow.ok x (List.mem_of_mem_take hx2)).1
                        refine lexL_trans (by rw [hyl, k3, hzl]) (by rw [k3, hzl, hxl]) h2 ?_
                        rw [k3]
                        exact k4 x hx2 hex
                    · exact lexL_refl _
                  cases hfd : found
                  case' false =>
                    have hbt : found = true → ¬ lexL best y.2 := fun h => by rw [hfd] at h; cases h
                    (conv => whnf)
                  case' true =>
                    obtain ⟨z, k1, k2, k3, k4⟩ := hf1 hfd
                    have hzl := (hrow.ok z k1).1
                    (conv => whnf); refine fa fl156_1 ?_
                    (conv => whnf); refine hld1 _ st12 rfl (fun _ h => h) ?_
                    (conv => whnf); refine ixrn (i := m) (x := y.2) sl57 hwd (by simp) hy2 rfl ?_
                    rintro b15 o15 cs15 hS15 hc15 rfl
                    (conv => whnf); refine ld1 ct9 hc15.one hS15 ?_
                    (conv => whnf); refine vlsss ?_
                    have hless := less_lex (u := y.2) (v := best) (by rw [k3, hyl, hzl]) (hbys y hymem) (by rw [k3]; exact hbys z k1)
                    have hless2 : ∀ r : Bool, (r = true ↔ ¬ lexL best y.2) → Op.bytesLess (bA y.2).toList (bA best).toList = r := fun r hr => by
                      rw [ByteArray.toList_eq, ByteArray.toList_eq, bA_data, bA_data, Bool.eq_iff_iff, hless, hr]
                    by_cases hlx : lexL best y.2
                    case' pos =>
                      rw [hless2 false (by simp [hlx])]
                      (conv => whnf)
                      intro H14 ha14
                      have st14 := st12.call ha14
                      (conv => whnf); rw [w64 (x := (m : Int) + 1) (by omega) (by omega)]
                      refine ⟨rfl, (m + 1, best, true), rfl, ⟨by simp only; omega, fun h => (by cases h), fun _ => ⟨z, k1, k2, k3, fun x hx hex => ?_⟩, st14⟩, by simp only; omega⟩
                      rcases (htk x).1 hx with hx2 | rfl
                      · exact k4 x hx2 hex
                      · rw [← k3]; exact hlx
                    case' neg =>
                      rw [hless2 true (by simp [hlx])]
                      have hbt : found = true → ¬ lexL best y.2 := fun _ => hlx
                      (conv => whnf)
                  all_goals
                    intro H14 ha14
                    have st14 := st12.call ha14
                    have hwd14 := hwords st14 rfl
                    (conv => whnf); refine fa fl156_1 ?_
                    (conv => whnf); refine hld1 _ st14 rfl (fun _ _ => trivial) ?_
                    (conv => whnf); refine ixrn (i := m) (x := y.2) sl57 hwd14 (by simp) hy2 rfl ?_
                    rintro b16 o16 cs16 hS16 hc16 rfl
                    (conv => whnf); refine ld1 ct9 hc16.one trivial ?_
                    (conv => whnf); rw [w64 (x := (m : Int) + 1) (by omega) (by omega)]
                    exact ⟨rfl, (m + 1, y.2, true), rfl, ⟨by simp only; omega, fun h => (by cases h), fun _ => htake ha14 hbt, st14⟩, by simp only; omega⟩
              · obtain rfl : m = Fn.length := by omega
                rw [List.take_length] at hf0 hf1
                cases found with
                | true =>
                  obtain ⟨y, k1, k2, rfl, k4⟩ := hf1 rfl
                  (conv => whnf)
                  exact ⟨hfin st12, y.2, true, rfl, fun _ => hrow.found hcov hlt8 hdry k1 k2 k4, fun h => (by cases h)⟩
                | false =>
                  have hno := hf0 rfl
                  have hdry2 := hrow.dry hcov hdry hno
                  have hLu2 : L + 1 ≤ u.length := by
                    apply Classical.byContradiction
                    intro h
                    exact hdry2 u hub (by omega) hul
                  (conv => whnf); refine vbuildS Try.underlying156 rfl _ row_z (List.replicate 258 (.slice none 0 0)) rfl ?_
                  (conv => whnf); refine row_new st12 fun pt H13 st13 => ?_
                  (conv => whnf)
                  refine VLoop.mk [16] (fun x : Nat × List NW => match x with | (i, G) => [.int .i64 (i : Int)])
                    (fun x H14 => x.1 ≤ Fn.length ∧ RowMid g by_ root (L + 1) x.2 (fun t w => ∃ y ∈ Fn.take x.1, ∃ c ∈ by_, t ∈ g.next y.1 c ∧ w = y.2 ++ [c]) ∧ ∃ vs, RowP vs x.2 ∧ St H2 H14 [pRow pn vs11 Fn, pRow pt vs x.2]) (fun x _ => Fn.length - x.1) ?_ ?_
                  · (conv => whnf)
                    exact ⟨(0, []), rfl, Nat.zero_le _, RowMid.start.weak fun t w h => by simp at h, _, rowP_new, st13⟩
                  · rintro ⟨m, G14⟩ H14 junk14 ⟨hm, hmid14, vs14, hr14, st14⟩
                    simp only at hm hmid14 hr14 st14
                    (conv => whnf); refine fa fl156_0 ?_
                    (conv => whnf); refine hld0 _ st14 rfl (fun _ _ => trivial) ?_
                    (conv => whnf); refine VIte.mk (fun hz => ?_) (fun hz => ?_) <;> simp only [decide_eq_true_eq, decide_eq_false_iff_not] at hz
                    · obtain ⟨y, hy⟩ := get_some (l := Fn) (k := m) (by omega)
                      have hymem := List.mem_of_getElem? hy
                      have hyr := hrch y hymem
                      obtain ⟨hyl, hyb, hyt⟩ := hrow.ok y hymem
                      have hy1 : (Fn.map (·.1))[m]? = some y.1 := by rw [List.getElem?_map, hy]; rfl
                      have hy2 : (Fn.map (·.2))[m]? = some y.2 := by rw [List.getElem?_map, hy]; rfl
                      have htk : ∀ z, z ∈ Fn.take (m + 1) ↔ z ∈ Fn.take m ∨ z = y := fun z => by rw [take_succ_snoc hy, List.mem_append, List.mem_singleton]
                      (conv => whnf)
                      refine VLoop.mk [17] (fun x : Nat × List NW => match x with | (k, G) => [.int .i64 (k : Int)])
                        (fun x H15 => x.1 ≤ by_.length ∧ RowMid g by_ root (L + 1) x.2 (fun t w => (∃ y ∈ Fn.take m, ∃ c ∈ by_, t ∈ g.next y.1 c ∧ w = y.2 ++ [c]) ∨ ∃ c ∈ by_.take x.1, t ∈ g.next y.1 c ∧ w = y.2 ++ [c]) ∧ ∃ vs, RowP vs x.2 ∧ St H2 H15 [pRow pn vs11 Fn, pRow pt vs x.2]) (fun x _ => by_.length - x.1) ?_ ?_
                      · (conv => whnf)
                        exact ⟨(0, G14), rfl, Nat.zero_le _, hmid14.weak fun t w h => by simpa using h, vs14, hr14, st14⟩
                      · rintro ⟨k, G15⟩ H15 junk15 ⟨hk, hmid15, vs15, hr15, st15⟩
                        simp only at hk hmid15 hr15 st15
                        (conv => whnf); refine fa fl38_1 ?_
                        (conv => whnf); refine hrd _ st15 trivial ?_
                        (conv => whnf); refine VIte.mk (fun hz2 => ?_) (fun hz2 => ?_) <;> simp only [decide_eq_true_eq, decide_eq_false_iff_not] at hz2
                        · obtain ⟨c, hc⟩ := get_some (l := by_) (k := k) (by omega)
                          have hcmem := List.mem_of_getElem? hc
                          have hc8 := hlt8 c hcmem
                          have hsp15 := hspots st15 rfl
                          (conv => whnf); refine fa fl38_1 ?_
                          (conv => whnf); refine hrd _ st15 trivial ?_
                          (conv => whnf); refine ixrn (i := k) (x := (c : Int)) sl36 (hreps.frame st15.old) hrl.symm (hrg k c hc) rfl ?_
                          rintro b16 o16 cs16 hS16 hc16 ⟨rfl, -⟩
                          (conv => whnf); refine ld1 ct3 hc16.one trivial ?_
                          (conv => whnf); rw [w8 (x := (c : Int)) (by omega) (by omega)]
                          (conv => whnf); refine VDraw.held (Old H15) 10 (sq [0,1,2,3,4,5,6,7,8] (.f 9 (.f 10 .e))) rfl (by kernel_rfl) ?_
                          (conv => whnf); refine hgld _ st15 (old_lt st15.old g2.blk.lt) ?_
                          (conv => whnf); refine fa fl156_0 ?_
                          (conv => whnf); refine hld0 _ st15 rfl (fun _ h => h) ?_
                          (conv => whnf); refine ixrn (i := m) (x := y.1) sl153 hsp15 (by simp) hy1 rfl ?_
                          rintro b17 o17 cs17 hS17 hc17 rfl
                          (conv => whnf); refine ldN (cs := ndL y.1) ag159 hc17 hS17 ?_
                          (conv => whnf); refine VCall.mk (hnx st15 y.1 c hyr hc8) ?_
                          rintro _ H18 ⟨ha18, hown18⟩
                          refine ⟨ha18, ?_⟩
                          obtain ⟨a18, c18, rfl, st18⟩ := st15.got ha18 hown18
                          have hmax := st18.max 2 rfl
                          unfold maxLen at hmax
                          have hto : ∀ t, t ∈ g.next y.1 c → To g (y.2 ++ [c]) root t := fun t ht => to_snoc.2 ⟨_, hyt, ht⟩
                          have htr : ∀ t, t ∈ g.next y.1 c → Reach g by_ root t := fun t ht => hyr.step hcmem ht
                          have hwb : ∀ b ∈ y.2 ++ [c], b ∈ by_ := fun b hb => by
                            rcases List.mem_append.1 hb with h | h
                            · exact hyb b h
                            · rw [List.mem_singleton] at h; subst h; exact hcmem
                          have hwl : (y.2 ++ [c]).length = L + 1 := by rw [List.length_append, hyl]; rfl
                          generalize hls : g.next y.1 c = ls at *
                          (conv => whnf)
                          refine VLoop.mk [20] (fun x : Nat × List NW => match x with | (j, G) => [.int .i64 (j : Int)])
                            (fun x H19 => x.1 ≤ ls.length ∧ RowMid g by_ root (L + 1) x.2 (fun t w => ((∃ y ∈ Fn.take m, ∃ c ∈ by_, t ∈ g.next y.1 c ∧ w = y.2 ++ [c]) ∨ ∃ c ∈ by_.take k, t ∈ g.next y.1 c ∧ w = y.2 ++ [c]) ∨ (t ∈ ls.take x.1 ∧ w = y.2 ++ [c])) ∧ ∃ vs, RowP vs x.2 ∧ St H2 H19 [pRow pn vs11 Fn, pRow pt vs x.2, pS tNd 159 a18 ls.length c18 ls]) (fun x _ => ls.length - x.1) ?_ ?_
                          · (conv => whnf)
                            exact ⟨(0, G15), rfl, Nat.zero_le _, hmid15.weak fun t w h => by simpa using h, vs15, hr15, st18⟩
                          · rintro ⟨j, G19⟩ H19 junk19 ⟨hj, hmid19, vs19, hr19, st19⟩
                            simp only at hj hmid19 hr19 st19
                            have hGM := hshortM G19 (L + 1) _ hmid19
                            (conv => whnf); refine VIte.mk (fun hz3 => ?_) (fun hz3 => ?_) <;> simp only [decide_eq_true_eq, decide_eq_false_iff_not] at hz3
                            · obtain ⟨t, ht⟩ := get_some (l := ls) (k := j) (by omega)
                              have htmem := List.mem_of_getElem? ht
                              have hwd19 := hwords st19 rfl
                              have hbw : bytes_ (y.2 ++ [c]) := fun b hb => hlt8 b (hwb b hb)
                              (conv => whnf); refine VDraw.heldZ (Old H19) [16] (sq [0,1,2,3,4,5,6,7,8,9,10,11,12] (.f 13 (.f 14 (sq [15] (.f 16 .e))))) rfl (by kernel_rfl) ?_
                              (conv => whnf); refine ixO (j := j) sl153 st19 2 rfl ht rfl fun b20 o20 cs20 hO20 hc20 hr20 => ?_
                              obtain rfl := hr20
                              (conv => whnf); refine ldN (cs := ndL t) ag159 hc20 hO20 ?_
                              (conv => whnf); refine fa fl156_1 ?_
                              (conv => whnf); refine hld1 _ st19 rfl (fun _ h => h) ?_
                              (conv => whnf); refine ixrn (i := m) (x := y.2) sl57 hwd19 (by simp) hy2 rfl ?_
                              rintro b21 o21 cs21 hS21 hc21 rfl
                              (conv => whnf); refine ld1 ct9 hc21.one hS21 ?_
                              (conv => whnf); refine vbuild1 sl48 [.int .u8 (c : Int)] rfl rfl (by decide) (by decide) ?_
                              intro q22 H22 hq22 hs22 hb22 ha22
                              have st22 := st19.skip hq22 ha22
                              refine ⟨ha22.mono fun k hk => by unfold Old at hk; omega, ?_⟩
                              (conv => whnf); refine vb2s [c] rfl rfl rfl (fun j' x hx => ?_) rfl ?_
                              · have := (List.getElem?_eq_some_iff.1 hx).1
                                obtain rfl : j' = 0 := by simpa using this
                                obtain rfl : c = x := by simpa using hx
                                rw [hb22.cell]; rfl
                              refine ⟨ha22.mono fun k hk => by unfold Old at hk; omega, ?_⟩
                              have hsz : (bA y.2).size + (bA [c]).size ≤ maxLen := by rw [bA_size, bA_size, hyl]; simp only [List.length_singleton, maxLen]; omega
                              (conv => whnf); refine vcat hsz ?_
                              have hcat : bA y.2 ++ (⟨([c].map UInt8.ofNat).toArray⟩ : ByteArray) = bA (y.2 ++ [c]) := bA_append y.2 [c]
                              rw [hcat]
                              (conv => whnf); refine put_v (n := t) (w := y.2 ++ [c]) st22 1 rfl hr19 (hin t (htr t htmem)) (fun x hx => ?_) hbw (by omega) fun vs23 G23 r23 H23 st23 hr23 hput => ?_
                              · obtain ⟨k1, k2, k3⟩ := hmid19.ok x hx
                                exact ⟨hg.ok _ (to_reach .refl k2 k3), by rw [k1, hwl], fun b hb => hlt8 b (k2 b hb)⟩
                              have hmid23 := hmid19.put hwl hwb (hto t htmem) hput
                              (conv => whnf); rw [w64 (x := (j : Int) + 1) (by omega) (by omega)]
                              refine ⟨rfl, (j + 1, G23), rfl, ⟨by simp only; omega, hmid23.weak fun t' w' h => ?_, vs23, hr23, st23⟩, by simp only; omega⟩
                              simp only at h
                              rw [take_succ_snoc ht, List.mem_append, List.mem_singleton] at h
                              rcases h with h | ⟨h | h, e⟩
                              · exact .inl (.inl h)
                              · exact .inl (.inr ⟨h, e⟩)
                              · exact .inr ⟨h, e⟩
                            · obtain rfl : j = ls.length := by omega
                              rw [List.take_length] at hmid19
                              (conv => whnf); rw [w64 (x := (k : Int) + 1) (by omega) (by omega)]
                              refine ⟨rfl, (k + 1, G19), rfl, ⟨by simp only; omega, hmid19.weak fun t' w' h => ?_, vs19, hr19, st19.pick [0, 1] (by decide)⟩, by simp only; omega⟩
                              rcases h with h | ⟨c', h1, h2, h3⟩
                              · exact .inl (.inl h)
                              · rw [take_succ_snoc hc, List.mem_append, List.mem_singleton] at h1
                                rcases h1 with h1 | rfl
                                · exact .inl (.inr ⟨c', h1, h2, h3⟩)
                                · exact .inr ⟨hls ▸ h2, h3⟩
                        · obtain rfl : k = by_.length := by omega
                          rw [List.take_length] at hmid15
                          (conv => whnf); rw [w64 (x := (m : Int) + 1) (by omega) (by omega)]
                          refine ⟨rfl, (m + 1, G15), rfl, ⟨by simp only; omega, hmid15.weak fun t' w' h => ?_, vs15, hr15, st15⟩, by simp only; omega⟩
                          obtain ⟨z, hz1, c', h1, h2, h3⟩ := h
                          rcases (htk z).1 hz1 with hz1 | rfl
                          · exact .inl ⟨z, hz1, c', h1, h2, h3⟩
                          · exact .inr ⟨c', h1, h2, h3⟩
                    · obtain rfl : m = Fn.length := by omega
                      rw [List.take_length] at hmid14
                      have hrow2 := hrow.next hmid14
                      (conv => whnf)
                      exact ⟨rfl, (L + 1, pt, G14), rfl, ⟨hrow2, hdry2, hLu2, vs14, hr14, st14.pick [1] (by decide)⟩, by simp only; omega⟩
end Go.Proofs.Ytkgmhkcncemmkaa
