/- The laws AmbigCats and AmbigIters: their walks. -/
import Derived.Test.YtkgmhkcncemmkaaPGam5
set_option linter.unusedVariables false
set_option linter.unusedSimpArgs false
set_option maxRecDepth 100000
namespace Go.Proofs.Ytkgmhkcncemmkaa
open Go.VC
attribute [local irreducible] oneM mRun gRun atRun
theorem Both.steps {o : Option AM} {D : DM} (h : Both o D) : StepOk o :=
  ⟨by rw [h.n]; exact h.ok.n1, by rw [h.n]; exact h.ok.n2, fun q b hq hb => by
    have := stepD_range h.ok hq.1 (by have := hq.2; rw [h.n] at this; exact this) hb
    unfold inA
    rw [h.step q b hb, h.n]
    exact this⟩
theorem auto_steps (cells : List (BitVec 256)) (next : List (List Int)) (final : List Bool) : StepOk (autoOf cells next final) := (both_of cells next final).steps
/-- An automaton, as a piece. -/
def pAu (v : Value) (o : Option AM) (S : Nat → Prop) : Pc := ⟨S, fun H => AutoV S H v o, fun h hp => hp.frame h⟩
theorem cat_short {a b : Option AM} {t : ByteArray} {i j : Nat} {ok : Bool} (h : CatAns a b t i j ok) (hs : t.size ≤ 1099511627776) : (∃ u, bytes_ u ∧ Leads (catG a b) u root) → ∃ u, bytes_ u ∧ Leads (catG a b) u root ∧ u.length ≤ 1099511627776 := by
  rintro ⟨u, hu, hl⟩
  cases ok with
  | false => exact absurd ⟨root, rfl, hl⟩ ((h.2 rfl).2.2.2 u hu)
  | true =>
    obtain ⟨w, rfl, hw, -⟩ := h.1 rfl
    exact ⟨w, hw.bytes, hw.leads, by rw [bA_size] at hs; exact hs⟩
set_option maxHeartbeats 8000000 in
theorem ambigCats_p (v : Value) (cells : List (BitVec 256)) (next : List (List Int)) (final : List Bool) (v' : Value) (cells' : List (BitVec 256)) (next' : List (List Int)) (final' : List Bool) (S : Nat → Prop) (H : Heap) (ht : TabIn S H v cells next final) (hu : TabIn S H v' cells' next' final') :
    Pure Try.prog 11 #[v, v'] H (.bool true) := by
  refine FnOk.of_vc Try.func11 rfl (Try.call11 _) ?_
  (conv => whnf); refine tab_box ht fun l hl hv => ?_
  intro p H1 hp hs1 hb1 ha1
  have st1 := (St.nil H).box hp hs1 hb1 ha1
  (conv => whnf); refine tab_box (hu.frame st1.old) fun l' hl' hv' => ?_
  intro p' H2 hp' hs2 hb2 ha2
  have st2 := st1.box hp' hs2 hb2 ha2
  (conv => whnf); refine pures (speaks09_p H2) fun H3 ha3 => ?_
  have st3 := st2.call ha3
  (conv => whnf); refine VDraw.cut [5, 6] (fun x : Nat × Bool => [.pointer (some ⟨x.1, 0, none⟩), .bool x.2]) (fun x H' => ∃ t i j, CatAns (autoOf cells next final) (autoOf cells' next' final') t i j x.2 ∧ t.size ≤ 1099511627776 ∧ St H3 H' [pB 66 x.1 (spL t i j)]) ?_ ?_
  · refine VDraw.held (Old H3) 10 (sq [0,2] (.b 1 (.b 3 (.b 4 (sq [5,6,7] (.f 8 (.f 9 (.f 10 .e)))) 8 (.f 4 (sq [5,6,7] (.f 9 (.f 10 .e))))) 8 (.f 3 (.f 4 (sq [5,6,7] (.f 9 (.f 10 .e)))))) 8 (.f 1 (.f 3 (.f 4 (sq [5,6,7] (.f 9 (.f 10 .e)))))))) rfl (by kernel_rfl) ?_
    (conv => whnf); refine tab_load hl hv (st3.blk 0 rfl) (st3.blk 0 rfl).lt ?_
    (conv => whnf); refine tab_load hl' hv' (st3.blk 1 rfl) (st3.blk 1 rfl).lt ?_
    have sx0 := St.nil H3
    (conv => whnf); refine ⟨?_, ?_⟩
    · -- a1 first
      refine VCall.mk (auto09_c v cells next final S H3 (ht.frame (st3.old.trans (sx0.old.mono fun k hk => old_lt st3.old hk)))) ?_
      rintro va1 G1 ⟨ga1, gs1, gv1⟩
      have sx1 := sx0.add ga1 (pAu va1 (autoOf cells next final) (Fresh H3 G1)) gv1 (fun k hk => hk)
      refine ⟨sx1.old, ?_⟩
      (conv => whnf); refine ⟨?_, ?_⟩
      · -- a2 first
        refine VCall.mk (auto09_c v' cells' next' final' S G1 (hu.frame (st3.old.trans (sx1.old.mono fun k hk => old_lt st3.old hk)))) ?_
        rintro va2 G2 ⟨ga2, gs2, gv2⟩
        have sx2 := sx1.add ga2 (pAu va2 (autoOf cells' next' final') (Fresh G1 G2)) gv2 (fun k hk => hk)
        refine ⟨sx2.old, ?_⟩
        (conv => whnf); refine ⟨?_, ?_⟩
        · -- cat first
          refine VCall.mk (cat_c (S := Old G2) (fun k hk => hk) (AutoV.mono (sx2.at_ 0 rfl) fun k hk => (sx2.in_ 0 rfl hk).2) (AutoV.mono (sx2.at_ 1 rfl) fun k hk => (sx2.in_ 1 rfl hk).2) (cells_ok _ _ _) (cells_ok _ _ _)) ?_
          rintro _ G3 ⟨ga3, t, i, j, ok, rfl, hans, hts⟩
          have sx3 := sx2.call ga3
          refine ⟨sx3.old, ?_⟩
          (conv => whnf); refine valloc _ (spL ⟨#[]⟩ 0 0) split_z rfl ?_
          intro pp G4 gp4 gs4 gb4 ga4
          have sx4 := sx3.box gp4 gs4 gb4 ga4
          refine ⟨sx4.old, ?_⟩
          (conv => whnf); refine stNB (cs := spL t i j) sx4 2 rfl rfl (show 0 + 3 ≤ 3 by decide) rfl fun GF sf => ?_
          rw [show splice (spL ⟨#[]⟩ 0 0) 0 (spL t i j) = spL t i j from rfl] at sf
          refine ⟨sf.old, ?_⟩
          (conv => whnf); exact ⟨rfl, (pp, ok), rfl, t, i, j, hans, hts, sf.pick [2] (by decide)⟩
        · -- the block first
          refine valloc _ (spL ⟨#[]⟩ 0 0) split_z rfl ?_
          intro pp G3 gp3 gs3 gb3 ga3
          have sx3 := sx2.box gp3 gs3 gb3 ga3
          refine ⟨sx3.old, ?_⟩
          (conv => whnf); refine VCall.mk (cat_c (S := Old G3) (fun k hk => hk) (AutoV.mono (sx3.at_ 0 rfl) fun k hk => (sx3.in_ 0 rfl hk).2) (AutoV.mono (sx3.at_ 1 rfl) fun k hk => (sx3.in_ 1 rfl hk).2) (cells_ok _ _ _) (cells_ok _ _ _)) ?_
          rintro _ G4 ⟨ga4, t, i, j, ok, rfl, hans, hts⟩
          have sx4 := sx3.call ga4
          refine ⟨sx4.old, ?_⟩
          (conv => whnf); refine stNB (cs := spL t i j) sx4 2 rfl rfl (show 0 + 3 ≤ 3 by decide) rfl fun GF sf => ?_
          rw [show splice (spL ⟨#[]⟩ 0 0) 0 (spL t i j) = spL t i j from rfl] at sf
          refine ⟨sf.old, ?_⟩
          (conv => whnf); exact ⟨rfl, (pp, ok), rfl, t, i, j, hans, hts, sf.pick [2] (by decide)⟩
      · -- the block first
        refine valloc _ (spL ⟨#[]⟩ 0 0) split_z rfl ?_
        intro pp G2 gp2 gs2 gb2 ga2
        have sx2 := sx1.box gp2 gs2 gb2 ga2
        refine ⟨sx2.old, ?_⟩
        (conv => whnf); refine VCall.mk (auto09_c v' cells' next' final' S G2 (hu.frame (st3.old.trans (sx2.old.mono fun k hk => old_lt st3.old hk)))) ?_
        rintro va3 G3 ⟨ga3, gs3, gv3⟩
        have sx3 := sx2.add ga3 (pAu va3 (autoOf cells' next' final') (Fresh G2 G3)) gv3 (fun k hk => hk)
        refine ⟨sx3.old, ?_⟩
        (conv => whnf); refine VCall.mk (cat_c (S := Old G3) (fun k hk => hk) (AutoV.mono (sx3.at_ 0 rfl) fun k hk => (sx3.in_ 0 rfl hk).2) (AutoV.mono (sx3.at_ 2 rfl) fun k hk => (sx3.in_ 2 rfl hk).2) (cells_ok _ _ _) (cells_ok _ _ _)) ?_
        rintro _ G4 ⟨ga4, t, i, j, ok, rfl, hans, hts⟩
        have sx4 := sx3.call ga4
        refine ⟨sx4.old, ?_⟩
        (conv => whnf); refine stNB (cs := spL t i j) sx4 1 rfl rfl (show 0 + 3 ≤ 3 by decide) rfl fun GF sf => ?_
        rw [show splice (spL ⟨#[]⟩ 0 0) 0 (spL t i j) = spL t i j from rfl] at sf
        refine ⟨sf.old, ?_⟩
        (conv => whnf); exact ⟨rfl, (pp, ok), rfl, t, i, j, hans, hts, sf.pick [1] (by decide)⟩
    · -- the block first
      refine valloc _ (spL ⟨#[]⟩ 0 0) split_z rfl ?_
      intro pp G1 gp1 gs1 gb1 ga1
      have sx1 := sx0.box gp1 gs1 gb1 ga1
      refine ⟨sx1.old, ?_⟩
      (conv => whnf); refine VCall.mk (auto09_c v cells next final S G1 (ht.frame (st3.old.trans (sx1.old.mono fun k hk => old_lt st3.old hk)))) ?_
      rintro va2 G2 ⟨ga2, gs2, gv2⟩
      have sx2 := sx1.add ga2 (pAu va2 (autoOf cells next final) (Fresh G1 G2)) gv2 (fun k hk => hk)
      refine ⟨sx2.old, ?_⟩
      (conv => whnf); refine VCall.mk (auto09_c v' cells' next' final' S G2 (hu.frame (st3.old.trans (sx2.old.mono fun k hk => old_lt st3.old hk)))) ?_
      rintro va3 G3 ⟨ga3, gs3, gv3⟩
      have sx3 := sx2.add ga3 (pAu va3 (autoOf cells' next' final') (Fresh G2 G3)) gv3 (fun k hk => hk)
      refine ⟨sx3.old, ?_⟩
      (conv => whnf); refine VCall.mk (cat_c (S := Old G3) (fun k hk => hk) (AutoV.mono (sx3.at_ 1 rfl) fun k hk => (sx3.in_ 1 rfl hk).2) (AutoV.mono (sx3.at_ 2 rfl) fun k hk => (sx3.in_ 2 rfl hk).2) (cells_ok _ _ _) (cells_ok _ _ _)) ?_
      rintro _ G4 ⟨ga4, t, i, j, ok, rfl, hans, hts⟩
      have sx4 := sx3.call ga4
      refine ⟨sx4.old, ?_⟩
      (conv => whnf); refine stNB (cs := spL t i j) sx4 0 rfl rfl (show 0 + 3 ≤ 3 by decide) rfl fun GF sf => ?_
      rw [show splice (spL ⟨#[]⟩ 0 0) 0 (spL t i j) = spL t i j from rfl] at sf
      refine ⟨sf.old, ?_⟩
      (conv => whnf); exact ⟨rfl, (pp, ok), rfl, t, i, j, hans, hts, sf.pick [0] (by decide)⟩
  · rintro ⟨pp, ok⟩ H5 junk5 ⟨t, i, j, hans, hts, st5⟩
    simp only at hans st5
    have hfr : Agr (Old H3) H3 H5 := st5.old
    have hA := st3.old.trans (hfr.mono fun k hk => old_lt st3.old hk)
    have hsa : StepOk (autoOf cells next final) ∧ StepOk (autoOf cells' next' final') := ⟨auto_steps _ _ _, auto_steps _ _ _⟩
    have hoa := both_of cells next final
    have hob := both_of cells' next' final'
    have hk0 := (st3.blk 0 rfl).agr hfr (st3.blk 0 rfl).lt
    have hk1 := (st3.blk 1 rfl).agr hfr (st3.blk 1 rfl).lt
    (conv => whnf); refine VDraw.held (Old H5) 13 (sq [0,2] (.f 1 (.f 3 (.f 4 (sq [5,6,7,8,9,10,11,12] (.f 13 .e)))))) rfl (by kernel_rfl) ?_
    (conv => whnf); refine tab_load hl hv hk0 hk0.lt ?_
    (conv => whnf); refine tab_load hl' hv' hk1 hk1.lt ?_
    (conv => whnf); refine VCall.mk (made_c v cells next final S H5 (ht.frame hA)) ?_
    rintro vA H6 ⟨ha6, hs6, hvA⟩
    have st6 := st5.call ha6
    refine ⟨ha6, ?_⟩
    have hA6 := hA.trans (ha6.mono fun k hk => old_lt hA hk)
    (conv => whnf); refine VCall.mk (made_c v' cells' next' final' S H6 (hu.frame hA6)) ?_
    rintro vB H7 ⟨ha7, hs7, hvB⟩
    have st7 := st6.call ha7
    have h57 := ha6.trans (ha7.mono fun k hk => old_lt ha6 hk)
    refine ⟨h57, ?_⟩
    generalize autoOf cells next final = a at *
    generalize autoOf cells' next' final' = b at *
    generalize dfaOf cells next final = A at *
    generalize dfaOf cells' next' final' = B at *
    (conv => whnf); refine VCall.mk (refcat_c (S := Old H7) (a := a) (b := b) (fun k hk => hk) ((hvA.frame (ha7.mono fun k hk => hk.2)).mono fun k hk => old_lt ha7 hk.2) (hvB.mono fun k hk => hk.2) ⟨hoa, hob, (fun h => by cases h), hsa.1, hsa.2⟩ (cat_short hans hts)) ?_
    rintro _ H8 ⟨ha8, t', i', j', ok', rfl, hans'⟩
    have st8 := st7.call ha8
    refine ⟨h57.trans (ha8.mono fun k hk => old_lt h57 hk), ?_⟩
    obtain ⟨rfl, rfl, rfl, rfl⟩ := hans.uniq hans'
    have hij : i ≤ t.size ∧ j ≤ t.size := by
      cases ok with
      | false => obtain ⟨rfl, rfl, rfl, -⟩ := hans.2 rfl; exact ⟨Nat.zero_le _, Nat.zero_le _⟩
      | true => obtain ⟨w, rfl, -, h1, h2, -⟩ := hans.1 rfl; rw [bA_size]; omega
    have hfin : Agr (Old H) H H8 := st3.old.trans (st8.old.mono fun k hk => old_lt st3.old hk)
    (conv => whnf); refine beq_b Try.underlying4 ?_
    have e : (ok == ok) = true := beq_self_eq_true _
    rw [e]
    (conv => whnf); refine ldN (cs := spL t i j) ag66 ((st8.blk 0 rfl).cells fun j v hv => by rw [Nat.zero_add]; exact hv) trivial ?_
    (conv => whnf); refine vbuildS Try.underlying66 rfl _ split_z (spL t i j) rfl ?_
    (conv => whnf); refine sp_eq (by unfold maxLen; omega) (by unfold maxLen; omega) (by omega) (by omega) (by omega) (by omega) ?_
    rw [decide_eq_true ⟨rfl, rfl, rfl⟩]
    (conv => whnf)
    exact ⟨rfl, hfin⟩
theorem iter_short {a : Option AM} {w : List Nat} {ok : Bool} (h : IterAns a w ok) (hf : finM a 0 = false) (hs : w.length ≤ 1099511627776) : (∃ u, bytes_ u ∧ Leads (iterG a) u root) → ∃ u, bytes_ u ∧ Leads (iterG a) u root ∧ u.length ≤ 1099511627776 := by
  rintro ⟨u, hu, hl⟩
  cases ok with
  | false => exact absurd ⟨root, rfl, hl⟩ (((h.2 hf).2 rfl).2 u hu)
  | true =>
    have hw := (h.2 hf).1 rfl
    exact ⟨w, hw.bytes, hw.leads, hs⟩
set_option maxHeartbeats 8000000 in
theorem ambigIters_p (v : Value) (cells : List (BitVec 256)) (next : List (List Int)) (final : List Bool) (S : Nat → Prop) (H : Heap) (ht : TabIn S H v cells next final) :
    Pure Try.prog 12 #[v] H (.bool true) := by
  refine FnOk.of_vc Try.func12 rfl (Try.call12 _) ?_
  (conv => whnf); refine tab_box ht fun l hl hv => ?_
  intro p H1 hp hs1 hb1 ha1
  have st1 := (St.nil H).box hp hs1 hb1 ha1
  (conv => whnf); refine pures (speaks09_p H1) fun H3 ha3 => ?_
  have st3 := st1.call ha3
  (conv => whnf); refine tab_load hl hv (st3.blk 0 rfl) trivial ?_
  (conv => whnf); refine VCall.mk (auto09_c v cells next final S H3 (ht.frame st3.old)) ?_
  rintro va H4 ⟨ha4, hs4, hva⟩
  have st4 := st3.call ha4
  have hca := cells_ok cells next final
  have hsa := auto_steps cells next final
  have hoa := both_of cells next final
  (conv => whnf); refine VCall.mk (iter_c (S := Old H4) (fun k hk => hk) (hva.mono fun k hk => hk.2) hca) ?_
  rintro _ H5 ⟨ha5, w, ok, rfl, hans, hwl⟩
  have st5 := st4.call ha5
  (conv => whnf); refine tab_load hl hv (st5.blk 0 rfl) trivial ?_
  (conv => whnf); refine VCall.mk (made_c v cells next final S H5 (ht.frame st5.old)) ?_
  rintro vA H6 ⟨ha6, hs6, hvA⟩
  have st6 := st5.call ha6
  generalize autoOf cells next final = a at *
  generalize dfaOf cells next final = A at *
  have hD : finM a 0 = false → (∃ u, bytes_ u ∧ Leads (iterG a) u root) → ∃ u, bytes_ u ∧ Leads (iterG a) u root ∧ u.length ≤ 1099511627776 := fun hf => iter_short hans hf hwl
  (conv => whnf); refine VCall.mk (refiter_c (S := Old H6) (a := a) (fun k hk => hk) (hvA.mono fun k hk => hk.2) ⟨hoa, hoa, fun _ => rfl, hsa, hsa⟩ hD) ?_
  rintro _ H7 ⟨ha7, w', ok', rfl, hans'⟩
  have st7 := st6.call ha7
  obtain ⟨rfl, rfl⟩ := hans.uniq hans'
  have e : ((bA w).toList == (bA w).toList) = true := beq_self_eq_true _
  (conv => whnf); rw [e]
  (conv => whnf); refine beq_b Try.underlying4 ?_
  have e2 : (ok == ok) = true := beq_self_eq_true _
  rw [e2]
  (conv => whnf)
  exact ⟨rfl, st7.old⟩
end Go.Proofs.Ytkgmhkcncemmkaa
