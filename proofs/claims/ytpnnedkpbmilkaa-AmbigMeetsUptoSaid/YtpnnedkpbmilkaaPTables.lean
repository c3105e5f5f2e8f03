/- The law DfaTables: its walk. -/
import Derived.Test.YtpnnedkpbmilkaaPSame5
set_option linter.unusedVariables false
set_option linter.unusedSimpArgs false
set_option maxRecDepth 100000
namespace Go.Proofs.Ytpnnedkpbmilkaa
open Go.VC
attribute [local irreducible] mRun atRun

set_option maxHeartbeats 4000000 in
theorem tables_p (v : Value) (cells : List (BitVec 256)) (next : List (List Int)) (final : List Bool) (s : ByteArray) (S : Nat → Prop) (H : Heap) (ht : TabIn S H v cells next final) (hs : s.size ≤ 1048576) :
    Pure Try.prog 5 #[v, .string s] H (.bool true) := by
  obtain ⟨hS, ⟨ca, na, fa, cc, nc, fc, rfl, hc, hn, hf⟩, cn, nn, rn, fn⟩ := ht
  refine FnOk.of_vc Try.func5 rfl (Try.call5 _) ?_
  (conv => whnf); refine vbox [.slice ca cells.length cc, .slice na next.length nc, .slice fa final.length fc] rfl ?_
  intro pb H1 hpb hs1 hb1 ha1
  (conv => whnf); refine pures (speaks_p H1) fun H2 ha2 => ?_
  have hb2 := hb1.agr ha2 (show pb < H1.size by omega)
  have hs2' := old_size ha2
  have hA2 : Agr (Old H) H H2 := (ha1.mono fun k hk => by unfold Old at hk; omega).trans (ha2.mono fun k hk => by unfold Old at *; omega)
  (conv => whnf)
  refine VDraw.cut [5] (fun v : Value => [v]) (fun v H' => Agr (Old H2) H2 H' ∧ AutoV (Fresh H2 H') H' v (autoOf cells next final)) ?_ ?_
  · refine VDraw.held (Old H2) 10 (sq [0,2,3,6,7] (.b 1 (.b 4 (.f 5 (.f 8 (.f 9 (.f 10 .e)))) 5 (.f 4 (.f 8 (.f 9 (.f 10 .e))))) 5 (.f 1 (.f 4 (.f 8 (.f 9 (.f 10 .e))))))) rfl (by kernel_rfl) ?_
    (conv => whnf); refine ldN (cs := [.slice ca cells.length cc, .slice na next.length nc, .slice fa final.length fc]) ag26 (hb2.cells (fun j v hv => by rw [Nat.zero_add]; exact hv)) hb2.lt ?_
    (conv => whnf); refine VC.fa fl26_1 ?_
    (conv => whnf); refine ld1 ct23 (by rw [hb2.cell]; rfl) hb2.lt ?_
    (conv => whnf); refine VC.fa fl26_2 ?_
    (conv => whnf); refine ld1 ct24 (by rw [hb2.cell]; rfl) hb2.lt ?_
    have hSs : ∀ {H3 : Heap}, Agr (Old H2) H2 H3 → Agr S H H3 := fun h => (hA2.trans (h.mono fun k hk => old_lt hA2 hk)).mono hS
    have hSo : ∀ {H3 : Heap}, Agr (Old H2) H2 H3 → ∀ k, S k → k < H3.size := fun h k hk => old_lt h (old_lt hA2 (hS k hk))
    have fin : ∀ {H6 : Heap} {v1 v3 : Value} {nb lo1 lo2 : Nat} {vs : List Value} {K : Value → Heap → Prop}, Agr (Old H2) H2 H6 → SlO tSet (fun _ => False) H6 lo1 41 v1 cells → Tab tI (fun _ => False) H6 (nb + 1) 3 nb 35 vs next → SlO tBool (fun _ => False) H6 lo2 4 v3 final →
        (∀ v H7, Agr (Old H2) H2 H7 → AutoV (Fresh H2 H7) H7 v (autoOf cells next final) → K v H7) → VCall Try.prog 17 #[v1, .slice (some ⟨nb, 0, none⟩) next.length next.length, v3] H6 K := fun hag h1 h2 h3 k =>
      vcall_newO h1 h2 h3 (by unfold maxLen; omega) fun v H7 h4 h5 h6 => k v H7 (hag.trans (h4.mono fun k hk => old_lt hag hk)) (h6.mono fun k hk => ⟨by have := old_size hag; have := hk.1; omega, hk.2⟩)
    (conv => whnf); refine ⟨?_, ?_⟩
    · refine VCall.mk (cells_l _ _ ca cc cells S H2 (hSo (Agr.refl _ _)) (hc.frame (hSs (Agr.refl _ _))) (by omega)) ?_
      rintro v3 H3 ⟨ha3, hs3, bc, rfl, hbc, own1⟩
      refine ⟨ha3, ?_⟩
      (conv => whnf); refine ⟨?_, ?_⟩
      · refine VCall.mk (rows_c na nc next S H3 (hSo ha3) (hn.frame (hSs ha3)) (by omega) (fun row hr => Nat.le_trans (rn row hr) (by decide))) ?_
        rintro v4 H4 ⟨ha4, hs4, nb, vs, rfl, hnb, tab⟩
        have hA4 := ha3.trans (ha4.mono fun k hk => old_lt ha3 hk)
        refine ⟨hA4, ?_⟩
        (conv => whnf); refine vbuild0 sl24 ?_
        intro q H5 hq hs5 hb5 ha5
        have hA5 : Agr (Old H2) H2 H5 := hA4.trans (ha5.mono fun k hk => by have := old_lt hA4 hk; omega)
        refine ⟨hA5, ?_⟩
        (conv => whnf); refine ends_c hb5 (S := S) (fun k hk => ⟨hSo hA5 k hk, by have := hSo hA4 k hk; omega⟩) (hf.frame (hSs hA5)) (by omega) ?_
        intro v6 H6 own3 ha6 hs6
        have h46 : Agr (fun k => k < H4.size) H4 H6 := (ha5.mono fun k hk => by omega).trans (ha6.mono fun k hk => by omega)
        have hA6 : Agr (Old H2) H2 H6 := hA4.trans (h46.mono fun k hk => old_lt hA4 hk)
        refine ⟨hA6, ?_⟩
        (conv => whnf); refine fin hA6 ((own1.agr ha4 (fun b hb => (own1.lt hb).2) (fun _ h => h.elim)).agr h46 (fun b hb => by have := (own1.lt hb).2; omega) (fun _ h => h.elim)) (tab.agr h46 tab.blk.lt (fun b _ hb => hb) (fun _ h => h.elim)) own3 fun v7 H7 ha7 hv7 => ⟨ha7, ?_⟩
        (conv => whnf); exact ⟨rfl, v7, rfl, ha7, hv7⟩
      · refine vbuild0 sl24 ?_
        intro q H4 hq hs4 hb4 ha4
        have hA4 : Agr (Old H2) H2 H4 := ha3.trans (ha4.mono fun k hk => by have := old_lt ha3 hk; omega)
        refine ⟨hA4, ?_⟩
        (conv => whnf); refine VCall.mk (rows_c na nc next S H4 (hSo hA4) (hn.frame (hSs hA4)) (by omega) (fun row hr => Nat.le_trans (rn row hr) (by decide))) ?_
        rintro v5 H5 ⟨ha5, hs5, nb, vs, rfl, hnb, tab⟩
        have hA5 := hA4.trans (ha5.mono fun k hk => old_lt hA4 hk)
        refine ⟨hA5, ?_⟩
        (conv => whnf); refine ends_c (hb4.agr ha5 hb4.lt) (S := S) (fun k hk => ⟨hSo hA5 k hk, by have := hSo ha3 k hk; omega⟩) (hf.frame (hSs hA5)) (by omega) ?_
        intro v6 H6 own3 ha6 hs6
        have h36 : Agr (fun k => k < H3.size) H3 H6 := ((ha4.mono fun k hk => by omega).trans (ha5.mono fun k hk => by unfold Old; omega)).trans (ha6.mono fun k hk => by omega)
        have hA6 : Agr (Old H2) H2 H6 := ha3.trans (h36.mono fun k hk => old_lt ha3 hk)
        refine ⟨hA6, ?_⟩
        (conv => whnf); refine fin hA6 (own1.agr h36 (fun b hb => (own1.lt hb).2) (fun _ h => h.elim)) (tab.agr ha6 ⟨tab.blk.lt, by omega⟩ (fun b h1 h2 => ⟨h2, by omega⟩) (fun _ h => h.elim)) own3 fun v7 H7 ha7 hv7 => ⟨ha7, ?_⟩
        (conv => whnf); exact ⟨rfl, v7, rfl, ha7, hv7⟩
    · refine vbuild0 sl24 ?_
      intro q H3 hq hs3 hb3 ha3
      have hA3 : Agr (Old H2) H2 H3 := ha3.mono fun k hk => by unfold Old at hk; omega
      refine ⟨hA3, ?_⟩
      (conv => whnf); refine VCall.mk (cells_l _ _ ca cc cells S H3 (hSo hA3) (hc.frame (hSs hA3)) (by omega)) ?_
      rintro v4 H4 ⟨ha4, hs4, bc, rfl, hbc, own1⟩
      have hA4 := hA3.trans (ha4.mono fun k hk => old_lt hA3 hk)
      refine ⟨hA4, ?_⟩
      (conv => whnf); refine VCall.mk (rows_c na nc next S H4 (hSo hA4) (hn.frame (hSs hA4)) (by omega) (fun row hr => Nat.le_trans (rn row hr) (by decide))) ?_
      rintro v5 H5 ⟨ha5, hs5, nb, vs, rfl, hnb, tab⟩
      have hA5 := hA4.trans (ha5.mono fun k hk => old_lt hA4 hk)
      refine ⟨hA5, ?_⟩
      (conv => whnf); refine ends_c ((hb3.agr ha4 hb3.lt).agr ha5 (show q < H4.size by omega)) (S := S) (fun k hk => ⟨hSo hA5 k hk, by have := hSo (Agr.refl _ _) k hk; omega⟩) (hf.frame (hSs hA5)) (by omega) ?_
      intro v6 H6 own3 ha6 hs6
      have hA6 : Agr (Old H2) H2 H6 := hA5.trans (ha6.mono fun k hk => ⟨old_lt hA5 hk, by unfold Old at hk; omega⟩)
      refine ⟨hA6, ?_⟩
      (conv => whnf); refine fin hA6 ((own1.agr ha5 (fun b hb => (own1.lt hb).2) (fun _ h => h.elim)).agr ha6 (fun b hb => by have := own1.lt hb; omega) (fun _ h => h.elim)) (tab.agr ha6 ⟨tab.blk.lt, by omega⟩ (fun b h1 h2 => ⟨h2, by omega⟩) (fun _ h => h.elim)) own3 fun v7 H7 ha7 hv7 => ⟨ha7, ?_⟩
      (conv => whnf); exact ⟨rfl, v7, rfl, ha7, hv7⟩
  · rintro v7 H3 junk ⟨ha3, hv3⟩
    have hA3 := hA2.trans (ha3.mono fun k hk => old_lt hA2 hk)
    have hb3 := hb2.agr ha3 hb2.lt
    have htab : TabIn S H3 (.agg #[.slice ca cells.length cc, .slice na next.length nc, .slice fa final.length fc]) cells next final :=
      ⟨fun k hk => old_lt hA3 (hS k hk), ⟨ca, na, fa, cc, nc, fc, rfl, hc.frame (hA3.mono hS), hn.frame (hA3.mono hS), hf.frame (hA3.mono hS)⟩, cn, nn, rn, fn⟩
    (conv => whnf); refine ldN (cs := [.slice ca cells.length cc, .slice na next.length nc, .slice fa final.length fc]) ag26 (hb3.cells (fun j v hv => by rw [Nat.zero_add]; exact hv)) trivial ?_
    (conv => whnf); refine VCall.mk (made_c _ cells next final S H3 htab) ?_
    rintro v4 H4 ⟨ha4, hs4, hd⟩
    have hA4 := hA3.trans (ha4.mono fun k hk => old_lt hA3 hk)
    have hok := dfaOf_ok cells next final
    have b1 := both_accepts cells next final s
    have b2 := both_live cells next final s
    have b3 := both_alive cells next final 0
    have hn1 := hok.n1
    generalize autoOf cells next final = o at *
    generalize dfaOf cells next final = D at *
    obtain ⟨hlen, ra, rc, xa, xc, ya, yc, rfl, d1, d2, d3⟩ := hd
    have hl259 := dfaL_len (rv := .slice ra D.reps.length rc) (nv := .slice xa D.next.length xc) (fv := .slice ya D.final.length yc) hlen
    (conv => whnf); refine valloc _ (dfaL (List.replicate 256 0) (.slice none 0 0) (.slice none 0 0) (.slice none 0 0)) rfl (by kernel_rfl) ?_
    intro p5 H5 hp5 hs5 hb5 ha5
    (conv => whnf); refine VC.stN (cs := dfaL D.cell (.slice ra D.reps.length rc) (.slice xa D.next.length xc) (.slice ya D.final.length yc)) (by rw [hl259]; rfl) hb5 (Nat.le_of_eq (by rw [hl259, dfaL_len (by simp)])) (dfaL_ones rfl rfl rfl) ?_
    intro H6 hb6 ha6 hs6
    rw [splice_all (by rw [hl259, dfaL_len (by simp)])] at hb6
    have h46 : Agr (Old H4) H4 H6 := (ha5.mono fun j hj => by unfold Old at hj; omega).trans (ha6.mono fun j hj => by unfold Old at hj; omega)
    have hA6 := hA4.trans (h46.mono fun k hk => old_lt hA4 hk)
    have h36 : Agr (Old H3) H3 H6 := ha4.trans (h46.mono fun k hk => old_lt ha4 hk)
    have e1 := d1.frame (h46.mono fun j hj => hj.2)
    have e2 := d2.frame (h46.mono fun j hj => hj.2)
    have e3 := d3.frame (h46.mono fun j hj => hj.2)
    have hF : ∀ {H' : Heap}, Agr (Old H6) H6 H' → AutoV (Fresh H2 H3) H' v7 o := fun h => (hv3.frame (h36.mono fun k hk => hk.2)).frame (h.mono fun k hk => old_lt h36 hk.2)
    have hL : ∀ {H' : Heap}, Agr (Old H6) H6 H' → ∀ k, Fresh H2 H3 k → k < H'.size := fun h k hk => old_lt h (old_lt h36 hk.2)
    have hG : ∀ {H' : Heap}, Agr (Old H6) H6 H' → ∀ k, Fresh H3 H4 k → k < H'.size := fun h k hk => old_lt h (old_lt h46 hk.2)
    have hX : ∀ {H' : Heap}, Agr (Old H6) H6 H' → SlD tI (Fresh H3 H4) H' ra rc D.reps ∧ SlD tRows (Fresh H3 H4) H' xa xc D.next ∧ SlD tBool (Fresh H3 H4) H' ya yc D.final := fun h =>
      ⟨e1.frame (h.mono fun k hk => old_lt h46 hk.2), e2.frame (h.mono fun k hk => old_lt h46 hk.2), e3.frame (h.mono fun k hk => old_lt h46 hk.2)⟩
    (conv => whnf)
    refine VDraw.quiet (Old H6) rfl (by kernel_rfl) ?_
    (conv => whnf); refine pureq (fun H' h' => accepts_p (hL h') (hF h') (by unfold maxLen; omega)) ?_
    (conv => whnf); refine dfa_load hb6 hlen hb6.lt e1 e2 e3 fun v8 hv8 => ?_
    (conv => whnf); refine pureq (fun H' h' => refaccepts_p (hG h') (hv8.frame (h'.mono fun k hk => old_lt h46 hk.2)) hok (by unfold maxLen; omega)) ?_
    (conv => whnf); refine bneq_b rfl ?_
    rw [b1, show (!(acceptsD D s == acceptsD D s)) = false by simp]
    (conv => whnf); refine pureq (fun H' h' => live_p (hL h') (hF h') (by unfold maxLen; omega)) ?_
    (conv => whnf); refine dfa_load hb6 hlen hb6.lt e1 e2 e3 fun v9 hv9 => ?_
    (conv => whnf); refine pureq (fun H' h' => reflive_p (hG h') (hv9.frame (h'.mono fun k hk => old_lt h46 hk.2)) hok (by unfold maxLen; omega)) ?_
    rw [b2]
    have q0 : ((liveD D s : Int) != (liveD D s : Int)) = false := by simp
    (conv => whnf); rw [q0]
    (conv => whnf)
    intro H7 ha7
    (conv => whnf)
    refine VDraw.held (Old H7) 8 (sq [0,2] (.f 1 (.f 3 (.f 4 (.f 5 (.f 6 (.f 7 (.f 8 .e)))))))) rfl (by kernel_rfl) ?_
    have hb7 := hb6.agr ha7 hb6.lt
    obtain ⟨x1, x2, x3⟩ := hX ha7
    (conv => whnf); refine dfa_load hb7 hlen hb7.lt x1 x2 x3 fun v10 hv10 => ?_
    (conv => whnf); refine pures (empty_p (hF ha7)) fun H8 ha8 => ?_
    refine ⟨ha8, ?_⟩
    have h68 := ha7.trans (ha8.mono fun k hk => old_lt ha7 hk)
    (conv => whnf); refine VCall.mk (useful_c (hG h68) (hv10.frame (ha8.mono fun k hk => hG ha7 k hk)) hok) ?_
    rintro v11 H9 ⟨ha9, hs9, ua, uc, rfl, hu⟩
    have h69 := h68.trans (ha9.mono fun k hk => old_lt h68 hk)
    refine ⟨ha8.trans (ha9.mono fun k hk => old_lt ha8 hk), ?_⟩
    have hal0 := useful_at (D := D) (q := 0) (by omega)
    have hag := ha8.trans (ha9.mono fun k hk => old_lt ha8 hk)
    (conv => whnf); refine ixr (i := 0) sl24 hu hal0 rfl ?_
    rintro b12 o12 cs12 hSb12 hcells12 rfl
    refine ⟨hag, ?_⟩
    (conv => whnf); refine ld1 ct4 hcells12.one trivial ?_
    refine ⟨hag, ?_⟩
    (conv => whnf)
    refine ⟨hag, ?_⟩
    (conv => whnf); refine beq_b rfl ?_
    refine ⟨hag, ?_⟩
    have hz : aliveD D ((0 : Nat) : Int) = aliveD D 0 := rfl
    rw [b3, hz, show ((!aliveD D 0) == (!aliveD D 0)) = true by simp]
    (conv => whnf)
    exact ⟨rfl, hA6.trans (h69.mono fun k hk => old_lt hA6 hk)⟩

end Go.Proofs.Ytpnnedkpbmilkaa
