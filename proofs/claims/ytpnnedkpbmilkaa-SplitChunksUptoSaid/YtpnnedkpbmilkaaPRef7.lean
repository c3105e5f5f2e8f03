/- The document's None, Whole, Made, Step, IsFinal, Accepts. -/
import Derived.Test.YtpnnedkpbmilkaaPRef6
import Derived.Test.YtpnnedkpbmilkaaPLives
set_option linter.unusedVariables false
set_option linter.unusedSimpArgs false
set_option maxRecDepth 100000
namespace Go.Proofs.Ytpnnedkpbmilkaa
open Go.VC
attribute [local irreducible] mRun atRun

theorem none_c (H : Heap) : FnOk Try.prog 59 #[] H fun v H' => Agr (Old H) H H' ∧ H.size ≤ H'.size ∧ DfaV (Fresh H H') H' v noneD := by
  refine FnOk.of_vc Try.func59 rfl (Try.call59 _) ?_
  (conv => whnf); refine valloc _ (dfaL (List.replicate 256 0) (.slice none 0 0) (.slice none 0 0) (.slice none 0 0)) rfl (by kernel_rfl) ?_
  intro p1 H1 hp1 hs1 hb1 ha1
  (conv => whnf); refine vbuild1 sl35 [.int .i64 0] rfl rfl (by decide) (by decide) ?_
  intro b2 H2 hb2 hs2 hk2 ha2
  (conv => whnf); refine vbuild1 sl35 [.int .i64 0] rfl rfl (by decide) (by decide) ?_
  intro b3 H3 hb3 hs3 hk3 ha3
  (conv => whnf); refine vbuild1 sl23 [.slice (some ⟨b3, 0, none⟩) 1 1] rfl rfl (by decide) (by decide) ?_
  intro b4 H4 hb4 hs4 hk4 ha4
  (conv => whnf); refine vbuild1 sl24 [.bool false] rfl rfl (by decide) (by decide) ?_
  intro b5 H5 hb5 hs5 hk5 ha5
  (conv => whnf); refine vbuildS rfl rfl _ rfl (dfaL (List.replicate 256 0) (.slice (some ⟨b2, 0, none⟩) 1 1) (.slice (some ⟨b4, 0, none⟩) 1 1) (.slice (some ⟨b5, 0, none⟩) 1 1)) (by kernel_rfl) ?_
  have hb15 := (((hb1.agr ha2 (show p1 < b2 by omega)).agr ha3 (show p1 < b3 by omega)).agr ha4 (show p1 < b4 by omega)).agr ha5 (show p1 < b5 by omega)
  have hk25 := ((hk2.agr ha3 (show b2 < b3 by omega)).agr ha4 (show b2 < b4 by omega)).agr ha5 (show b2 < b5 by omega)
  have hk35 := (hk3.agr ha4 (show b3 < b4 by omega)).agr ha5 (show b3 < b5 by omega)
  have hk45 := hk4.agr ha5 (show b4 < b5 by omega)
  have hl259 : (dfaL (List.replicate 256 0) (.slice (some ⟨b2, 0, none⟩) 1 1) (.slice (some ⟨b4, 0, none⟩) 1 1) (.slice (some ⟨b5, 0, none⟩) 1 1)).length = 259 := dfaL_len (by simp)
  (conv => whnf); refine VC.stN (cs := dfaL (List.replicate 256 0) (.slice (some ⟨b2, 0, none⟩) 1 1) (.slice (some ⟨b4, 0, none⟩) 1 1) (.slice (some ⟨b5, 0, none⟩) 1 1)) (by rw [hl259]; rfl) hb15 (Nat.le_of_eq (by rw [hl259, dfaL_len (by simp)])) (dfaL_ones rfl rfl rfl) ?_
  intro H6 hb6 ha6 hs6
  rw [splice_all (by rw [hl259, dfaL_len (by simp)])] at hb6
  (conv => whnf); refine ldN (cs := dfaL (List.replicate 256 0) (.slice (some ⟨b2, 0, none⟩) 1 1) (.slice (some ⟨b4, 0, none⟩) 1 1) (.slice (some ⟨b5, 0, none⟩) 1 1)) (by rw [hl259]; exact ag37) (hb6.cells fun j v hv => by rw [Nat.zero_add]; exact hv) trivial ?_
  have z : ∀ {b : Nat}, Blk H6 b 3 [.int .i64 0] → Fresh H H6 b → SlD tI (Fresh H H6) H6 (some ⟨b, 0, none⟩) 1 [0] := fun h hf => SlD.ofBlk h hf (Ty.reps_one ⟨rfl, inI64 (x := 0) (by decide)⟩) rfl (by decide)
  refine ⟨((((((ha1.mono fun j hj => by unfold Old at hj; omega).trans (ha2.mono fun j hj => by unfold Old at hj; omega)).trans (ha3.mono fun j hj => by unfold Old at hj; omega)).trans (ha4.mono fun j hj => by unfold Old at hj; omega)).trans (ha5.mono fun j hj => by unfold Old at hj; omega)).trans (ha6.mono fun j hj => by unfold Old at hj; omega)), by omega, by simp [noneD], _, _, _, _, _, _, rfl, ?_, ?_, ?_⟩
  · exact z (hk25.agr ha6 (show b2 ≠ p1 by omega)) ⟨by omega, by omega⟩
  · exact SlD.ofBlk (hk45.agr ha6 (show b4 ≠ p1 by omega)) ⟨by omega, by omega⟩ (Ty.reps_one ⟨_, _, rfl, z (hk35.agr ha6 (show b3 ≠ p1 by omega)) ⟨by omega, by omega⟩⟩) rfl (by decide)
  · exact SlD.ofBlk (hk5.agr ha6 (show b5 ≠ p1 by omega)) ⟨by omega, by omega⟩ (Ty.reps_one rfl) rfl (by decide)

theorem whole_p (v : Value) (cells : List (BitVec 256)) (next : List (List Int)) (final : List Bool) (S : Nat → Prop) (H : Heap) (ht : TabIn S H v cells next final) :
    Pure Try.prog 18 #[v] H (.bool (soundB cells next final.length)) := by
  obtain ⟨hS, ⟨ca, na, fa, cc, nc, fc, rfl, hc, hn, hf⟩, cn, nn, rn, fn⟩ := ht
  refine FnOk.of_vc Try.func18 rfl (Try.call18 _) ?_
  (conv => whnf); refine vbox [.slice ca cells.length cc, .slice na next.length nc, .slice fa final.length fc] rfl ?_
  intro pb H1 hpb hs1 hb1 ha1
  have hA1 : Agr (Old H) H H1 := ha1.mono fun j hj => by unfold Old at hj; omega
  (conv => whnf); refine VDraw.held (Old H1) 7 (sq [0,2,3,4,5] (.f 1 (.f 6 (.f 7 .e)))) rfl (by kernel_rfl) ?_
  (conv => whnf); refine ldN (cs := [.slice ca cells.length cc, .slice na next.length nc, .slice fa final.length fc]) ag26 (hb1.cells (fun j v hv => by rw [Nat.zero_add]; exact hv)) hb1.lt ?_
  (conv => whnf); refine VC.fa fl26_1 ?_
  (conv => whnf); refine ld1 ct23 (by rw [hb1.cell]; rfl) hb1.lt ?_
  (conv => whnf); refine VC.fa fl26_2 ?_
  (conv => whnf); refine ld1 ct24 (by rw [hb1.cell]; rfl) hb1.lt ?_
  (conv => whnf); refine VCall.mk (sets_l _ _ ca cc cells S H1 (fun k hk => old_lt hA1 (hS k hk)) (hc.frame (hA1.mono hS)) (by omega)) ?_
  rintro v3 H3 ⟨ha3, hs3, bc, rfl, hbc, own1⟩
  have hA3 := hA1.trans (ha3.mono fun k hk => old_lt hA1 hk)
  refine ⟨ha3, ?_⟩
  obtain ⟨xa, xc, e1, hx, -⟩ := own1.view (S' := Old H3) (fun j hj => (own1.lt hj).2) (fun _ f => f.elim)
  injection e1 with e2 e3 e4
  subst e2; subst e4
  have hn3 : SlD tRows (Old H3) H3 na nc next := (hn.frame (hA3.mono hS)).mono fun k hk => old_lt hA3 (hS k hk)
  (conv => whnf); refine pures (refsound_p (some ⟨bc, 0, none⟩) na fa cells.length nc final.length fc cells next (Old H3) H3 (fun k hk => hk) hx hn3 (by omega) (by omega) (by omega)) fun H4 ha4 => ?_
  refine ⟨ha3.trans (ha4.mono fun k hk => old_lt ha3 hk), ?_⟩
  (conv => whnf)
  exact ⟨rfl, hA3.trans (ha4.mono fun k hk => old_lt hA3 hk)⟩

def dfaOf (cells : List (BitVec 256)) (next : List (List Int)) (final : List Bool) : DM := if soundB cells next final.length then madeD cells next final else noneD
theorem made_c (v : Value) (cells : List (BitVec 256)) (next : List (List Int)) (final : List Bool) (S : Nat → Prop) (H : Heap) (ht : TabIn S H v cells next final) :
    FnOk Try.prog 19 #[v] H fun v H' => Agr (Old H) H H' ∧ H.size ≤ H'.size ∧ DfaV (Fresh H H') H' v (dfaOf cells next final) := by
  have ht' := ht
  obtain ⟨hS, ⟨ca, na, fa, cc, nc, fc, rfl, hc, hn, hf⟩, cn, nn, rn, fn⟩ := ht
  refine FnOk.of_vc Try.func19 rfl (Try.call19 _) ?_
  (conv => whnf); refine vbox [.slice ca cells.length cc, .slice na next.length nc, .slice fa final.length fc] rfl ?_
  intro pb H1 hpb hs1 hb1 ha1
  (conv => whnf); refine valloc _ (dfaL (List.replicate 256 0) (.slice none 0 0) (.slice none 0 0) (.slice none 0 0)) rfl (by kernel_rfl) ?_
  intro p2 H2 hp2 hs2 hb2 ha2
  have hA2 : Agr (Old H) H H2 := (ha1.mono fun j hj => by unfold Old at hj; omega).trans (ha2.mono fun j hj => by unfold Old at hj; omega)
  have hb12 := hb1.agr ha2 (show pb < p2 by omega)
  have htab : ∀ {H' : Heap}, Agr (Old H) H H' → TabIn S H' (.agg #[.slice ca cells.length cc, .slice na next.length nc, .slice fa final.length fc]) cells next final := fun h =>
    ⟨fun k hk => old_lt h (hS k hk), ⟨ca, na, fa, cc, nc, fc, rfl, hc.frame (h.mono hS), hn.frame (h.mono hS), hf.frame (h.mono hS)⟩, cn, nn, rn, fn⟩
  (conv => whnf); refine ldN (cs := [.slice ca cells.length cc, .slice na next.length nc, .slice fa final.length fc]) ag26 (hb12.cells (fun j v hv => by rw [Nat.zero_add]; exact hv)) trivial ?_
  (conv => whnf); refine pures (whole_p _ cells next final S H2 (htab hA2)) fun H3 ha3 => ?_
  have hA3 := hA2.trans (ha3.mono fun k hk => old_lt hA2 hk)
  have hb13 := hb12.agr ha3 hb12.lt
  have hb23 := hb2.agr ha3 hb2.lt
  have hs3 := old_size ha3
  -- the result in its cell
  have fin : ∀ {H5 H6 : Heap} {v : Value} {D : DM} {r : Value → Heap → Prop}, Agr (Old H) H H5 → H3.size ≤ H5.size → DfaV (Fresh H3 H5) H5 v D → Agr (fun k => k ≠ p2) H5 H6 → H6.size = H5.size →
      Agr (Old H) H H6 ∧ H.size ≤ H6.size ∧ DfaV (Fresh H H6) H6 v D := fun h1 h2 h3 h4 h5 =>
    ⟨h1.trans (h4.mono fun j hj => by unfold Old at hj; omega), by omega, (h3.frame (h4.mono fun j hj => by have := hj.1; omega)).mono fun j hj => ⟨by have := hj.1; omega, by have := hj.2; omega⟩⟩
  unfold dfaOf
  cases hso : soundB cells next final.length with
  | false =>
    (conv => whnf); refine VCall.mk (none_c H3) ?_
    rintro v5 H5 ⟨ha5, hs5, hd⟩
    have hd' := hd
    obtain ⟨hl, ra, rc, xa, xc, ya, yc, rfl, -⟩ := hd'
    have hl259 := dfaL_len (rv := .slice ra noneD.reps.length rc) (nv := .slice xa noneD.next.length xc) (fv := .slice ya noneD.final.length yc) hl
    (conv => whnf); refine VC.stN (cs := dfaL noneD.cell (.slice ra noneD.reps.length rc) (.slice xa noneD.next.length xc) (.slice ya noneD.final.length yc)) (by rw [hl259]; rfl) (hb23.agr ha5 hb23.lt) (Nat.le_of_eq (by rw [hl259, dfaL_len (by simp)])) (dfaL_ones rfl rfl rfl) ?_
    intro H6 hb6 ha6 hs6
    rw [splice_all (by rw [hl259, dfaL_len (by simp)])] at hb6
    (conv => whnf); refine ldN (cs := dfaL noneD.cell (.slice ra noneD.reps.length rc) (.slice xa noneD.next.length xc) (.slice ya noneD.final.length yc)) (by rw [hl259]; exact ag37) (hb6.cells fun j v hv => by rw [Nat.zero_add]; exact hv) trivial ?_
    exact fin (r := fun _ _ => True) (hA3.trans (ha5.mono fun k hk => old_lt hA3 hk)) hs5 hd ha6 hs6
  | true =>
    (conv => whnf); refine VDraw.held (Old H3) 7 (sq [0,2,3,4,5] (.f 1 (.f 6 (.f 7 .e)))) rfl (by kernel_rfl) ?_
    (conv => whnf); refine ldN (cs := [.slice ca cells.length cc, .slice na next.length nc, .slice fa final.length fc]) ag26 (hb13.cells (fun j v hv => by rw [Nat.zero_add]; exact hv)) hb13.lt ?_
    (conv => whnf); refine VC.fa fl26_1 ?_
    (conv => whnf); refine ld1 ct23 (by rw [hb13.cell]; rfl) hb13.lt ?_
    (conv => whnf); refine VC.fa fl26_2 ?_
    (conv => whnf); refine ld1 ct24 (by rw [hb13.cell]; rfl) hb13.lt ?_
    (conv => whnf); refine VCall.mk (sets_l _ _ ca cc cells S H3 (fun k hk => old_lt hA3 (hS k hk)) (hc.frame (hA3.mono hS)) (by omega)) ?_
    rintro v4 H4 ⟨ha4, hs4, bc, rfl, hbc, own1⟩
    have hA4 := hA3.trans (ha4.mono fun k hk => old_lt hA3 hk)
    refine ⟨ha4, ?_⟩
    obtain ⟨xa, xc, e1, hx, -⟩ := own1.view (S' := Old H4) (fun j hj => (own1.lt hj).2) (fun _ f => f.elim)
    injection e1 with e2 e3 e4
    subst e2; subst e4
    have up : ∀ k, S k → Old H4 k := fun k hk => old_lt hA4 (hS k hk)
    (conv => whnf); refine VCall.mk (refnew_c (some ⟨bc, 0, none⟩) na fa cells.length nc fc cells next final (Old H4) H4 (fun k hk => hk) hx ((hn.frame (hA4.mono hS)).mono up) ((hf.frame (hA4.mono hS)).mono up) (by omega) hso) ?_
    rintro v5 H5 ⟨ha5, hs5, hd⟩
    refine ⟨ha4.trans (ha5.mono fun k hk => old_lt ha4 hk), ?_⟩
    have hd' := hd
    obtain ⟨hl, ra, rc, xa, xc, ya, yc, rfl, -⟩ := hd'
    have hl259 := dfaL_len (rv := .slice ra (madeD cells next final).reps.length rc) (nv := .slice xa (madeD cells next final).next.length xc) (fv := .slice ya (madeD cells next final).final.length yc) hl
    (conv => whnf); refine VC.stN (cs := dfaL (madeD cells next final).cell (.slice ra (madeD cells next final).reps.length rc) (.slice xa (madeD cells next final).next.length xc) (.slice ya (madeD cells next final).final.length yc)) (by rw [hl259]; rfl) ((hb23.agr ha4 hb23.lt).agr ha5 (old_lt ha4 hb23.lt)) (Nat.le_of_eq (by rw [hl259, dfaL_len (by simp)])) (dfaL_ones rfl rfl rfl) ?_
    intro H6 hb6 ha6 hs6
    rw [splice_all (by rw [hl259, dfaL_len (by simp)])] at hb6
    (conv => whnf); refine ldN (cs := dfaL (madeD cells next final).cell (.slice ra (madeD cells next final).reps.length rc) (.slice xa (madeD cells next final).next.length xc) (.slice ya (madeD cells next final).final.length yc)) (by rw [hl259]; exact ag37) (hb6.cells fun j v hv => by rw [Nat.zero_add]; exact hv) trivial ?_
    exact fin (r := fun _ _ => True) (hA4.trans (ha5.mono fun k hk => old_lt hA4 hk)) (by omega) (hd.mono fun j hj => ⟨by have := hj.1; omega, hj.2⟩) ha6 hs6

end Go.Proofs.Ytpnnedkpbmilkaa
