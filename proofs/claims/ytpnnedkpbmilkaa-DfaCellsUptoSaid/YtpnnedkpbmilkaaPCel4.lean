/- The law DfaCells: its walk. -/
import Derived.Test.YtpnnedkpbmilkaaPCel3
import Derived.Test.YtpnnedkpbmilkaaPOpen5
set_option linter.unusedVariables false
set_option linter.unusedSimpArgs false
set_option maxRecDepth 100000
namespace Go.Proofs.Ytpnnedkpbmilkaa
open Go.VC
attribute [local irreducible] mRun atRun gRun

set_option maxHeartbeats 4000000 in
theorem cellsLaw_p (v : Value) (cells : List (BitVec 256)) (next : List (List Int)) (final : List Bool) (S : Nat → Prop) (H : Heap) (ht : TabIn S H v cells next final) :
    Pure Try.prog 4 #[v] H (.bool true) := by
  obtain ⟨hS, ⟨ca, na, fa, cc, nc, fc, rfl, hc, hn, hf⟩, cn, nn, rn, fn⟩ := ht
  refine FnOk.of_vc Try.func4 rfl (Try.call4 _) ?_
  (conv => whnf); refine vbox [.slice ca cells.length cc, .slice na next.length nc, .slice fa final.length fc] rfl ?_
  intro pb H1 hpb hs1 hb1 ha1
  (conv => whnf); refine pures (speaks_p H1) fun H2 ha2 => ?_
  have hb2 := hb1.agr ha2 (show pb < H1.size by omega)
  have hs2' := old_size ha2
  have hA2 : Agr (Old H) H H2 := (ha1.mono fun k hk => by unfold Old at hk; omega).trans (ha2.mono fun k hk => by unfold Old at *; omega)
  (conv => whnf)
  refine VDraw.cut [3] (fun v : Value => [v]) (fun v H' => Agr (Old H2) H2 H' ∧ AutoV (Fresh H2 H') H' v (autoOf cells next final)) ?_ ?_
  · refine VDraw.held (Old H2) 10 (sq [0,2,3,6,7] (.b 1 (.b 4 (.f 5 (.f 8 (.f 9 (.f 10 .e)))) 5 (.f 4 (.f 8 (.f 9 (.f 10 .e))))) 5 (.f 1 (.f 4 (.f 8 (.f 9 (.f 10 .e))))))) rfl (by kernel_rfl) ?_
    (conv => whnf); refine ldN (cs := [.slice ca cells.length cc, .slice na next.length nc, .slice fa final.length fc]) ag26 (hb2.cells (fun j v hv => by rw [Nat.zero_add]; exact hv)) hb2.lt ?_
    (conv => whnf); refine VC.fa fl26_1 ?_
    (conv => whnf); refine ld1 ct23 (by rw [hb2.cell]; rfl) hb2.lt ?_
    (conv => whnf); refine VC.fa fl26_2 ?_
    (conv => whnf); refine ld1 ct24 (by rw [hb2.cell]; rfl) hb2.lt ?_
    have hSs : ∀ {H3 : Heap}, Agr (Old H2) H2 H3 → Agr S H H3 := fun h => (hA2.trans (h.mono fun k hk => old_lt hA2 hk)).mono hS
    have hSo : ∀ {H3 : Heap}, Agr (Old H2) H2 H3 → ∀ k, S k → k < H3.size := fun h k hk => old_lt h (old_lt hA2 (hS k hk))
    have fin : ∀ {H6 : Heap} {v1 v3 : Value} {nb lo1 lo2 : Nat} {vs : List Value} {K : Value → Heap → Prop}, Agr (Old H2) H2 H6 → SlO tSet (fun _ => False) H6 lo1 41 v1 cells → Tab tI (fun _ => False) H6 (nb + 1) 3 nb 35 vs next → SlO tBool (fun _ => False) H6 lo2 4 v3 final →
        (∀ v H7, Agr (Old H2) H2 H7 → AutoV (Fresh H2 H7) H7 v (autoOf cells next final) → K v H7) → VCall Try.prog 17 #[v1, .slice (some ⟨nb, 0, none⟩) next.length next.length, v3] H6 K := fun hag h1 h2 h3 k =>
      vcall_newO h1 h2 h3 (by unfold maxLen; omega) fun v H7 h4 h5 h6 => k v H7 (hag.trans (h4.mono fun k hk => old_lt hag hk)) (h6.mono fun k hk => ⟨by have := old_size hag; have := hk.1; omega, hk.2⟩)
    (conv => whnf); refine ⟨?_, ?_⟩
    · refine VCall.mk (cells_l _ _ ca cc cells S H2 (hSo (Agr.refl _ _)) (hc.frame (hSs (Agr.refl _ _))) (by omega)) ?_
      rintro v3 H3 ⟨ha3, hs3, bc, rfl, hbc, own1⟩
      refine ⟨ha3, ?_⟩
      (conv => whnf); refine ⟨?_, ?_⟩
      · refine VCall.mk (rows_c na nc next S H3 (hSo ha3) (hn.frame (hSs ha3)) (by omega) (fun row hr => Nat.le_trans (rn row hr) (by decide))) ?_
        rintro v4 H4 ⟨ha4, hs4, nb, vs, rfl, hnb, tab⟩
        have hA4 := ha3.trans (ha4.mono fun k hk => old_lt ha3 hk)
        refine ⟨hA4, ?_⟩
        (conv => whnf); refine vbuild0 sl24 ?_
        intro q H5 hq hs5 hb5 ha5
        have hA5 : Agr (Old H2) H2 H5 := hA4.trans (ha5.mono fun k hk => by have := old_lt hA4 hk; omega)
        refine ⟨hA5, ?_⟩
        (conv => whnf); refine ends_c hb5 (S := S) (fun k hk => ⟨hSo hA5 k hk, by have := hSo hA4 k hk; omega⟩) (hf.frame (hSs hA5)) (by omega) ?_
        intro v6 H6 own3 ha6 hs6
        have h46 : Agr (fun k => k < H4.size) H4 H6 := (ha5.mono fun k hk => by omega).trans (ha6.mono fun k hk => by omega)
        have hA6 : Agr (Old H2) H2 H6 := hA4.trans (h46.mono fun k hk => old_lt hA4 hk)
        refine ⟨hA6, ?_⟩
        (conv => whnf); refine fin hA6 ((own1.agr ha4 (fun b hb => (own1.lt hb).2) (fun _ h => h.elim)).agr h46 (fun b hb => by have := (own1.lt hb).2; omega) (fun _ h => h.elim)) (tab.agr h46 tab.blk.lt (fun b _ hb => hb) (fun _ h => h.elim)) own3 fun v7 H7 ha7 hv7 => ⟨ha7, ?_⟩
        (conv => whnf); exact ⟨rfl, v7, rfl, ha7, hv7⟩
      · refine vbuild0 sl24 ?_
        intro q H4 hq hs4 hb4 ha4
        have hA4 : Agr (Old H2) H2 H4 := ha3.trans (ha4.mono fun k hk => by have := old_lt ha3 hk; omega)
        refine ⟨hA4, ?_⟩
        (conv => whnf); refine VCall.mk (rows_c na nc next S H4 (hSo hA4) (hn.frame (hSs hA4)) (by omega) (fun row hr => Nat.le_trans (rn row hr) (by decide))) ?_
        rintro v5 H5 ⟨ha5, hs5, nb, vs, rfl, hnb, tab⟩
        have hA5 := hA4.trans (ha5.mono fun k hk => old_lt hA4 hk)
        refine ⟨hA5, ?_⟩
        (conv => whnf); refine ends_c (hb4.agr ha5 hb4.lt) (S := S) (fun k hk => ⟨hSo hA5 k hk, by have := hSo ha3 k hk; omega⟩) (hf.frame (hSs hA5)) (by omega) ?_
        intro v6 H6 own3 ha6 hs6
        have h36 : Agr (fun k => k < H3.size) H3 H6 := ((ha4.mono fun k hk => by omega).trans (ha5.mono fun k hk => by unfold Old; omega)).trans (ha6.mono fun k hk => by omega)
        have hA6 : Agr (Old H2) H2 H6 := ha3.trans (h36.mono fun k hk => old_lt ha3 hk)
        refine ⟨hA6, ?_⟩
        (conv => whnf); refine fin hA6 (own1.agr h36 (fun b hb => (own1.lt hb).2) (fun _ h => h.elim)) (tab.agr ha6 ⟨tab.blk.lt, by omega⟩ (fun b h1 h2 => ⟨h2, by omega⟩) (fun _ h => h.elim)) own3 fun v7 H7 ha7 hv7 => ⟨ha7, ?_⟩
        (conv => whnf); exact ⟨rfl, v7, rfl, ha7, hv7⟩
    · refine vbuild0 sl24 ?_
      intro q H3 hq hs3 hb3 ha3
      have hA3 : Agr (Old H2) H2 H3 := ha3.mono fun k hk => by unfold Old at hk; omega
      refine ⟨hA3, ?_⟩
      (conv => whnf); refine VCall.mk (cells_l _ _ ca cc cells S H3 (hSo hA3) (hc.frame (hSs hA3)) (by omega)) ?_
      rintro v4 H4 ⟨ha4, hs4, bc, rfl, hbc, own1⟩
      have hA4 := hA3.trans (ha4.mono fun k hk => old_lt hA3 hk)
      refine ⟨hA4, ?_⟩
      (conv => whnf); refine VCall.mk (rows_c na nc next S H4 (hSo hA4) (hn.frame (hSs hA4)) (by omega) (fun row hr => Nat.le_trans (rn row hr) (by decide))) ?_
      rintro v5 H5 ⟨ha5, hs5, nb, vs, rfl, hnb, tab⟩
      have hA5 := hA4.trans (ha5.mono fun k hk => old_lt hA4 hk)
      refine ⟨hA5, ?_⟩
      (conv => whnf); refine ends_c ((hb3.agr ha4 hb3.lt).agr ha5 (show q < H4.size by omega)) (S := S) (fun k hk => ⟨hSo hA5 k hk, by have := hSo (Agr.refl _ _) k hk; omega⟩) (hf.frame (hSs hA5)) (by omega) ?_
      intro v6 H6 own3 ha6 hs6
      have hA6 : Agr (Old H2) H2 H6 := hA5.trans (ha6.mono fun k hk => ⟨old_lt hA5 hk, by unfold Old at hk; omega⟩)
      refine ⟨hA6, ?_⟩
      (conv => whnf); refine fin hA6 ((own1.agr ha5 (fun b hb => (own1.lt hb).2) (fun _ h => h.elim)).agr ha6 (fun b hb => by have := own1.lt hb; omega) (fun _ h => h.elim)) (tab.agr ha6 ⟨tab.blk.lt, by omega⟩ (fun b h1 h2 => ⟨h2, by omega⟩) (fun _ h => h.elim)) own3 fun v7 H7 ha7 hv7 => ⟨ha7, ?_⟩
      (conv => whnf); exact ⟨rfl, v7, rfl, ha7, hv7⟩
  · rintro v7 H3 junk ⟨ha3, hv3⟩
    have hA3 := hA2.trans (ha3.mono fun k hk => old_lt hA2 hk)
    have hb3 := hb2.agr ha3 hb2.lt
    have htab : ∀ {H' : Heap}, Agr (Old H) H H' → TabIn S H' (.agg #[.slice ca cells.length cc, .slice na next.length nc, .slice fa final.length fc]) cells next final := fun h =>
      ⟨fun k hk => old_lt h (hS k hk), ⟨ca, na, fa, cc, nc, fc, rfl, hc.frame (h.mono hS), hn.frame (h.mono hS), hf.frame (h.mono hS)⟩, cn, nn, rn, fn⟩
    have hload : ∀ {H' : Heap} {S0 : Nat → Prop} {K : Value → Prop}, Blk H' pb 26 [.slice ca cells.length cc, .slice na next.length nc, .slice fa final.length fc] → S0 pb → K (.agg #[.slice ca cells.length cc, .slice na next.length nc, .slice fa final.length fc]) → VDet Try.prog (Instr.loadAt 26 (.pointer (some ⟨pb, 0, none⟩))) S0 H' K := fun h hs k =>
      ldN (cs := [.slice ca cells.length cc, .slice na next.length nc, .slice fa final.length fc]) ag26 (h.cells (fun j v hv => by rw [Nat.zero_add]; exact hv)) hs k
    (conv => whnf); refine hload hb3 trivial ?_
    (conv => whnf); refine VCall.mk (made_c _ cells next final S H3 (htab hA3)) ?_
    rintro v4 H4 ⟨ha4, hs4, hd⟩
    have hA4 := hA3.trans (ha4.mono fun k hk => old_lt hA3 hk)
    have hok := dfaOf_ok cells next final
    have b0 := both_n cells next final
    have b1 : ∀ (q : Int) (b : Nat), b < 256 → stepM (autoOf cells next final) q b = stepD (dfaOf cells next final) q b := fun q b hb => both_step cells next final q hb
    have b2 := both_final cells next final
    obtain ⟨cl1, cl2⟩ := cells_sets cells next final
    generalize autoOf cells next final = o at *
    generalize hD : dfaOf cells next final = D at *
    (conv => whnf); refine VCall.mk (refcells_c (fun k hk => hk.2) hd hok) ?_
    rintro v5 H5 ⟨ha5, hs5, wa, wc, rfl, hw⟩
    generalize (gRun (simD D) 256).1.length = n at *
    generalize (gRun (simD D) 256).2 = ps at *
    have hA5 := hA4.trans (ha5.mono fun k hk => old_lt hA4 hk)
    have h35 : Agr (Old H3) H3 H5 := ha4.trans (ha5.mono fun k hk => old_lt ha4 hk)
    have hv5 := hv3.frame (h35.mono fun k hk => hk.2)
    have hXn : (cellsM o).length = n := by rw [cl1, atSets_len]
    have hnm : n ≤ 256 := by
      rw [← hXn]
      cases o with
      | none => decide
      | some A => obtain ⟨pb', _, _, hAok, _⟩ := hv3; exact hAok.sl
    (conv => whnf); refine VCall.mk (cells_o (fun k hk => by have := hk.2; have := old_size h35; omega) hv5) ?_
    rintro v6 H6 ⟨ha6, hs6, own6⟩
    have h36 := h35.trans (ha6.mono fun k hk => old_lt h35 hk)
    have hv6 := hv5.frame (ha6.mono fun k hk => old_lt h35 hk.2)
    (conv => whnf); refine VCall.mk (cells_o (fun k hk => by have := hk.2; have := old_size h36; omega) hv6) ?_
    rintro v8 H7 ⟨ha7, hs7, own8⟩
    have h37 := h36.trans (ha7.mono fun k hk => old_lt h36 hk)
    have own67 := own6.agr ha7 (fun j hj => (own6.lt hj).2) (fun _ f => f.elim)
    obtain ⟨xa, xc, rfl, hx, -⟩ := own67.view (S' := Old H7) (fun j hj => (own67.lt hj).2) (fun _ f => f.elim)
    obtain ⟨ya, yc, rfl, hy, -⟩ := own8.view (S' := Old H7) (fun j hj => (own8.lt hj).2) (fun _ f => f.elim)
    have hylt : ∀ j, slB (.slice ya (cellsM o).length yc) j → H6.size ≤ j ∧ j < H7.size := fun j hj => own8.lt hj
    have hxlt : ∀ j, slB (.slice xa (cellsM o).length xc) j → H5.size ≤ j ∧ j < H6.size := fun j hj => own6.lt hj
    rw [hXn] at hylt hxlt own67 own8 ⊢
    have lst : ∀ {a1 a2 : Option Addr} {c1 c2 : Nat} {S' : Nat → Prop} {H' : Heap}, (∀ k, S' k → k < H'.size) → SlD tSet S' H' a1 c1 (cellsM o) → SlD tF S' H' a2 c2 (atSets ps n) → Pure Try.prog 27 #[.slice a1 n c1, .slice a2 n c2] H' (.bool true) := by
      intro a1 a2 c1 c2 S' H' hlt k1 k2
      have := listed_p a1 a2 c1 c2 _ _ S' H' hlt k1 k2 cl1 cl2
      rwa [hXn, atSets_len] at this
    have h57 : Agr (Old H5) H5 H7 := ha6.trans (ha7.mono fun k hk => old_lt ha6 hk)
    have hw7 : SlD tF (Old H7) H7 wa wc (atSets ps n) := (hw.frame (h57.mono fun k hk => hk.2)).mono fun k hk => old_lt h57 hk.2
    (conv => whnf); refine pures (lst (S' := Old H7) (fun k hk => hk) hx hw7) fun H8 ha8 => ?_
    (conv => whnf); refine pures (lst (S' := Old H7) (fun k hk => old_lt ha8 hk) (hy.frame ha8) (hw7.frame ha8)) fun H9 ha9 => ?_
    have h79 := ha8.trans (ha9.mono fun k hk => old_lt ha8 hk)
    have h39 := h37.trans (h79.mono fun k hk => old_lt h37 hk)
    have own69 := own67.agr h79 (fun j hj => (own67.lt hj).2) (fun _ f => f.elim)
    have hs9 := old_size h79
    (conv => whnf)
    refine VLoop.mk [7] (fun i : Nat => [.int .i64 i]) (fun i H10 => i ≤ n ∧ Agr (fun j => ¬ slB (.slice xa n xc) j) H9 H10 ∧ H10.size = H9.size ∧ ∃ xs : List (BitVec 256), xs.length = n ∧ SlO tSet (fun _ => False) H10 H5.size 41 (.slice xa n xc) xs) (fun i _ => n - i) ?_ ?_
    · (conv => whnf)
      exact ⟨0, rfl, by omega, Agr.refl _ _, rfl, cellsM o, hXn, own69⟩
    · rintro i H10 junk10 ⟨hi, ha10, hs10, xs, hxl, hxo⟩
      have h310 : Agr (Old H3) H3 H10 := h39.trans (ha10.mono fun j hj => fun hb => by have := hxlt j hb; have := old_size h35; unfold Old at hj; omega)
      have hA10 := hA3.trans (h310.mono fun k hk => old_lt hA3 hk)
      (conv => whnf); refine VIte.mk (fun h => ?_) (fun h => ?_) <;> simp only [decide_eq_true_eq, decide_eq_false_iff_not] at h
      · obtain ⟨xb, xcap, l7, cs7, e7, hlo7, hblk7, hlen7, -, -, hput7⟩ := hxo.place (i := i) (by omega)
        rw [hxl] at e7
        injection e7 with g1 g2 g3
        subst g1; subst g3
        (conv => whnf); rw [wrap_in (k := .u64) (inU64 (x := i) (by omega))]
        (conv => whnf); rw [show ((i : Int) + 5) = ((i + 5 : Nat) : Int) by omega, wrap_in (k := .u64) (inU64 (x := i + 5) (by omega))]
        (conv => whnf); refine vbuildA ar41 (setV 0) rfl [.int .u64 ((i + 5 : Nat) : Int), .int .u64 5, .int .u64 5, .int .u64 5] rfl ?_
        (conv => whnf); refine ix sl29 (by omega) (by omega) ?_
        (conv => whnf); refine VC.stN (cs := [.int .u64 ((i + 5 : Nat) : Int), .int .u64 5, .int .u64 5, .int .u64 5]) rfl hblk7 (by rw [Nat.zero_add, Int.toNat_natCast]; exact hlen7) rfl ?_
        intro H11 hb11 ha11 hs11
        rw [Nat.zero_add, Int.toNat_natCast] at hb11
        have hofw := wd_of (a := i + 5) (b := 5) (c := 5) (d := 5) (by omega) (by omega) (by omega) (by omega)
        have hx11 := hput7 H11 _ (ofWd (i + 5) 5 5 5) hb11 (fun j hj => hj.elim) (by
          show _ = setL _
          unfold setL
          rw [hofw.1, hofw.2.1, hofw.2.2.1, hofw.2.2.2]
          rfl)
        (conv => whnf); rw [w64 (x := (i : Int) + 1) (by omega) (by omega)]
        exact ⟨rfl, i + 1, by simp, ⟨by omega, ha10.trans (ha11.mono fun j hj e => hj (by rw [e]; exact ⟨0, _, _, rfl⟩)), by omega, _, by simp [hxl], hx11⟩, by omega⟩
      · have hv10 := hv3.frame (h310.mono fun k hk => hk.2)
        have h710 : Agr (fun j => j < H7.size ∧ ¬ slB (.slice xa n xc) j) H7 H10 := (h79.mono fun j hj => hj.1).trans (ha10.mono fun j hj => hj.2)
        have hw5 : Agr (Old H5) H5 H10 := h57.trans (h710.mono fun j hj => ⟨old_lt h57 hj, fun hb => by have := hxlt j hb; unfold Old at hj; omega⟩)
        have hw10 : SlD tF (Old H10) H10 wa wc (atSets ps n) := (hw.frame (hw5.mono fun k hk => hk.2)).mono fun k hk => old_lt hw5 hk.2
        have own810 := own8.agr h710 (fun j hj => ⟨(hylt j hj).2, fun hb => by have := hxlt j hb; have := hylt j hj; omega⟩) (fun _ f => f.elim)
        have hy10 : SlD tSet (Old H10) H10 ya yc (cellsM o) := by
          obtain ⟨a', c', e, hd', -⟩ := own810.view (S' := Old H10) (fun j hj => (own810.lt hj).2) (fun _ f => f.elim)
          injection e with g1 g2 g3
          subst g1; subst g3
          exact hd'
        (conv => whnf); refine VCall.mk (cells_o (fun k hk => by have := hk.2; have := old_size h310; omega) hv10) ?_
        rintro v11 H11 ⟨ha11, hs11, own11⟩
        obtain ⟨za, zc, rfl, hz, -⟩ := own11.view (S' := Old H11) (fun j hj => (own11.lt hj).2) (fun _ f => f.elim)
        rw [hXn]
        have up11 : ∀ k, Old H10 k → Old H11 k := fun k hk => old_lt ha11 hk
        (conv => whnf); refine pures (lst (S' := Old H11) (fun k hk => hk) ((hy10.frame ha11).mono up11) ((hw10.frame ha11).mono up11)) fun H12 ha12 => ?_
        (conv => whnf); refine pures (lst (S' := Old H11) (fun k hk => old_lt ha12 hk) (hz.frame ha12) (((hw10.frame ha11).mono up11).frame ha12)) fun H13 ha13 => ?_
        have h1013 : Agr (Old H10) H10 H13 := (ha11.trans (ha12.mono fun k hk => old_lt ha11 hk)).trans (ha13.mono fun k hk => old_lt ha12 (old_lt ha11 hk))
        have h313 := h310.trans (h1013.mono fun k hk => old_lt h310 hk)
        have hA13 := hA3.trans (h313.mono fun k hk => old_lt hA3 hk)
        (conv => whnf); refine hload (hb3.agr h313 hb3.lt) trivial ?_
        (conv => whnf); refine VCall.mk (made_c _ cells next final S H13 (htab hA13)) ?_
        rintro v14 H14 ⟨ha14, hs14, hd14⟩
        rw [hD] at hd14
        have h314 := h313.trans (ha14.mono fun k hk => old_lt h313 hk)
        have hA14 := hA3.trans (h314.mono fun k hk => old_lt hA3 hk)
        have hv14 : AutoV (Old H14) H14 v7 o := (hv3.frame (h314.mono fun k hk => hk.2)).mono fun k hk => old_lt h314 hk.2
        (conv => whnf); refine pures (same_p (S := Old H14) (fun k hk => hk) hv14 (hd14.mono fun k hk => hk.2) hok b0 b1 b2) fun H15 ha15 => ?_
        (conv => whnf)
        exact ⟨rfl, hA14.trans (ha15.mono fun k hk => old_lt hA14 hk)⟩

end Go.Proofs.Ytpnnedkpbmilkaa
