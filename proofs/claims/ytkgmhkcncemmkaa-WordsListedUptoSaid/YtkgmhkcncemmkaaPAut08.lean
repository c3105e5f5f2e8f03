/- auto of the laws of layer 08. -/
import Derived.Test.YtkgmhkcncemmkaaPSame5
set_option linter.unusedVariables false
set_option linter.unusedSimpArgs false
set_option maxRecDepth 100000
namespace Go.Proofs.Ytkgmhkcncemmkaa
open Go.VC
attribute [local irreducible] mRun atRun

set_option maxHeartbeats 4000000 in
theorem auto08_c (v : Value) (cells : List (BitVec 256)) (next : List (List Int)) (final : List Bool) (S : Nat → Prop) (H : Heap) (ht : TabIn S H v cells next final) :
    FnOk Try.prog 17 #[v] H fun v H' => Agr (Old H) H H' ∧ H.size ≤ H'.size ∧ AutoV (Fresh H H') H' v (autoOf cells next final) := by
  obtain ⟨hS, ⟨ca, na, fa, cc, nc, fc, rfl, hc, hn, hf⟩, cn, nn, rn, fn⟩ := ht
  refine FnOk.of_vc Try.func17 rfl (Try.call17 _) ?_
  (conv => whnf); refine vbox [.slice ca cells.length cc, .slice na next.length nc, .slice fa final.length fc] rfl ?_
  intro pb H1 hpb hs1 hb1 ha1
  (conv => whnf); refine VC.fa fl26_0 ?_
  (conv => whnf); refine ld1 ct22 (by rw [hb1.cell]; rfl) trivial ?_
  (conv => whnf); refine vmakeT (T := tSet) (v := 0#256) (S := fun _ => False) sl80 (zero_set _ _) (by omega) rfl (by omega) (by omega) ?_
  intro nb H2 hnb hs2 hb2' ha2
  rw [Int.toNat_natCast] at hb2'
  have hA2 : Agr (Old H) H H2 := (ha1.mono fun j hj => by unfold Old at hj; omega).trans (ha2.mono fun j hj => by unfold Old at hj; omega)
  (conv => whnf)
  refine VLoop.mk [4] (fun k : Nat => [.int .i64 k]) (fun k H3 => k ≤ cells.length ∧ Agr (fun j => j < H2.size ∧ j ≠ nb) H2 H3 ∧ H3.size = H2.size ∧
    SlO tSet (fun _ => False) H3 H.size 78 (.slice (some ⟨nb, 0, none⟩) cells.length cells.length) (cells.take k ++ List.replicate (cells.length - k) 0#256)) (fun k _ => cells.length - k) ?_ ?_
  · (conv => whnf)
    refine ⟨0, rfl, by omega, Agr.refl _ _, rfl, ?_⟩
    rw [fill_beg]
    exact SlO.made (by omega) hb2' (zero_set _ _) (by unfold maxLen; omega)
  · rintro k H3 junk ⟨hk, ha3, hs3, hown⟩
    have hb13 := (hb1.agr ha2 (show pb < nb by omega)).agr ha3 ⟨by omega, by omega⟩
    have hA3 : Agr (Old H) H H3 := hA2.trans (ha3.mono fun j hj => by unfold Old at hj; omega)
    (conv => whnf); refine VC.fa fl26_0 ?_
    (conv => whnf); refine ld1 ct22 (by rw [hb13.cell]; rfl) trivial ?_
    (conv => whnf); refine VIte.mk (fun h => ?_) (fun h => ?_) <;> simp only [decide_eq_true_eq, decide_eq_false_iff_not] at h
    · obtain ⟨x, hx⟩ := get_some (l := cells) (k := k) (by omega)
      (conv => whnf); refine VC.fa fl26_0 ?_
      (conv => whnf); refine ld1 ct22 (by rw [hb13.cell]; rfl) trivial ?_
      (conv => whnf); refine ixr sl22 (hc.frame (hA3.mono hS)) hx rfl ?_
      rintro b4 o4 cs4 hSb4 hcells4 rfl
      (conv => whnf); refine ldN (cs := setL x) ag77 hcells4 trivial ?_
      obtain ⟨-, -, hlo5, l5, hblk5, hlen5, hget5, hput5⟩ := hown.placeS (i := k) (by rw [fill_len hk]; omega)
      (conv => whnf); refine ix sl80 (by omega) (by omega) ?_
      (conv => whnf); refine VC.stN rfl hblk5 (by rw [Nat.zero_add, Int.toNat_natCast]; exact hlen5) rfl ?_
      intro H6 hb6 ha6 hs6
      rw [Nat.zero_add, Int.toNat_natCast] at hb6
      have hown6 := hput5 H6 (setL x) x hb6 (fun j hj => hj.elim) rfl
      rw [fill_set hx] at hown6
      (conv => whnf); rw [w64 (x := (k : Int) + 1) (by omega) (by omega)]
      exact ⟨rfl, k + 1, by simp, ⟨by omega, ha3.trans (ha6.mono fun j hj => hj.2), by omega, hown6⟩, by omega⟩
    · obtain rfl : k = cells.length := by omega
      rw [fill_end] at hown
      have hSs : ∀ {H4 : Heap}, Agr (Old H3) H3 H4 → Agr S H H4 := fun h => (hA3.trans (h.mono fun k hk => old_lt hA3 hk)).mono hS
      have hSo : ∀ {H4 : Heap}, Agr (Old H3) H3 H4 → ∀ k, S k → k < H4.size := fun h k hk => old_lt h (old_lt hA3 (hS k hk))
      have fin : ∀ {H6 : Heap} {v1 v3 : Value} {nb lo1 lo2 : Nat} {vs : List Value} {K : Value → Heap → Prop}, Agr (Old H3) H3 H6 → SlO tSet (fun _ => False) H6 lo1 78 v1 cells → Tab tI (fun _ => False) H6 (nb + 1) 3 nb 36 vs next → SlO tBool (fun _ => False) H6 lo2 4 v3 final →
          (∀ v H7, Agr (Old H) H H7 → H.size ≤ H7.size → Agr (Old H3) H3 H7 → AutoV (Fresh H H7) H7 v (autoOf cells next final) → K v H7) → VCall Try.prog 39 #[v1, .slice (some ⟨nb, 0, none⟩) next.length next.length, v3] H6 K := fun hag h1 h2 h3 k =>
        vcall_newO h1 h2 h3 (by unfold maxLen; omega) fun v H7 h4 h5 h6 => k v H7 (hA3.trans ((hag.trans (h4.mono fun k hk => old_lt hag hk)).mono fun k hk => old_lt hA3 hk)) (by have := old_size hag; omega) (hag.trans (h4.mono fun k hk => old_lt hag hk)) (h6.mono fun k hk => ⟨by have := old_size hag; have := hk.1; omega, hk.2⟩)
      have hnb3 : nb < H3.size := by omega
      (conv => whnf)
      refine VDraw.held (Old H3) 9 (sq [0,1,2,5,6] (.b 3 (.f 4 (.f 7 (.f 8 (.f 9 .e)))) 4 (.f 3 (.f 7 (.f 8 (.f 9 .e)))))) rfl (by kernel_rfl) ?_
      (conv => whnf); refine VC.fa fl26_1 ?_
      (conv => whnf); refine ld1 ct23 (by rw [hb13.cell]; rfl) hb13.lt ?_
      (conv => whnf); refine VC.fa fl26_2 ?_
      (conv => whnf); refine ld1 ct24 (by rw [hb13.cell]; rfl) hb13.lt ?_
      (conv => whnf); refine ⟨?_, ?_⟩
      · refine VCall.mk (rows_c na nc next S H3 (hSo (Agr.refl _ _)) (hn.frame (hSs (Agr.refl _ _))) (by omega) (fun row hr => Nat.le_trans (rn row hr) (by decide))) ?_
        rintro v4 H4 ⟨ha4, hs4, mb, vs, rfl, hmb, tab⟩
        refine ⟨ha4, ?_⟩
        (conv => whnf); refine vbuild0 sl24 ?_
        intro q H5 hq hs5 hb5 ha5
        have hA5 : Agr (Old H3) H3 H5 := ha4.trans (ha5.mono fun k hk => by have := old_lt ha4 hk; omega)
        refine ⟨hA5, ?_⟩
        (conv => whnf); refine ends_c hb5 (S := S) (fun k hk => ⟨hSo hA5 k hk, by have := hSo ha4 k hk; omega⟩) (hf.frame (hSs hA5)) (by omega) ?_
        intro v6 H6 own3 ha6 hs6
        have h46 : Agr (fun k => k < H4.size) H4 H6 := (ha5.mono fun k hk => by omega).trans (ha6.mono fun k hk => by omega)
        have hA6 : Agr (Old H3) H3 H6 := ha4.trans (h46.mono fun k hk => old_lt ha4 hk)
        refine ⟨hA6, ?_⟩
        (conv => whnf); refine fin hA6 (hown.agr hA6 (fun b hb => (hown.lt hb).2) (fun _ h => h.elim)) (tab.agr h46 tab.blk.lt (fun b _ hb => hb) (fun _ h => h.elim)) own3 fun v7 H7 g1 g2 g3 g4 => ⟨g3, ?_⟩
        (conv => whnf); exact ⟨g1, g2, g4⟩
      · refine vbuild0 sl24 ?_
        intro q H4 hq hs4 hb4 ha4
        have hA4 : Agr (Old H3) H3 H4 := ha4.mono fun k hk => by unfold Old at hk; omega
        refine ⟨hA4, ?_⟩
        (conv => whnf); refine VCall.mk (rows_c na nc next S H4 (hSo hA4) (hn.frame (hSs hA4)) (by omega) (fun row hr => Nat.le_trans (rn row hr) (by decide))) ?_
        rintro v5 H5 ⟨ha5, hs5, mb, vs, rfl, hmb, tab⟩
        have hA5 := hA4.trans (ha5.mono fun k hk => old_lt hA4 hk)
        refine ⟨hA5, ?_⟩
        (conv => whnf); refine ends_c (hb4.agr ha5 hb4.lt) (S := S) (fun k hk => ⟨hSo hA5 k hk, by have := hSo (Agr.refl _ _) k hk; omega⟩) (hf.frame (hSs hA5)) (by omega) ?_
        intro v6 H6 own3 ha6 hs6
        have hA6 : Agr (Old H3) H3 H6 := hA5.trans (ha6.mono fun k hk => ⟨old_lt hA5 hk, by unfold Old at hk; omega⟩)
        refine ⟨hA6, ?_⟩
        (conv => whnf); refine fin hA6 (hown.agr hA6 (fun b hb => (hown.lt hb).2) (fun _ h => h.elim)) (tab.agr ha6 ⟨tab.blk.lt, by omega⟩ (fun b h1 h2 => ⟨h2, by omega⟩) (fun _ h => h.elim)) own3 fun v7 H7 g1 g2 g3 g4 => ⟨g3, ?_⟩
        (conv => whnf); exact ⟨g1, g2, g4⟩

end Go.Proofs.Ytkgmhkcncemmkaa
