/- louperef08.Paths, Count; words.Count. -/
import Derived.Test.YtkgmhkcncemmkaaPWrd5
set_option linter.unusedVariables false
set_option linter.unusedSimpArgs false
set_option maxRecDepth 100000
namespace Go.Proofs.Ytkgmhkcncemmkaa
open Go.VC
attribute [local irreducible] mRun gRun atRun

set_option maxHeartbeats 8000000 in
theorem paths_c {S : Nat → Prop} {H : Heap} {v : Value} {o : Option AM} {D : DM} (n : Nat) (hn64 : n ≤ 64) (hS : ∀ k, S k → k < H.size) (hv : DfaV S H v D) (hB : Both o D) :
    FnOk Try.prog 44 #[v, .int .i64 (n : Int)] H fun v' H' => Agr (Old H) H H' ∧ ∃ nb, v' = .slice (some ⟨nb, 0, none⟩) (n + 1) (n + 1) ∧ SlD tRows (Old H') H' (some ⟨nb, 0, none⟩) (n + 1) (pathL o n (n + 1)) := by
  have hl := hv.len
  have hok := hB.ok
  have hn1 := hok.n1
  have hn2 := hok.n2
  have hN := hB.n
  have hst : StepIn o := fun q b h0 h1 hb => by
    have := stepD_range hok (q := q) (b := b) h0 (by omega) hb
    rw [hB.step q b hb, hN]; exact this
  refine FnOk.of_vc Try.func44 rfl (Try.call44 _) ?_
  (conv => whnf); refine dfa_box hv fun ra rc na nc fa fc he a1 a2 a3 => ?_
  subst he
  intro pa H1 hpa hs1 hb1 ha1
  have st1 := (St.nil H).box hpa hs1 hb1 ha1
  have up : ∀ {H' : Heap}, Agr (Old H) H H' → ∀ k, S k → k < H'.size := fun h k hk => old_lt h (hS k hk)
  (conv => whnf); rw [w64 (x := (n : Int) + 1) (by omega) (by omega)]
  (conv => whnf); refine vmake1 sl23 rfl (by omega) (by omega) (by omega) (by omega) ?_
  intro nb H2 hnb hs2 hb2 ha2
  rw [show ((n : Int) + 1).toNat = n + 1 by omega] at hb2
  rw [show ((n : Int) + 1).toNat = n + 1 by omega]
  have st2 := st1.tabNew tI 3 hnb hs2 hb2 ha2
  rw [pathL_zero o n] at st2
  (conv => whnf)
  refine VLoop.mk [6] (fun k : Nat => [.int .i64 k]) (fun k H3 => k ≤ n + 1 ∧ ∃ vs, St H H3 [pB 38 pa (dfaL D.cell (.slice ra D.reps.length rc) (.slice na D.next.length nc) (.slice fa D.final.length fc)), pT tI 3 36 nb vs (pathL o n k)]) (fun k _ => n + 1 - k) ?_ ?_
  · (conv => whnf)
    exact ⟨0, rfl, by omega, _, st2⟩
  · rintro k H3 junk ⟨hk, vs, st3⟩
    have hb3 := st3.blk 0 rfl
    (conv => whnf); refine VIte.mk (fun h => ?_) (fun h => ?_) <;> simp only [decide_eq_true_eq, decide_eq_false_iff_not] at h
    · have hkn : k < n + 1 := by omega
      have pl := pathL_len o n k
      have rl := pathR_len o k
      (conv => whnf); refine VC.fa fl38_2 ?_
      (conv => whnf); refine ld1 ct23 (by rw [hb3.cell, Nat.zero_add]; exact dfaL_257 hl) trivial ?_
      (conv => whnf); refine vmake1 sl36 rfl (by omega) (by omega) (by omega) (by omega) ?_
      intro rb H4 hrb hs4 hb4 ha4
      rw [Int.toNat_natCast] at hb4
      rw [Int.toNat_natCast]
      have h34 : Agr (Old H3) H3 H4 := ha4.mono fun k hk => by unfold Old at hk; omega
      have hown : SlO tI none_ H4 H3.size 3 (.slice (some ⟨rb, 0, none⟩) D.next.length D.next.length) (List.replicate D.next.length 0) :=
        SlO.made (T := tI) (v := (0 : Int)) (c := [.int .i64 0]) (by omega) (by simpa using hb4) ⟨rfl, inI64 (x := 0) (by decide)⟩ (by unfold maxLen; omega)
      have mid := Mid.fresh (i := 1) (t := k) st3 rfl (by rw [pl]; exact hkn) h34 hown
      (conv => whnf); refine ix sl23 (by omega) (by omega) ?_
      (conv => whnf); refine stT mid ct36 (by rw [Nat.zero_add, Nat.mul_one, Int.toNat_natCast]) fun H5 st5 => ?_
      have hvl : k < vs.length := by rw [(st3.tab 1 rfl).len, pl]; exact hkn
      have hvk : (vs.set k (.slice (some ⟨rb, 0, none⟩) D.next.length D.next.length))[k]? = some (.slice (some ⟨rb, 0, none⟩) D.next.length D.next.length) := List.getElem?_set_self hvl
      generalize vs.set k (.slice (some ⟨rb, 0, none⟩) D.next.length D.next.length) = ws at *
      have hprev : ∀ m, m < k → (pathL o n k)[m]? = some (pathR o m) := fun m hm => by rw [pathL_get o n k (by omega), if_pos hm]
      (conv => whnf)
      refine VLoop.mk [7] (fun q : Nat => [.int .i64 q]) (fun q H6 => q ≤ stN o ∧ St H H6 [pB 38 pa (dfaL D.cell (.slice ra D.reps.length rc) (.slice na D.next.length nc) (.slice fa D.final.length fc)), pT tI 3 36 nb ws ((pathL o n k).set k ((pathR o k).take q ++ List.replicate ((pathR o k).length - q) 0))]) (fun q _ => stN o - q) ?_ ?_
      · (conv => whnf)
        refine ⟨0, rfl, by omega, ?_⟩
        rw [fill_beg, rl, hN]
        exact st5
      · rintro q H6 junk6 ⟨hq, st6⟩
        have e6 := st6.old
        have hb6 := st6.blk 0 rfl
        (conv => whnf); refine VC.fa fl38_2 ?_
        (conv => whnf); refine ld1 ct23 (by rw [hb6.cell, Nat.zero_add]; exact dfaL_257 hl) trivial ?_
        (conv => whnf); refine VIte.mk (fun h => ?_) (fun h => ?_) <;> simp only [decide_eq_true_eq, decide_eq_false_iff_not] at h
        · have hqn : q < stN o := by omega
          have hget := pathR_get o k hqn
          have hrow : ((pathL o n k).set k ((pathR o k).take q ++ List.replicate ((pathR o k).length - q) 0))[k]? = some ((pathR o k).take q ++ List.replicate ((pathR o k).length - q) 0) := List.getElem?_set_self (by rw [pl]; exact hkn)
          have hfl : ((pathR o k).take q ++ List.replicate ((pathR o k).length - q) (0 : Int)).length = stN o := by rw [fill_len (by omega)]; exact rl
          (conv => whnf); refine VSeq.run ?_
          by_cases hk0 : k = 0
          · subst hk0
            have hf0 : wN o 0 (q : Int) = if finM o (q : Int) then 1 else 0 := rfl
            have g0 := fin_at hok (q := (q : Int)) (by omega) (by omega)
            rw [← hB.fin, Int.toNat_natCast] at g0
            (conv => whnf); refine VSeq.run ?_
            (conv => whnf); refine VC.fa fl38_3 ?_
            (conv => whnf); refine ld1 ct24 (by rw [hb6.cell, Nat.zero_add]; exact dfaL_258 hl) trivial ?_
            (conv => whnf); refine ixr (i := q) sl24 (a3.frame (e6.mono hS)) g0 rfl ?_
            rintro b7 o7 c7 _ hc7 rfl
            (conv => whnf); refine ld1 ct4 hc7.one trivial ?_
            cases hf : finM o (q : Int) with
            | true =>
              have hget : (pathR o 0)[q]? = some 1 := by rw [hget, hf0, hf]; rfl
              (conv => whnf); refine ix sl23 (by omega) (by omega) ?_
              (conv => whnf); refine ld1 ct36 (st6.tcell 1 rfl hvk rfl) trivial ?_
              (conv => whnf); refine ix sl36 (by omega) (by omega) ?_
              (conv => whnf); refine stE (y := 1) st6 1 ct3 rfl hvk hrow rfl (by rw [Nat.zero_add, Nat.mul_one, Int.toNat_natCast]) (by rw [hfl]; exact hqn) rfl (fun _ => ⟨rfl, inI64 (x := 1) (by decide)⟩) fun H8 st8 => ?_
              rw [List.set_set, fill_set hget] at st8
              (conv => whnf); rw [w64 (x := (q : Int) + 1) (by omega) (by omega)]
              exact ⟨rfl, q + 1, by simp, ⟨by omega, st8⟩, by omega⟩
            | false =>
              have hget : (pathR o 0)[q]? = some 0 := by rw [hget, hf0, hf]; rfl
              have e := fill_set (z := (0 : Int)) hget
              rw [set_same (fill_get (l := pathR o 0) (z := (0 : Int)) (show q < (pathR o 0).length by omega))] at e
              rw [e] at st6
              (conv => whnf); rw [w64 (x := (q : Int) + 1) (by omega) (by omega)]
              exact ⟨rfl, q + 1, by simp, ⟨by omega, st6⟩, by omega⟩
          · obtain ⟨m, rfl⟩ : ∃ m, k = m + 1 := ⟨k - 1, by omega⟩
            have hpm : ∀ x, ((pathL o n (m + 1)).set (m + 1) x)[m]? = some (pathR o m) := fun x => by rw [List.getElem?_set_ne (by omega)]; exact hprev m (by omega)
            have pm := pathR_len o m
            (conv => whnf)
            refine VLoop.mk [8] (fun b : Nat => [.int .i64 b]) (fun b H7 => b ≤ 256 ∧ St H H7 [pB 38 pa (dfaL D.cell (.slice ra D.reps.length rc) (.slice na D.next.length nc) (.slice fa D.final.length fc)), pT tI 3 36 nb ws ((pathL o n (m + 1)).set (m + 1) (((pathR o (m + 1)).take q ++ List.replicate ((pathR o (m + 1)).length - q) 0).set q (capI ((List.range b).map fun b => wN o m (stepM o (q : Int) b)).sum)))]) (fun b _ => 256 - b) ?_ ?_
            · (conv => whnf)
              refine ⟨0, rfl, by omega, ?_⟩
              have : capI ((List.range 0).map fun b => wN o m (stepM o (q : Int) b)).sum = 0 := rfl
              rw [this, set_same (fill_get (l := pathR o (m + 1)) (z := (0 : Int)) (by omega))]
              exact st6
            · rintro b H7 junk7 ⟨hb, st7⟩
              have e7 := st7.old
              have hb7 := st7.blk 0 rfl
              (conv => whnf); refine VIte.mk (fun h => ?_) (fun h => ?_) <;> simp only [decide_eq_true_eq, decide_eq_false_iff_not] at h
              · have hb8 : b < 256 := by omega
                have hsum : ((List.range (b + 1)).map fun b => wN o m (stepM o (q : Int) b)).sum = ((List.range b).map fun b => wN o m (stepM o (q : Int) b)).sum + wN o m (stepM o (q : Int) b) := by
                  rw [List.range_succ, List.map_append, List.sum_append]; simp
                generalize ((List.range b).map fun b => wN o m (stepM o (q : Int) b)).sum = acc at *
                have hrow7 : ((pathL o n (m + 1)).set (m + 1) (((pathR o (m + 1)).take q ++ List.replicate ((pathR o (m + 1)).length - q) 0).set q (capI acc)))[m + 1]? = some (((pathR o (m + 1)).take q ++ List.replicate ((pathR o (m + 1)).length - q) 0).set q (capI acc)) := List.getElem?_set_self (by rw [pl]; exact hkn)
                have hacc : (((pathR o (m + 1)).take q ++ List.replicate ((pathR o (m + 1)).length - q) 0).set q (capI acc))[q]? = some (capI acc) := List.getElem?_set_self (by omega)
                obtain ⟨ya, yc, hyv, hyd⟩ := st7.row 1 rfl hrow7
                rw [hvk] at hyv
                obtain ⟨za, zc, hzv, hzd⟩ := st7.row 1 rfl (hpm _)
                injection hyv with hyv
                injection hyv with g1 g2 g3
                subst g1; subst g3
                (conv => whnf); refine VDraw.held (Old H7) 26 (sq [0,1,2,3,4,5,6,7,8,9,10,11,12,13,14,15,16,17,18,19,20] (.f 21 (sq [22,23] (.f 24 (sq [25] (.f 26 .e)))))) rfl (by kernel_rfl) ?_
                (conv => whnf); refine ix sl23 (by omega) (by omega) ?_
                (conv => whnf); refine ld1 ct36 (st7.tcell 1 rfl hvk (by rw [Nat.zero_add, Nat.mul_one, Int.toNat_natCast])) (st7.in_ 1 rfl (.inl rfl)).2 ?_
                (conv => whnf); refine ix sl23 (by omega) (by omega) ?_
                (conv => whnf); refine ld1 ct36 (st7.tcell 1 rfl hvk (by rw [Nat.zero_add, Nat.mul_one, Int.toNat_natCast])) (st7.in_ 1 rfl (.inl rfl)).2 ?_
                (conv => whnf); refine ixrn (i := q) sl36 hyd g2 hacc rfl ?_
                rintro b9 o9 c9 hO9 hc9 ⟨rfl, -⟩
                (conv => whnf); refine ld1 ct3 hc9.one hO9 ?_
                (conv => whnf); rw [w64 (x := ((m + 1 : Nat) : Int) - 1) (by omega) (by omega)]
                (conv => whnf); refine ix sl23 (by omega) (by omega) ?_
                (conv => whnf); refine ld1 ct36 (st7.tcell 1 rfl hzv (by rw [Nat.zero_add, Nat.mul_one]; omega)) (st7.in_ 1 rfl (.inl rfl)).2 ?_
                (conv => whnf); refine dfa_load hb7 hl hb7.lt (a1.frame (e7.mono hS)) (a2.frame (e7.mono hS)) (a3.frame (e7.mono hS)) fun v10 hv10 => ?_
                (conv => whnf); rw [w8 (x := (b : Int)) (by omega) (by omega)]
                (conv => whnf); refine pures (refstep_p (up e7) hv10 hok hb8) fun H8 ha8 => ?_
                have st8 := st7.call ha8
                refine ⟨ha8, ?_⟩
                have hsr := hst (q : Int) b (by omega) (by omega) hb8
                rw [← hB.step (q : Int) b hb8]
                obtain ⟨t, ht⟩ := Int.eq_ofNat_of_zero_le hsr.1
                rw [ht] at hsum hsr ⊢
                (conv => whnf); refine ixr (i := t) sl36 (hzd.frame ha8) (pathR_get o m (by omega)) rfl ?_
                rintro b11 o11 c11 hO11 hc11 ⟨rfl, -⟩
                (conv => whnf); refine ld1 ct3 hc11.one hO11 ?_
                (conv => whnf); refine pures (sum_p acc (wN o m (t : Int)) H8) fun H9 ha9 => ?_
                have st9 := st8.call ha9
                refine ⟨ha8.trans (ha9.mono fun k hk => old_lt ha8 hk), ?_⟩
                rw [← hsum]
                (conv => whnf); refine ix sl36 (by omega) (by omega) ?_
                (conv => whnf); refine stE (y := capI ((List.range (b + 1)).map fun b => wN o m (stepM o (q : Int) b)).sum) st9 1 ct3 rfl hvk hrow7 rfl (by rw [Nat.zero_add, Nat.mul_one, Int.toNat_natCast]) (by rw [List.length_set, hfl]; exact hqn) rfl (fun H' => capI_rep _ H') fun H10 st10 => ?_
                rw [List.set_set, List.set_set] at st10
                (conv => whnf); rw [w64 (x := (b : Int) + 1) (by omega) (by omega)]
                exact ⟨rfl, b + 1, by simp, ⟨by omega, st10⟩, by omega⟩
              · obtain rfl : b = 256 := by omega
                have e : ((List.range 256).map fun b => wN o m (stepM o (q : Int) b)).sum = wN o (m + 1) (q : Int) := rfl
                rw [e, fill_set hget] at st7
                (conv => whnf); rw [w64 (x := (q : Int) + 1) (by omega) (by omega)]
                exact ⟨rfl, q + 1, by simp, ⟨by omega, st7⟩, by omega⟩
        · obtain rfl : q = stN o := by omega
          have hfe := fill_end (l := pathR o k) (z := (0 : Int))
          rw [rl] at hfe st6
          rw [hfe, pathL_put o hkn] at st6
          (conv => whnf); rw [w64 (x := (k : Int) + 1) (by omega) (by omega)]
          exact ⟨rfl, k + 1, by simp, ⟨by omega, _, st6⟩, by omega⟩
    · obtain rfl : k = n + 1 := by omega
      have pl := pathL_len o n (n + 1)
      have k1 := st3.tview 1 rfl (by rw [pl]; unfold maxLen; omega)
      rw [pl] at k1
      (conv => whnf)
      exact ⟨st3.old, nb, rfl, k1⟩
end Go.Proofs.Ytkgmhkcncemmkaa
