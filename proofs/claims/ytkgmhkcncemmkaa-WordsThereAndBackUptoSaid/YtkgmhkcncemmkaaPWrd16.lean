/- louperef08.Rank: the walk; the law WordsRanks. -/
import Derived.Test.YtkgmhkcncemmkaaPWrd15
set_option linter.unusedVariables false
set_option linter.unusedSimpArgs false
set_option maxRecDepth 100000
namespace Go.Proofs.Ytkgmhkcncemmkaa
open Go.VC
attribute [local irreducible] mRun gRun atRun

set_option maxHeartbeats 8000000 in
theorem refrank_p {S : Nat → Prop} {H : Heap} {v : Value} {o : Option AM} {D : DM} {s : ByteArray} (hs : s.size ≤ 1048576) (hS : ∀ k, S k → k < H.size) (hv : DfaV S H v D) (hB : Both o D) (hst : StepIn o) (hacD : acceptsD D s = acceptsM o s) :
    Pure Try.prog 27 #[v, .string s] H (.tuple #[.int .i64 (rankR o s).1, .int .i64 (rankR o s).2]) := by
  have hl := hv.len
  have hok := hB.ok
  have hn1 := hok.n1
  have hn2 := hok.n2
  have hN := hB.n
  refine FnOk.of_vc Try.func27 rfl (Try.call27 _) ?_
  (conv => whnf); refine dfa_box hv fun ra rc na nc fa fc he a1 a2 a3 => ?_
  subst he
  intro pa H1 hpa hs1 hb1 ha1
  have st1 := (St.nil H).box hpa hs1 hb1 ha1
  by_cases h1 : 64 < s.size
  · have d1 : decide (64 < (s.size : Int)) = true := decide_eq_true (by omega)
    (conv => whnf); rw [d1]
    (conv => whnf)
    exact ⟨by unfold rankR; rw [if_pos h1], st1.old⟩
  have d1 : decide (64 < (s.size : Int)) = false := decide_eq_false (by omega)
  (conv => whnf); rw [d1]
  have hR : rankR o s = if acceptsM o s then (if rk o s s.size < TM then (((rk o s s.size : Nat) : Int), (0 : Int)) else (0, 4)) else (0, 3) := by
    unfold rankR; rw [if_neg h1]
  (conv => whnf); refine dfa_load (st1.blk 0 rfl) hl trivial (a1.frame (st1.old.mono hS)) (a2.frame (st1.old.mono hS)) (a3.frame (st1.old.mono hS)) fun v3 hv3 => ?_
  (conv => whnf); refine pures (refaccepts_p (fun k hk => old_lt st1.old (hS k hk)) hv3 hok (by unfold maxLen; omega)) fun H2 ha2 => ?_
  have st2 := st1.call ha2
  rw [hacD]
  cases hacc : acceptsM o s with
  | false =>
    rw [hacc] at hR
    (conv => whnf)
    exact ⟨by rw [hR]; rfl, st2.old⟩
  | true =>
  rw [hacc, if_pos rfl] at hR
  (conv => whnf); refine dfa_load (st2.blk 0 rfl) hl trivial (a1.frame (st2.old.mono hS)) (a2.frame (st2.old.mono hS)) (a3.frame (st2.old.mono hS)) fun v4 hv4 => ?_
  (conv => whnf); refine VCall.mk (paths_c s.size (by omega) (fun k hk => old_lt st2.old (hS k hk)) hv4 hB) ?_
  rintro _ H3 ⟨ha3, nb, rfl, hrows⟩
  have st3 := st2.call ha3
  have pl := pathL_len o s.size (s.size + 1)
  have hget : ∀ k, k ≤ s.size → (pathL o s.size (s.size + 1))[k]? = some (pathR o k) := fun k hk => by rw [pathL_get o s.size (s.size + 1) (by omega), if_pos (by omega)]
  have step : ∀ {H' : Heap}, Agr (Old H3) H3 H' → Agr (Old H) H H' := fun h => st3.old.trans (h.mono fun k hk => st3.up hk)
  have up : ∀ {H' : Heap}, Agr (Old H3) H3 H' → ∀ k, S k → k < H'.size := fun h k hk => old_lt (step h) (hS k hk)
  have hcap : ∀ x, x < TM → capI x = (x : Int) := fun x hx => by unfold capI; rw [if_pos hx]
  have hcap' : ∀ x, ¬ x < TM → capI x = -1 := fun x hx => by unfold capI; rw [if_neg hx]
  have hcap0 : capI 0 = 0 := hcap 0 (by decide)
  (conv => whnf)
  refine VLoop.mk [7, 8, 9] (fun x : Nat × Nat => match x with | (i, q) => [.int .i64 (q : Int), .int .i64 (capI (rk o s i)), .int .i64 (i : Int)])
    (fun x H4 => x.1 ≤ s.size ∧ x.2 < stN o ∧ runM o s x.1 = (x.2 : Int) ∧ St H3 H4 []) (fun x _ => s.size - x.1) ?_ ?_
  · (conv => whnf)
    exact ⟨(0, 0), by show [_, _, _] = [_, _, _]; rw [show capI (rk o s 0) = 0 from hcap0]; rfl, by simp, by simp only; omega, rfl, St.nil H3⟩
  · rintro ⟨i, q⟩ H4 junk ⟨hi, hq, hrun, st4⟩
    simp only at hi hq hrun
    (conv => whnf); refine VIte.mk (fun hz => ?_) (fun hz => ?_) <;> simp only [decide_eq_true_eq, decide_eq_false_iff_not] at hz
    · obtain ⟨c, hb⟩ := get_byte (s := s) (k := i) (by omega)
      have hc8 := UInt8.toNat_lt c
      have hrk : rk o s (i + 1) = rk o s i + sumB (fun b => wN o (s.size - 1 - i) (stepM o (q : Int) b)) c.toNat := by
        rw [rk, hb, hrun]; rfl
      generalize rk o s i = acc at *
      (conv => whnf)
      refine VLoop.mk [8, 10] (fun b : Nat => [.int .i64 (capI (acc + sumB (fun b => wN o (s.size - 1 - i) (stepM o (q : Int) b)) b)), .int .i64 (b : Int)])
        (fun b H5 => b ≤ c.toNat ∧ St H3 H5 []) (fun b _ => c.toNat - b) ?_ ?_
      · (conv => whnf)
        exact ⟨0, rfl, by omega, st4⟩
      · rintro b H5 junk5 ⟨hbc, st5⟩
        (conv => whnf); refine vidxs strT rfl hb ?_
        (conv => whnf); rw [w64 (x := (c.toNat : Int)) (by omega) (by omega)]
        (conv => whnf); refine VIte.mk (fun hz2 => ?_) (fun hz2 => ?_) <;> simp only [decide_eq_true_eq, decide_eq_false_iff_not] at hz2
        · have e5 := step st5.old
          have hb5 := (st3.blk 0 rfl).agr st5.old (st3.blk 0 rfl).lt
          have hsum := sumB_succ (fun b => wN o (s.size - 1 - i) (stepM o (q : Int) b)) b
          generalize sumB (fun b => wN o (s.size - 1 - i) (stepM o (q : Int) b)) b = sm at *
          (conv => whnf); refine VDraw.held (Old H5) 17 (sq [0,1,2,3,4,5,6,7,8,9,10,11,12] (.f 13 (sq [14,15] (.f 16 (.f 17 .e))))) rfl (by kernel_rfl) ?_
          (conv => whnf); rw [w64 (x := (s.size : Int) - 1) (by omega) (by omega)]
          (conv => whnf); rw [w64 (x := (s.size : Int) - 1 - (i : Int)) (by omega) (by omega)]
          (conv => whnf); refine ixrn (i := s.size - 1 - i) sl23 (hrows.frame st5.old) pl.symm (hget _ (by omega)) (by omega) ?_
          rintro b6 o6 c6 hS6 hc6 ⟨xa, xc, rfl, hx⟩
          (conv => whnf); refine ld1 ct36 hc6.one (old_lt st5.old hS6) ?_
          (conv => whnf); refine dfa_load hb5 hl hb5.lt (a1.frame (e5.mono hS)) (a2.frame (e5.mono hS)) (a3.frame (e5.mono hS)) fun v10 hv10 => ?_
          (conv => whnf); rw [w8 (x := (b : Int)) (by omega) (by omega)]
          (conv => whnf); refine pures (refstep_p (up st5.old) hv10 hok (show b < 256 by omega)) fun H8 ha8 => ?_
          have st8 := st5.call ha8
          refine ⟨ha8, ?_⟩
          have hsr := hst (q : Int) b (by omega) (by omega) (by omega)
          rw [← hB.step (q : Int) b (by omega)]
          obtain ⟨t, ht⟩ := Int.eq_ofNat_of_zero_le hsr.1
          rw [ht] at hsr hsum ⊢
          (conv => whnf); refine ixr (i := t) sl36 (hx.frame (ha8.mono fun k hk => old_lt st5.old hk)) (pathR_get o _ (by omega)) rfl ?_
          rintro b11 o11 c11 hO11 hc11 ⟨rfl, -⟩
          (conv => whnf); refine ld1 ct3 hc11.one (old_lt st5.old hO11) ?_
          (conv => whnf); refine pures (sum_p (acc + sm) (wN o (s.size - 1 - i) (t : Int)) H8) fun H9 ha9 => ?_
          have st9 := st8.call ha9
          refine ⟨ha8.trans (ha9.mono fun k hk => old_lt ha8 hk), ?_⟩
          rw [Nat.add_assoc, ← hsum]
          (conv => whnf); rw [w64 (x := (b : Int) + 1) (by omega) (by omega)]
          exact ⟨rfl, b + 1, by simp, ⟨by omega, st9⟩, by omega⟩
        · obtain rfl : b = c.toNat := by omega
          rw [← hrk]
          have e5 := step st5.old
          have hb5 := (st3.blk 0 rfl).agr st5.old (st3.blk 0 rfl).lt
          (conv => whnf); refine VDraw.held (Old H5) 6 (sq [0,1,2,3,4] (.f 5 (.f 6 .e))) rfl (by kernel_rfl) ?_
          (conv => whnf); refine dfa_load hb5 hl hb5.lt (a1.frame (e5.mono hS)) (a2.frame (e5.mono hS)) (a3.frame (e5.mono hS)) fun v10 hv10 => ?_
          (conv => whnf); refine vidxs strT rfl hb ?_
          (conv => whnf); refine pures (refstep_p (up st5.old) hv10 hok hc8) fun H8 ha8 => ?_
          have st8 := st5.call ha8
          refine ⟨ha8, ?_⟩
          have hsr := hst (q : Int) c.toNat (by omega) (by omega) (by omega)
          rw [← hB.step (q : Int) c.toNat (by omega)]
          obtain ⟨t, ht⟩ := Int.eq_ofNat_of_zero_le hsr.1
          have hrun' : runM o s (i + 1) = (t : Int) := by rw [runM_succ hb, hrun, ht]
          rw [ht] at hsr ⊢
          (conv => whnf); rw [w64 (x := (i : Int) + 1) (by omega) (by omega)]
          exact ⟨rfl, (i + 1, t), by simp, ⟨by simp only; omega, by simp only; omega, hrun', st8⟩, by simp only; omega⟩
    · obtain rfl : i = s.size := by omega
      by_cases h5 : rk o s s.size < TM
      · rw [hR, if_pos h5, hcap _ h5]
        generalize rk o s s.size = r at *
        have d2 : decide (((r : Nat) : Int) < 0) = false := decide_eq_false (by omega)
        (conv => whnf); try rw [d2]
        (conv => whnf)
        exact ⟨rfl, step st4.old⟩
      · rw [hR, if_neg h5, hcap' _ h5]
        (conv => whnf)
        exact ⟨rfl, step st4.old⟩

set_option maxHeartbeats 4000000 in
theorem wordsRanks_p (v : Value) (cells : List (BitVec 256)) (next : List (List Int)) (final : List Bool) (s : ByteArray) (S : Nat → Prop) (H : Heap) (ht : TabIn S H v cells next final) (hs : s.size ≤ 1048576) :
    Pure Try.prog 7 #[v, .string s] H (.bool true) := by
  refine FnOk.of_vc Try.func7 rfl (Try.call7 _) ?_
  (conv => whnf); refine tab_box ht fun l hl hv => ?_
  intro p H1 hp hs1 hb1 ha1
  have st1 := (St.nil H).box hp hs1 hb1 ha1
  (conv => whnf); refine pures (speaks08_p H1) fun H3 ha3 => ?_
  have st3 := st1.call ha3
  (conv => whnf); refine tab_load hl hv (st3.blk 0 rfl) trivial ?_
  (conv => whnf); refine VCall.mk (auto08_c v cells next final S H3 (ht.frame st3.old)) ?_
  rintro va H4 ⟨ha4, hs4, hva⟩
  have st4 := st3.call ha4
  obtain ⟨ls, hc⟩ := cells_ok cells next final
  have hoa := both_of cells next final
  have hac := both_accepts cells next final s
  generalize hoe : autoOf cells next final = oa at *
  generalize hAe : dfaOf cells next final = A at *
  have hst := stepIn_ hva
  (conv => whnf); refine pures (rankW_p (S := Old H4) hs (fun k hk => hk) (hva.mono fun k hk => hk.2) hc) fun H5 ha5 => ?_
  have st5 := st4.call ha5
  (conv => whnf); refine tab_load hl hv (st5.blk 0 rfl) trivial ?_
  (conv => whnf); refine VCall.mk (made_c v cells next final S H5 (ht.frame st5.old)) ?_
  rintro vA H6 ⟨ha6, hs6, hA⟩
  have st6 := st5.call ha6
  rw [hAe] at hA
  (conv => whnf); refine pures (refrank_p (S := Old H6) hs (fun k hk => hk) (hA.mono fun k hk => hk.2) hoa hst hac.symm) fun H7 ha7 => ?_
  have st7 := st6.call ha7
  obtain ⟨c, e, hce⟩ : ∃ c e, rankR oa s = (c, e) := ⟨_, _, rfl⟩
  rw [hce]
  have d1 : (c == c) = true := by simp
  have d2 : (e == e) = true := by simp
  (conv => whnf); rw [d1]
  (conv => whnf); rw [d2]
  (conv => whnf)
  exact ⟨rfl, st7.old⟩
end Go.Proofs.Ytkgmhkcncemmkaa
