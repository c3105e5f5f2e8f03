/- words.Rank, louperef08.Rank: the plain law and the walks. -/
import Derived.Test.YtkgmhkcncemmkaaPWrd14
set_option linter.unusedVariables false
set_option linter.unusedSimpArgs false
set_option maxRecDepth 100000
namespace Go.Proofs.Ytkgmhkcncemmkaa
open Go.VC
attribute [local irreducible] mRun gRun atRun

/-- The sum of the first values. -/
def sumB (f : Nat → Nat) (n : Nat) : Nat := ((List.range n).map f).sum
theorem sumB_succ (f : Nat → Nat) (n : Nat) : sumB f (n + 1) = sumB f n + f n := by
  unfold sumB
  rw [List.range_succ, List.map_append, List.sum_append]; simp
/-- The words of the length of s that come ahead of it and differ from it in its first i bytes. -/
def rk (o : Option AM) (s : ByteArray) : Nat → Nat
  | 0 => 0
  | i + 1 => rk o s i + sumB (fun b => wN o (s.size - 1 - i) (stepM o (runM o s i) b)) ((s.data[i]?).getD 0).toNat
def rankR (o : Option AM) (s : ByteArray) : Int × Int := if 64 < s.size then (0, 1) else if acceptsM o s then (if rk o s s.size < TM then (((rk o s s.size : Nat) : Int), (0 : Int)) else (0, 4)) else (0, 3)

set_option maxHeartbeats 8000000 in
theorem rankW_p {S : Nat → Prop} {H : Heap} {v : Value} {o : Option AM} {ls : List Nat} {s : ByteArray} (hs : s.size ≤ 1048576) (hS : ∀ k, S k → k < H.size) (h : AutoV S H v o) (hc : CellsOk o ls) :
    Pure Try.prog 26 #[v, .string s] H (.tuple #[.int .i64 (rankR o s).1, .int .i64 (rankR o s).2]) := by
  obtain ⟨hn1, hn2⟩ := stN_le h
  have hst := stepIn_ h
  refine FnOk.of_vc Try.func26 rfl (Try.call26 _) ?_
  by_cases h1 : 64 < s.size
  · have d1 : decide (64 < (s.size : Int)) = true := decide_eq_true (by omega)
    (conv => whnf); rw [d1]
    (conv => whnf)
    exact ⟨by unfold rankR; rw [if_pos h1], Agr.refl _ _⟩
  have d1 : decide (64 < (s.size : Int)) = false := decide_eq_false (by omega)
  (conv => whnf); rw [d1]
  (conv => whnf); refine pures (accepts_p hS h (by unfold maxLen; omega)) fun H1 ha1 => ?_
  have hR : rankR o s = if acceptsM o s then (if rk o s s.size < TM then (((rk o s s.size : Nat) : Int), (0 : Int)) else (0, 4)) else (0, 3) := by
    unfold rankR; rw [if_neg h1]
  have st1 := (St.nil H).call ha1
  cases hacc : acceptsM o s with
  | false =>
    rw [hacc] at hR
    (conv => whnf)
    exact ⟨by rw [hR]; rfl, ha1⟩
  | true =>
  rw [hacc, if_pos rfl] at hR
  have hcnt : ∀ (k q : Nat), q < stN o → cntP o k (q : Int) = min (wN o k (q : Int)) TM := fun k q hq => cnt_eq hc hst k (q : Int) (by omega) (by omega)
  (conv => whnf); refine newTally_v st1 hS (h.frame (ha1.mono hS)) fun pb F2 H2 st2 => ?_
  (conv => whnf)
  refine VLoop.mk [7, 8, 24] (fun x : Nat × Nat => match x with | (i, q) => [.int .i64 (q : Int), .int .u64 ((min (rk o s i) TM : Nat) : Int), .int .i64 (i : Int)])
    (fun x H3 => x.1 ≤ s.size ∧ x.2 < stN o ∧ runM o s x.1 = (x.2 : Int) ∧ ∃ F L, 1 ≤ L ∧ L ≤ 65 ∧ St H H3 [pTal F v o pb L]) (fun x _ => s.size - x.1) ?_ ?_
  · (conv => whnf)
    exact ⟨(0, 0), rfl, by simp, by simp only; omega, rfl, F2, 1, by omega, by omega, st2⟩
  · rintro ⟨i, q⟩ H3 junk ⟨hi, hq, hrun, F, L, hL1, hL2, st3⟩
    simp only at hi hq hrun
    (conv => whnf); refine VIte.mk (fun hz => ?_) (fun hz => ?_) <;> simp only [decide_eq_true_eq, decide_eq_false_iff_not] at hz
    · obtain ⟨c, hb⟩ := get_byte (s := s) (k := i) (by omega)
      have hc8 := UInt8.toNat_lt c
      have hrk : rk o s (i + 1) = rk o s i + sumB (fun b => wN o (s.size - 1 - i) (stepM o (q : Int) b)) c.toNat := by
        rw [rk, hb, hrun]; rfl
      generalize rk o s i = acc at *
      (conv => whnf)
      refine VLoop.mk [8, 10] (fun b : Nat => [.int .u64 ((min (acc + sumB (fun b => wN o (s.size - 1 - i) (stepM o (q : Int) b)) b) TM : Nat) : Int), .int .u8 (b : Int)])
        (fun b H4 => b ≤ c.toNat ∧ ∃ F L, 1 ≤ L ∧ L ≤ 65 ∧ St H H4 [pTal F v o pb L]) (fun b _ => c.toNat - b) ?_ ?_
      · (conv => whnf)
        exact ⟨0, rfl, by omega, F, L, hL1, hL2, st3⟩
      · rintro b H4 junk4 ⟨hbc, F, L, hL1, hL2, st4⟩
        (conv => whnf); refine vidxs strT rfl hb ?_
        (conv => whnf); refine VIte.mk (fun hz2 => ?_) (fun hz2 => ?_) <;> simp only [decide_eq_true_eq, decide_eq_false_iff_not] at hz2
        · have hup : ∀ {H' : Heap} {ps : List Pc}, St H H' ps → ∀ k, S k → k < H'.size := fun st k hk => st.up (hS k hk)
          have hsum := sumB_succ (fun b => wN o (s.size - 1 - i) (stepM o (q : Int) b)) b
          generalize sumB (fun b => wN o (s.size - 1 - i) (stepM o (q : Int) b)) b = sm at *
          (conv => whnf); refine pures (step_p (hup st4) (h.frame (st4.old.mono hS)) (show b < 256 by omega)) fun H5 ha5 => ?_
          have st5 := st4.call ha5
          have hr := hst (q : Int) b (by omega) (by omega) (by omega)
          obtain ⟨t, ht⟩ := Int.eq_ofNat_of_zero_le hr.1
          rw [ht] at hr hsum ⊢
          (conv => whnf); rw [w64 (x := (s.size : Int) - 1) (by omega) (by omega)]
          (conv => whnf); rw [w64 (x := (s.size : Int) - 1 - (i : Int)) (by omega) (by omega)]
          (conv => whnf); refine from_v (q := t) (n := s.size - 1 - i) st5 0 rfl hS (h.frame (st5.old.mono hS)) hL1 hL2 rfl (by omega) (by omega) (by omega) fun F6 H6 st6 => ?_
          rw [hcnt _ t (by omega)]
          (conv => whnf); refine pures (add_p (min (acc + sm) TM) (min (wN o (s.size - 1 - i) (t : Int)) TM) (Nat.min_le_right _ _) (Nat.min_le_right _ _) H6) fun H7 ha7 => ?_
          have st7 := st6.call ha7
          have e : min (min (acc + sm) TM + min (wN o (s.size - 1 - i) (t : Int)) TM) TM = min (acc + (sm + wN o (s.size - 1 - i) (t : Int))) TM := by unfold TM; omega
          rw [e, ← hsum]
          (conv => whnf); rw [w8 (x := (b : Int) + 1) (by omega) (by omega)]
          exact ⟨rfl, b + 1, by simp, ⟨by omega, F6, max L (s.size - 1 - i + 1), by omega, by omega, st7⟩, by omega⟩
        · obtain rfl : b = c.toNat := by omega
          rw [← hrk]
          (conv => whnf); refine vidxs strT rfl hb ?_
          have hup : ∀ {H' : Heap} {ps : List Pc}, St H H' ps → ∀ k, S k → k < H'.size := fun st k hk => st.up (hS k hk)
          (conv => whnf); refine pures (step_p (hup st4) (h.frame (st4.old.mono hS)) hc8) fun H5 ha5 => ?_
          have st5 := st4.call ha5
          have hr := hst (q : Int) c.toNat (by omega) (by omega) (by omega)
          obtain ⟨t, ht⟩ := Int.eq_ofNat_of_zero_le hr.1
          have hrun' : runM o s (i + 1) = (t : Int) := by rw [runM_succ hb, hrun, ht]
          rw [ht] at hr ⊢
          (conv => whnf); rw [w64 (x := (i : Int) + 1) (by omega) (by omega)]
          exact ⟨rfl, (i + 1, t), by simp, ⟨by simp only; omega, by simp only; omega, hrun', F, L, hL1, hL2, st5⟩, by simp only; omega⟩
    · obtain rfl : i = s.size := by omega
      by_cases h5 : rk o s s.size < TM
      · rw [hR, if_pos h5, Nat.min_eq_left (by omega)]
        generalize rk o s s.size = r at *
        have d2 : decide ((9223372036854775808 : Int) ≤ ((r : Nat) : Int)) = false := decide_eq_false (by unfold TM at h5; omega)
        (conv => whnf); rw [d2]
        (conv => whnf); rw [wi_nat (n := r) (by unfold TM at h5; omega)]
        (conv => whnf)
        exact ⟨rfl, st3.old⟩
      · rw [hR, if_neg h5, Nat.min_eq_right (by omega)]
        (conv => whnf)
        exact ⟨rfl, st3.old⟩
end Go.Proofs.Ytkgmhkcncemmkaa
