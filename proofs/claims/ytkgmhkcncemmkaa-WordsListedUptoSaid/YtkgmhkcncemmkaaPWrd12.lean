/- words.Nth: the walk. -/
import Derived.Test.YtkgmhkcncemmkaaPWrd11
set_option linter.unusedVariables false
set_option linter.unusedSimpArgs false
set_option maxRecDepth 100000
namespace Go.Proofs.Ytkgmhkcncemmkaa
open Go.VC
attribute [local irreducible] mRun gRun atRun

theorem wu_nat {n : Nat} (h : n < 18446744073709551616) : IntKind.wrap .u64 (n : Int) = (n : Int) := by rw [wu_mod, Nat.mod_eq_of_lt h]
theorem wu_sub {x y : Nat} (h : y ≤ x) (hx : x < 18446744073709551616) : IntKind.wrap .u64 ((x : Int) - (y : Int)) = ((x - y : Nat) : Int) := by
  rw [← Int.natCast_sub h]; exact wu_nat (by omega)
abbrev tB8 : Ty Int := tInt .u8
theorem inU8 {b : Nat} (h : b < 256) : inK .u8 (b : Int) := ⟨by simp [IntKind.min, IntKind.signed], by simp [IntKind.max, IntKind.signed, IntKind.bits]; omega⟩
theorem stepIn_ {S : Nat → Prop} {H : Heap} {v : Value} {o : Option AM} (h : AutoV S H v o) : StepIn o := fun q b h0 h1 hb => by
  have := stN_le h
  obtain ⟨n, rfl⟩ := Int.eq_ofNat_of_zero_le h0
  exact step_rng h (by omega) hb

set_option maxHeartbeats 8000000 in
theorem nthW_p {S : Nat → Prop} {H : Heap} {v : Value} {o : Option AM} {ls : List Nat} (n i : Int) (hi63 : i ≤ 9223372036854775807) (hS : ∀ k, S k → k < H.size) (h : AutoV S H v o) (hc : CellsOk o ls) :
    Pure Try.prog 24 #[v, .int .i64 n, .int .i64 i] H (.tuple #[.string (nthR o n i).1, .int .i64 (nthR o n i).2]) := by
  obtain ⟨hn1, hn2⟩ := stN_le h
  have hst := stepIn_ h
  refine FnOk.of_vc Try.func24 rfl (Try.call24 _) ?_
  by_cases h1 : n < 0
  · have d1 : decide (n < 0) = true := decide_eq_true h1
    (conv => whnf); rw [d1]
    (conv => whnf)
    exact ⟨by unfold nthR; rw [if_pos (.inl h1)], Agr.refl _ _⟩
  have d1 : decide (n < 0) = false := decide_eq_false h1
  (conv => whnf); rw [d1]
  by_cases h2 : 64 < n
  · have d2 : decide (64 < n) = true := decide_eq_true h2
    (conv => whnf); rw [d2]
    (conv => whnf)
    exact ⟨by unfold nthR; rw [if_pos (.inr (.inl h2))], Agr.refl _ _⟩
  have d2 : decide (64 < n) = false := decide_eq_false h2
  (conv => whnf); rw [d2]
  by_cases h3 : i < 0
  · have d3 : decide (i < 0) = true := decide_eq_true h3
    (conv => whnf); rw [d3]
    (conv => whnf)
    exact ⟨by unfold nthR; rw [if_pos (.inr (.inr h3))], Agr.refl _ _⟩
  have d3 : decide (i < 0) = false := decide_eq_false h3
  (conv => whnf); rw [d3]
  obtain ⟨m, rfl⟩ := Int.eq_ofNat_of_zero_le (Int.not_lt.1 h1)
  obtain ⟨i0, rfl⟩ := Int.eq_ofNat_of_zero_le (Int.not_lt.1 h3)
  have hR : nthR o (m : Int) (i0 : Int) = if wN o m 0 ≤ i0 then (⟨#[]⟩, 3) else (⟨((nthL o m 0 i0).map UInt8.ofNat).toArray⟩, 0) := by
    unfold nthR
    rw [if_neg (by omega), Int.toNat_natCast, Int.toNat_natCast]
  have hcnt : ∀ (k q : Nat), q < stN o → cntP o k (q : Int) = min (wN o k (q : Int)) TM := fun k q hq => cnt_eq hc hst k (q : Int) (by omega) (by omega)
  (conv => whnf); refine newTally_v (St.nil H) hS h fun pb F1 H1 st1 => ?_
  (conv => whnf); rw [wu_nat (n := i0) (by omega)]
  (conv => whnf); refine from_v (q := 0) (n := m) st1 0 rfl hS (h.frame (st1.old.mono hS)) (by omega) (by omega) rfl rfl (by omega) (by omega) fun F2 H2 st2 => ?_
  rw [hcnt m 0 (by omega)]
  have hq0 : wN o m ((0 : Nat) : Int) = wN o m 0 := rfl
  rw [hq0]
  by_cases h4 : wN o m 0 ≤ i0
  · have d4 : decide (((min (wN o m 0) TM : Nat) : Int) ≤ (i0 : Int)) = true := decide_eq_true (by unfold TM; omega)
    (conv => whnf); rw [d4]
    (conv => whnf)
    exact ⟨by rw [hR, if_pos h4], st2.old⟩
  have d4 : decide (((min (wN o m 0) TM : Nat) : Int) ≤ (i0 : Int)) = false := decide_eq_false (by unfold TM; omega)
  have hRn := hR.trans (if_neg h4)
  rw [hRn]
  (conv => whnf); rw [d4]
  (conv => whnf); rw [w64 (x := (m : Int) - 1) (by omega) (by omega)]
  (conv => whnf)
  refine VLoop.mk [9, 10, 11, 12] (fun x : Nat × Nat × Nat × List Nat × Option Addr × Nat => match x with | (k, q, i, bs, a, c) => [.int .u64 (i : Int), .int .i64 (q : Int), .slice a bs.length c, .int .i64 ((k : Int) - 1)])
    (fun x H3 => x.1 ≤ m ∧ x.2.1 < stN o ∧ x.2.2.1 ≤ i0 ∧ x.2.2.1 < wN o x.1 (x.2.1 : Int) ∧ x.2.2.2.1.length + x.1 = m ∧ x.2.2.2.1 ++ nthL o x.1 (x.2.1 : Int) x.2.2.1 = nthL o m 0 i0 ∧
      ∃ F L, 1 ≤ L ∧ L ≤ 65 ∧ St H H3 [pTal F v o pb L, pS tB8 5 x.2.2.2.2.1 x.2.2.2.1.length x.2.2.2.2.2 (x.2.2.2.1.map fun (b : Nat) => (b : Int))]) (fun x _ => x.1) ?_ ?_
  · (conv => whnf)
    exact ⟨(m, 0, i0, [], none, 0), rfl, Nat.le_refl _, by simp only; omega, Nat.le_refl _, by simp only; exact Nat.not_le.1 h4, by simp, rfl, F2, max 1 (m + 1), by omega, by omega, StB.nils st2 tB8 5⟩
  · rintro ⟨k, q, i, bs, a, c⟩ H3 junk ⟨hk, hq, hi, hiw, hbl, hnl, F, L, hL1, hL2, st3⟩
    simp only at hk hq hi hiw hbl hnl st3
    (conv => whnf); refine VIte.mk (fun hz => ?_) (fun hz => ?_) <;> simp only [decide_eq_true_eq, decide_eq_false_iff_not] at hz
    · obtain ⟨k, rfl⟩ : ∃ k', k = k' + 1 := ⟨k - 1, by omega⟩
      rw [show ((k + 1 : Nat) : Int) - 1 = (k : Int) by omega]
      (conv => whnf)
      refine VLoop.mk [9, 10, 11, 13] (fun x : Nat × Nat => match x with | (b, i') => [.int .u64 (i' : Int), .int .i64 (q : Int), .slice a bs.length c, .int .i64 (b : Int)])
        (fun x H4 => x.1 ≤ 255 ∧ x.2 ≤ i ∧ pickG o k (q : Int) (255 - x.1) x.2 = pickG o k (q : Int) 255 i ∧ x.2 < tailS o k (q : Int) (255 - x.1) ∧
          ∃ F L, 1 ≤ L ∧ L ≤ 65 ∧ St H H4 [pTal F v o pb L, pS tB8 5 a bs.length c (bs.map fun (b : Nat) => (b : Int))]) (fun x _ => 255 - x.1) ?_ ?_
      · (conv => whnf)
        exact ⟨(0, i), rfl, by simp, Nat.le_refl _, rfl, by simp only; rw [Nat.sub_zero, tail_all]; exact hiw, F, L, hL1, hL2, st3⟩
      · rintro ⟨b, i'⟩ H4 junk4 ⟨hb, hi', hpk, htl, F, L, hL1, hL2, st4⟩
        simp only at hb hi' hpk htl st4
        have hup : ∀ {H' : Heap} {ps : List Pc}, St H H' ps → ∀ k, S k → k < H'.size := fun st k hk => st.up (hS k hk)
        (conv => whnf); rw [w8 (x := (b : Int)) (by omega) (by omega)]
        (conv => whnf); refine pures (step_p (hup st4) (h.frame (st4.old.mono hS)) (show b < 256 by omega)) fun H5 ha5 => ?_
        have st5 := st4.call ha5
        have hr := hst (q : Int) b (by omega) (by omega) (by omega)
        obtain ⟨t, ht⟩ := Int.eq_ofNat_of_zero_le hr.1
        rw [ht] at hr ⊢
        (conv => whnf); refine from_v (q := t) (n := k) st5 0 rfl hS (h.frame (st5.old.mono hS)) hL1 hL2 rfl rfl (by omega) (by omega) fun F6 H6 st6 => ?_
        rw [hcnt k t (by omega)]
        have hset : ∀ X, ([pTal F v o pb L, X] : List Pc).set 0 (pTal F6 v o pb (max L (k + 1))) = [pTal F6 v o pb (max L (k + 1)), X] := fun _ => rfl
        rw [hset] at st6
        have htm : (i' : Int) < ((min (wN o k (t : Int)) TM : Nat) : Int) ↔ i' < wN o k (t : Int) := by unfold TM; omega
        have hbm : b = 255 - (255 - b) := by omega
        by_cases hlt : i' < wN o k (t : Int)
        · have d5 : decide ((i' : Int) < ((min (wN o k (t : Int)) TM : Nat) : Int)) = true := decide_eq_true (htm.2 hlt)
          have hpick : pickG o k (q : Int) 255 i = (b, i') := by
            rw [← hpk]
            cases hm : 255 - b with
            | zero => unfold pickG; rw [show b = 255 by omega]
            | succ m' =>
              unfold pickG
              rw [show 255 - (m' + 1) = b by omega, ht, if_pos hlt]
          (conv => whnf); rw [d5]
          (conv => whnf); rw [w8 (x := (b : Int)) (by omega) (by omega)]
          (conv => whnf); refine vbuild1 sl48 [.int .u8 (b : Int)] rfl rfl (by decide) (by decide) ?_
          intro q7 H7 hq7 hs7 hb7 ha7
          have st7 := st6.skip hq7 ha7
          have hlen : bs.length = (bs.map fun (b : Nat) => (b : Int)).length := by simp
          (conv => whnf); refine app1 st7 1 sl48 rfl hb7 ⟨rfl, inU8 (by omega)⟩ rfl (by simp; omega) (by decide) fun a' c' H8 st8 _ => ?_
          rw [List.length_map] at st8 ⊢
          (conv => whnf); rw [w64 (x := (k : Int) - 1) (by omega) (by omega)]
          have hnl' : bs ++ (b :: nthL o k (t : Int) i') = nthL o m 0 i0 := by
            rw [← hnl, nthL, hpick]
            simp only [ht]
          refine ⟨rfl, (k, t, i', bs ++ [b], a', c'), by simp, ⟨by simp only; omega, by simp only; omega, by simp only; omega, hlt, by simp; omega, by simp only; rw [← hnl']; simp, F6, max L (k + 1), by omega, by omega, ?_⟩, by simp⟩
          simp only [List.length_append, List.length_singleton, List.map_append, List.map_cons, List.map_nil]
          exact st8
        · have d5 : decide ((i' : Int) < ((min (wN o k (t : Int)) TM : Nat) : Int)) = false := decide_eq_false fun hh => hlt (htm.1 hh)
          have hb5 : b ≠ 255 := by
            rintro rfl
            have : tailS o k (q : Int) (255 - 255) = wN o k (t : Int) := by rw [← ht]; rfl
            omega
          obtain ⟨m', hm⟩ : ∃ m', 255 - b = m' + 1 := ⟨254 - b, by omega⟩
          have e1 : pickG o k (q : Int) (255 - b) i' = pickG o k (q : Int) m' (i' - wN o k (t : Int)) := by
            rw [hm]
            show (if _ then _ else _) = _
            rw [show 255 - (m' + 1) = b by omega, ht, if_neg hlt]
          have e2 : tailS o k (q : Int) (255 - b) = wN o k (t : Int) + tailS o k (q : Int) m' := by
            rw [hm, tailS, show 255 - (m' + 1) = b by omega, ht]
          have e3 : min (wN o k (t : Int)) TM = wN o k (t : Int) := by unfold TM; omega
          (conv => whnf); rw [d5]
          rw [e3]
          (conv => whnf); rw [wu_sub (x := i') (y := wN o k (t : Int)) (by omega) (by omega)]
          (conv => whnf); rw [w64 (x := (b : Int) + 1) (by omega) (by omega)]
          refine ⟨rfl, (b + 1, i' - wN o k (t : Int)), by simp, ⟨by simp only; omega, by simp only; omega, ?_, ?_, F6, max L (k + 1), by omega, by omega, st6⟩, by simp only; omega⟩
          · simp only
            rw [show 255 - (b + 1) = m' by omega, ← e1, hpk]
          · simp only
            rw [show 255 - (b + 1) = m' by omega]
            omega
    · obtain rfl : k = 0 := by omega
      have hbs : bs = nthL o m 0 i0 := by rw [← hnl, nthL, List.append_nil]
      (conv => whnf); refine vstrO bs st3 1 rfl rfl rfl rfl ?_
      (conv => whnf)
      exact ⟨by rw [hbs], st3.old⟩
end Go.Proofs.Ytkgmhkcncemmkaa
