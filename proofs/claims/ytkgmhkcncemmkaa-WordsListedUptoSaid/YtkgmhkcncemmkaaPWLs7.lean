/- The law WordsListed: its walk. -/
import Derived.Test.YtkgmhkcncemmkaaPWLs6
set_option linter.unusedVariables false
set_option linter.unusedSimpArgs false
set_option maxRecDepth 100000
namespace Go.Proofs.Ytkgmhkcncemmkaa
open Go.VC
attribute [local irreducible] mRun gRun atRun
theorem all_len_le (o : Option AM) {c d : Nat} (h : c ≤ d) : (allM o c).length ≤ (allM o d).length := by
  obtain ⟨r, hr⟩ := allM_pre o h
  rw [hr, List.length_append]; omega
theorem nthR_some {o : Option AM} {m j : Nat} (hm : m ≤ 64) (h : j < wN o m 0) : nthR o (m : Int) (j : Int) = (txt (nthL o m 0 j), 0) := by
  unfold nthR txt
  rw [if_neg (by omega), Int.toNat_natCast, Int.toNat_natCast, if_neg (by omega)]
theorem nthR_none {o : Option AM} {m j : Nat} (hm : m ≤ 64) (h : wN o m 0 ≤ j) : nthR o (m : Int) (j : Int) = (⟨#[]⟩, 3) := by
  unfold nthR
  rw [if_neg (by omega), Int.toNat_natCast, Int.toNat_natCast, if_pos h]
set_option maxHeartbeats 8000000 in
theorem wordsListed_p (v : Value) (cells : List (BitVec 256)) (next : List (List Int)) (final : List Bool) (n : Int) (S : Nat → Prop) (H : Heap) (ht : TabIn S H v cells next final) :
    Pure Try.prog 10 #[v, .int .i64 n] H (.bool true) := by
  refine FnOk.of_vc Try.func10 rfl (Try.call10 _) ?_
  (conv => whnf); refine tab_box ht fun l hl hv => ?_
  intro p H1 hp hs1 hb1 ha1
  have st1 := (St.nil H).box hp hs1 hb1 ha1
  (conv => whnf); refine pures (speaks08_p H1) fun H3 ha3 => ?_
  have st3 := st1.call ha3
  (conv => whnf); refine tab_load hl hv (st3.blk 0 rfl) trivial ?_
  (conv => whnf); refine VCall.mk (auto08_c v cells next final S H3 (ht.frame st3.old)) ?_
  rintro va H4 ⟨ha4, hs4, hva⟩
  have st4 := st3.call ha4
  have h4 := st4.old
  obtain ⟨ls, hc⟩ := cells_ok cells next final
  generalize hoe : autoOf cells next final = oa at *
  have hst := stepIn_ hva
  have hle := stN_le hva
  have hva4 : AutoV (Old H4) H4 va oa := hva.mono fun k hk => hk.2
  have lst := list_c n (S := Old H4) (fun k hk => hk) hva4 hc
  by_cases hbad : n < 0 ∨ 100 < n
  · have hR : listR oa n = ([], 2) := by unfold listR; rw [if_pos hbad]
    rw [hR] at lst
    (conv => whnf); refine VCall.mk lst ?_
    rintro _ H5 ⟨ha5, wa, wc, rfl, hw⟩
    have hend := h4.trans (ha5.mono fun k hk => old_lt h4 hk)
    by_cases h1 : n < 0
    · have d1 : decide (n < 0) = true := decide_eq_true h1
      (conv => whnf); rw [d1]
      (conv => whnf)
      exact ⟨rfl, hend⟩
    · have d1 : decide (n < 0) = false := decide_eq_false h1
      have d2 : decide (100 < n) = true := decide_eq_true (by omega)
      (conv => whnf); rw [d1]
      (conv => whnf); rw [d2]
      (conv => whnf)
      exact ⟨rfl, hend⟩
  have d1 : decide (n < 0) = false := decide_eq_false (by omega)
  have d2 : decide (100 < n) = false := decide_eq_false (by omega)
  obtain ⟨N, rfl⟩ := Int.eq_ofNat_of_zero_le (show 0 ≤ n by omega)
  have hR : listR oa (N : Int) = (((allM oa 65).take N).map txt, 0) := by unfold listR; rw [if_neg hbad, Int.toNat_natCast]
  rw [hR] at lst
  obtain ⟨L, hL⟩ : ∃ L, L = ((allM oa 65).take N).map txt := ⟨_, rfl⟩
  rw [← hL] at lst
  have hLl : L.length = min N (allM oa 65).length := by rw [hL, List.length_map, List.length_take]
  have hcov : ∀ m i, m ≤ 64 → i < wN oa m 0 → (allM oa m).length + i < N → (allM oa m).length + i < L.length ∧ L[(allM oa m).length + i]? = some (txt (nthL oa m 0 i)) := fun m i hm hi hlt => by
    have h1 := all_at oa hm hi
    refine ⟨?_, ?_⟩
    · have := (List.getElem?_eq_some_iff.1 h1).1
      omega
    · rw [hL, List.getElem?_map, List.getElem?_take, if_pos hlt, h1]; rfl
  have hnth : ∀ {H' : Heap} (m j : Nat), j ≤ 200 → Agr (Old H4) H4 H' → Pure Try.prog 24 #[va, .int .i64 (m : Int), .int .i64 (j : Int)] H' (.tuple #[.string (nthR oa (m : Int) (j : Int)).1, .int .i64 (nthR oa (m : Int) (j : Int)).2]) := fun m j hj h =>
    nthW_p (S := Old H4) (m : Int) (j : Int) (by omega) (fun k hk => old_lt h hk) (hva4.frame h) hc
  (conv => whnf); refine VCall.mk lst ?_
  rintro _ H5 ⟨ha5, wa, wc, rfl, hw⟩
  obtain ⟨wa', wc', e5, t5⟩ := (St.nil H4).got ha5 hw
  injection e5 with e51 e52 e53
  subst e51; subst e53
  (conv => whnf); rw [d1]
  (conv => whnf); rw [d2]
  have d3 : decide ((N : Int) < (L.length : Int)) = false := decide_eq_false (by omega)
  (conv => whnf); rw [d3]
  (conv => whnf)
  refine VLoop.mk [8, 9] (fun m : Nat => [.int .i64 (min N (allM oa m).length : Nat), .int .i64 (m : Int)]) (fun m H6 => m ≤ 65 ∧ St H4 H6 [pS tS 9 wa L.length wc L]) (fun m _ => 65 - m) ?_ ?_
  · (conv => whnf)
    exact ⟨0, by simp [allM], by omega, t5⟩
  · rintro m H6 junk6 ⟨hm, t6⟩
    have hlem := all_len_le oa hm
    by_cases hgo : m ≤ 64 ∧ (allM oa m).length < N
    · obtain ⟨hm64, hlt⟩ := hgo
      have hal := all_len oa m
      have hmin : min N (allM oa m).length = (allM oa m).length := by omega
      have d4 : decide ((m : Int) ≤ 64) = true := decide_eq_true (by omega)
      have d5 : decide (((allM oa m).length : Int) < (N : Int)) = true := decide_eq_true (by omega)
      obtain ⟨b0, hb0⟩ : ∃ b0, b0 = (allM oa m).length := ⟨_, rfl⟩
      obtain ⟨b1, hb1⟩ : ∃ b1, b1 = (allM oa (m + 1)).length := ⟨_, rfl⟩
      have hcov' : ∀ i, i < wN oa m 0 → b0 + i < N → b0 + i < L.length ∧ L[b0 + i]? = some (txt (nthL oa m 0 i)) := by rw [hb0]; exact fun i h1 h2 => hcov m i hm64 h1 h2
      have hn1 : ∀ j, j < wN oa m 0 → nthR oa (m : Int) (j : Int) = (txt (nthL oa m 0 j), 0) := fun j h => nthR_some hm64 h
      have hn2 : ∀ j, wN oa m 0 ≤ j → nthR oa (m : Int) (j : Int) = (⟨#[]⟩, 3) := fun j h => nthR_none hm64 h
      rw [hmin]
      have hb1' : min N (allM oa (m + 1)).length = min N b1 := by rw [hb1]
      rw [← hb0] at d5 hal hlt hmin ⊢
      rw [← hb1] at hal
      generalize wN oa m 0 = W at *
      (conv => whnf); rw [d4]
      (conv => whnf); rw [d5]
      (conv => whnf)
      have fin : ∀ {H' : Heap} (at_ : Nat), at_ = min N b1 → St H4 H' [pS tS 9 wa L.length wc L] → ∃ y : Nat, [Value.int .i64 (at_ : Int), .int .i64 ((m : Int) + 1)] = [Value.int .i64 (min N (allM oa y).length : Nat), .int .i64 (y : Int)] ∧ (y ≤ 65 ∧ St H4 H' [pS tS 9 wa L.length wc L]) ∧ 65 - y < 65 - m := fun at_ h t =>
        ⟨m + 1, by rw [hb1', h]; simp, ⟨by omega, t⟩, by omega⟩
      refine VSeq.run ?_
      (conv => whnf)
      refine VLoop.mk [8, 10] (fun i : Nat => [.int .i64 (b0 + i : Nat), .int .i64 (i : Int)]) (fun i H7 => i ≤ W ∧ b0 + i ≤ N ∧ St H4 H7 [pS tS 9 wa L.length wc L]) (fun i _ => N - i) ?_ ?_
      · (conv => whnf)
        exact ⟨0, by simp, by omega, by omega, t6⟩
      · rintro i H7 junk7 ⟨hi, hiN, t7⟩
        (conv => whnf); refine VIte.mk (fun hz => ?_) (fun hz => ?_) <;> simp only [decide_eq_true_eq, decide_eq_false_iff_not] at hz
        · (conv => whnf); refine pures (hnth m i (by omega) t7.old) fun H8 ha8 => ?_
          have t8 := t7.call ha8
          by_cases hiW : i < W
          · rw [hn1 i hiW]
            obtain ⟨hlL, hgL⟩ := hcov' i hiW (by omega)
            have d6 : decide ((L.length : Int) ≤ ((b0 + i : Nat) : Int)) = false := decide_eq_false (by omega)
            (conv => whnf); rw [d6]
            (conv => whnf); refine ixO (j := b0 + i) sl57 t8 0 rfl hgL rfl fun b9 o9 c9 hO9 hc9 hr9 => ?_
            obtain ⟨rfl, -⟩ := hr9
            (conv => whnf); refine ld1 ct9 hc9.one trivial ?_
            have d7 : (!((txt (nthL oa m 0 i)).toList == (txt (nthL oa m 0 i)).toList)) = false := by simp
            (conv => whnf); rw [d7]
            (conv => whnf); rw [w64 (x := ((b0 + i : Nat) : Int) + 1) (by omega) (by omega)]
            (conv => whnf); rw [w64 (x := (i : Int) + 1) (by omega) (by omega)]
            exact ⟨rfl, i + 1, by simp [Int.add_assoc], ⟨by omega, by omega, t8⟩, by omega⟩
          · rw [hn2 i (by omega)]
            (conv => whnf); rw [w64 (x := (m : Int) + 1) (by omega) (by omega)]
            exact ⟨rfl, fin _ (by omega) t8⟩
        · (conv => whnf); rw [w64 (x := (m : Int) + 1) (by omega) (by omega)]
          exact ⟨rfl, fin _ (by omega) t7⟩
    · have hat : min N (allM oa m).length = L.length := by
        by_cases h65 : m = 65
        · subst h65; omega
        · omega
      rw [hat]
      by_cases hm64 : m ≤ 64
      case' pos =>
        have d4 : decide ((m : Int) ≤ 64) = true := decide_eq_true (by omega)
        have d5 : decide ((L.length : Int) < (N : Int)) = false := decide_eq_false (by omega)
        (conv => whnf); rw [d4]
        (conv => whnf); rw [d5]
      case' neg =>
        have d4 : decide ((m : Int) ≤ 64) = false := decide_eq_false (by omega)
        (conv => whnf); rw [d4]
      all_goals
        (conv => whnf); refine pures (least_p (S := Old H4) (fun k hk => old_lt t6.old hk) (hva4.frame t6.old) hc) fun H7 ha7 => ?_
        have t7 := t6.call ha7
        have hend := h4.trans (t7.old.mono fun k hk => old_lt h4 hk)
        have d7 : ((L.length : Int) == (L.length : Int)) = true := by simp
        by_cases hL0 : L.length = 0
        · have d6 : decide (0 < (L.length : Int)) = false := decide_eq_false (by omega)
          (conv => whnf); rw [d6]
          (conv => whnf); rw [d7]
          (conv => whnf); rw [d6]
          by_cases hN0 : N = 0
          · have d8 : ((N : Int) == 0) = true := by rw [hN0]; rfl
            (conv => whnf); rw [d8]
            (conv => whnf)
            exact ⟨rfl, hend⟩
          · have d8 : ((N : Int) == 0) = false := beq_eq_false_iff_ne.2 (by omega)
            (conv => whnf); rw [d8]
            have hnil : allM oa 65 = [] := List.eq_nil_of_length_eq_zero (by omega)
            cases hlm : leastM oa with
            | none =>
              (conv => whnf)
              exact ⟨rfl, hend⟩
            | some w =>
              have hfar := least_far hst hle.1 hnil hlm
              have d9 : decide (64 < (((some w).getD ⟨#[]⟩).size : Int)) = true := decide_eq_true (show (64 : Int) < (w.size : Int) by omega)
              (conv => whnf); rw [d9]
              (conv => whnf)
              exact ⟨rfl, hend⟩
        · have d6 : decide (0 < (L.length : Int)) = true := decide_eq_true (by omega)
          cases hX : allM oa 65 with
          | nil => exact absurd (show L.length = 0 by rw [hLl, hX]; simp) hL0
          | cons x0 r0 =>
            have hlm := least_head hst hle.1 hX
            have hx0 : L[0]? = some (txt x0) := by
              rw [hL, hX, List.getElem?_map, List.getElem?_take, if_pos (by omega)]; rfl
            rw [hlm]
            (conv => whnf); rw [d6]
            (conv => whnf); refine ixO (j := 0) sl57 t7 0 rfl hx0 rfl fun b9 o9 c9 hO9 hc9 hr9 => ?_
            obtain ⟨rfl, -⟩ := hr9
            (conv => whnf); refine ld1 ct9 hc9.one trivial ?_
            have d9 : (!(((some (txt x0)).getD ⟨#[]⟩).toList == (txt x0).toList)) = false := by
              show (!((txt x0).toList == (txt x0).toList)) = false
              simp
            (conv => whnf); rw [d9]
            (conv => whnf); rw [d7]
            (conv => whnf); rw [d6]
            (conv => whnf)
            exact ⟨rfl, hend⟩
end Go.Proofs.Ytkgmhkcncemmkaa
