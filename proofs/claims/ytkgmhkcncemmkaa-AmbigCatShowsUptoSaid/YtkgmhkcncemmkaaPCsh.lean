/- The law AmbigCatShows: its walk. -/
import Derived.Test.YtkgmhkcncemmkaaPSpk
import Derived.Test.YtkgmhkcncemmkaaPRefB
set_option linter.unusedVariables false
set_option linter.unusedSimpArgs false
set_option maxRecDepth 100000
namespace Go.Proofs.Ytkgmhkcncemmkaa
open Go.VC
attribute [local irreducible] oneM mRun gRun atRun
/-- How many cuts w has ahead of place n. -/
def cntC (a b : Option AM) (w : ByteArray) (n : Nat) : Nat := ((List.range n).filter (CutM a b w)).length
theorem cntC_succ (a b : Option AM) (w : ByteArray) (n : Nat) : cntC a b w (n + 1) = cntC a b w n + if CutM a b w n then 1 else 0 := by
  unfold cntC
  rw [List.range_succ, List.filter_append, List.length_append]
  cases h : CutM a b w n <;> simp [h]
theorem cntC_le (a b : Option AM) (w : ByteArray) (n : Nat) : cntC a b w n ≤ n := by
  unfold cntC
  exact Nat.le_trans (List.length_filter_le _ _) (by simp)
theorem cntC_two {a b : Option AM} {w : ByteArray} {n : Nat} (h : 2 ≤ cntC a b w n) : ∃ i j, i < j ∧ j < n ∧ CutM a b w i = true ∧ CutM a b w j = true := by
  unfold cntC at h
  have hs : ((List.range n).filter (CutM a b w)).Pairwise (· < ·) := List.pairwise_lt_range.filter _
  have hm : ∀ x ∈ (List.range n).filter (CutM a b w), x < n ∧ CutM a b w x = true := fun x hx => by
    obtain ⟨h1, h2⟩ := List.mem_filter.1 hx
    exact ⟨List.mem_range.1 h1, h2⟩
  generalize (List.range n).filter (CutM a b w) = l at *
  match l, h with
  | x :: y :: r, _ =>
    have hxy := (List.pairwise_cons.1 hs).1 y (by simp)
    exact ⟨x, y, hxy, (hm y (by simp)).1, (hm x (by simp)).2, (hm y (by simp)).2⟩
theorem two_leads {a b : Option AM} {w : ByteArray} {i j : Nat} (h1 : i < j) (h2 : j ≤ w.size) (h3 : CutM a b w i = true) (h4 : CutM a b w j = true) : Leads (catG a b) (unB w) root := by
  have hb := unB_bytes w
  have hl : (unB w).length = w.size := by unfold unB; rw [List.length_map]; rfl
  rw [← bA_unB w] at h3 h4
  exact (cat_root _ _ _).2 ⟨i, j, h1, by omega, (cut_bA hb i).1 h3, (cut_bA hb j).1 h4⟩

set_option maxHeartbeats 8000000 in
theorem ambigCatShows_p (v : Value) (cells : List (BitVec 256)) (next : List (List Int)) (final : List Bool) (v' : Value) (cells' : List (BitVec 256)) (next' : List (List Int)) (final' : List Bool) (s : ByteArray) (S : Nat → Prop) (H : Heap) (ht : TabIn S H v cells next final) (hu : TabIn S H v' cells' next' final') (hs : s.size ≤ 1048576) :
    Pure Try.prog 13 #[v, v', .string s] H (.bool true) := by
  refine FnOk.of_vc Try.func13 rfl (Try.call13 _) ?_
  (conv => whnf); refine tab_box ht fun l hl hv => ?_
  intro p H1 hp hs1 hb1 ha1
  have st1 := (St.nil H).box hp hs1 hb1 ha1
  (conv => whnf); refine tab_box (hu.frame st1.old) fun l' hl' hv' => ?_
  intro p' H2 hp' hs2 hb2 ha2
  have st2 := st1.box hp' hs2 hb2 ha2
  (conv => whnf); refine pures (speaks09_p H2) fun H3 ha3 => ?_
  have st3 := st2.call ha3
  (conv => whnf); refine VDraw.held (Old H3) 5 (sq [0,2] (.f 1 (.f 3 (sq [4] (.f 5 .e))))) rfl (by kernel_rfl) ?_
  (conv => whnf); refine tab_load hl hv (st3.blk 0 rfl) (st3.blk 0 rfl).lt ?_
  (conv => whnf); refine tab_load hl' hv' (st3.blk 1 rfl) (st3.blk 1 rfl).lt ?_
  (conv => whnf); refine VCall.mk (auto09_c v cells next final S H3 (ht.frame st3.old)) ?_
  rintro va H4 ⟨ha4, hs4, hva⟩
  have st4 := st3.call ha4
  refine ⟨ha4, ?_⟩
  (conv => whnf); refine VCall.mk (auto09_c v' cells' next' final' S H4 (hu.frame st4.old)) ?_
  rintro vb H5 ⟨ha5, hs5, hvb⟩
  have st5 := st4.call ha5
  have h35 := ha4.trans (ha5.mono fun k hk => old_lt ha4 hk)
  refine ⟨h35, ?_⟩
  have hca := cells_ok cells next final
  have hcb := cells_ok cells' next' final'
  generalize autoOf cells next final = a at *
  generalize autoOf cells' next' final' = b at *
  have hva5 : AutoV (Old H5) H5 va a := (hva.frame (ha5.mono fun k hk => hk.2)).mono fun k hk => old_lt ha5 hk.2
  have hvb5 : AutoV (Old H5) H5 vb b := hvb.mono fun k hk => hk.2
  (conv => whnf); refine VCall.mk (cat_c (S := Old H5) (fun k hk => hk) hva5 hvb5 hca hcb) ?_
  rintro _ H6 ⟨ha6, t, i, j, ok, rfl, hans, hts⟩
  have st6 := (St.nil H5).call ha6
  (conv => whnf); refine valloc _ (spL ⟨#[]⟩ 0 0) split_z rfl ?_
  intro p7 H7 hp7 hs7 hb7 ha7
  have st7 := st6.box hp7 hs7 hb7 ha7
  (conv => whnf); refine stNB (cs := spL t i j) st7 0 rfl rfl (show 0 + 3 ≤ 3 by decide) rfl fun H8 st8 => ?_
  rw [show splice (spL ⟨#[]⟩ 0 0) 0 (spL t i j) = spL t i j from rfl] at st8
  have hfin : ∀ {H' : Heap} {ps : List Pc}, St H5 H' ps → Agr (Old H) H H' := fun st => st5.old.trans (st.old.mono fun k hk => old_lt st5.old hk)
  have hij : i ≤ t.size ∧ j ≤ t.size := by
    cases ok with
    | false => obtain ⟨rfl, rfl, rfl, -⟩ := hans.2 rfl; exact ⟨Nat.zero_le _, Nat.zero_le _⟩
    | true => obtain ⟨w, rfl, -, h1, h2, -⟩ := hans.1 rfl; rw [bA_size]; omega
  have hup : ∀ {H' : Heap} {ps : List Pc}, St H5 H' ps → ∀ k, Old H5 k → k < H'.size := fun st k hk => old_lt st.old hk
  have hbig : 2 ≤ cntC a b s (s.size + 1) → ok = true ∧ aheadM s t = false := fun h => by
    obtain ⟨x, y, h1, h2, h3, h4⟩ := cntC_two h
    have hl := two_leads h1 (by omega) h3 h4
    cases ok with
    | false => exact absurd ⟨root, rfl, hl⟩ ((hans.2 rfl).2.2.2 (unB s) (unB_bytes s))
    | true =>
      obtain ⟨w, rfl, hw, -⟩ := hans.1 rfl
      exact ⟨rfl, hw.not_ahead hl⟩
  have q8 := st8.blk 0 rfl
  have spc0 : ∀ {H' : Heap}, Blk H' p7 66 (spL t i j) → VC.cell H' p7 (0 + 0) = some (.string t) := fun h => by rw [h.cell]; rfl
  have spc1 : ∀ {H' : Heap}, Blk H' p7 66 (spL t i j) → VC.cell H' p7 (0 + 1) = some (.int .i64 (i : Int)) := fun h => by rw [h.cell]; rfl
  have spc2 : ∀ {H' : Heap}, Blk H' p7 66 (spL t i j) → VC.cell H' p7 (0 + 2) = some (.int .i64 (j : Int)) := fun h => by rw [h.cell]; rfl
  cases ok
  case' false =>
    obtain ⟨e1, e2, e3, -⟩ := hans.2 rfl
    (conv => whnf); refine ldN (cs := spL t i j) ag66 (q8.cells fun j v hv => by rw [Nat.zero_add]; exact hv) trivial ?_
    (conv => whnf); refine vbuildS Try.underlying66 rfl _ split_z (spL ⟨#[]⟩ 0 0) rfl ?_
    (conv => whnf); refine sp_neq (by unfold maxLen; omega) (by decide) (by omega) (by decide) (by omega) (by decide) ?_
    rw [decide_eq_true ⟨e1, e2, e3⟩]
    (conv => whnf); refine VSeq.cut (α := Unit) [] (fun _ => []) (fun _ H9 => St H5 H9 [pB 66 p7 (spL t i j)]) ?_ ?_
    · (conv => whnf)
      exact ⟨rfl, (), rfl, st8⟩
  case' true =>
    obtain ⟨w, -, hw, h1, -, h3, h4, h5, h6⟩ := hans.1 rfl
    have d1 : decide ((i : Int) < 0) = false := decide_eq_false (by omega)
    have d2 : decide ((j : Int) ≤ (i : Int)) = false := decide_eq_false (by omega)
    have d3 : decide ((t.size : Int) < (j : Int)) = false := decide_eq_false (by omega)
    (conv => whnf); refine VSeq.cut (α := Unit) [] (fun _ => []) (fun _ H9 => St H5 H9 [pB 66 p7 (spL t i j)]) ?_ ?_
    · (conv => whnf); refine fa fl66_1 ?_
      (conv => whnf); refine ld1 ct3 (spc1 q8) trivial ?_
      (conv => whnf); rw [d1]
      (conv => whnf); refine fa fl66_1 ?_
      (conv => whnf); refine ld1 ct3 (spc1 q8) trivial ?_
      (conv => whnf); refine fa fl66_2 ?_
      (conv => whnf); refine ld1 ct3 (spc2 q8) trivial ?_
      (conv => whnf); rw [d2]
      (conv => whnf); refine fa fl66_2 ?_
      (conv => whnf); refine ld1 ct3 (spc2 q8) trivial ?_
      (conv => whnf); refine fa fl66_0 ?_
      (conv => whnf); refine ld1 ct9 (spc0 q8) trivial ?_
      (conv => whnf); rw [d3]
      (conv => whnf)
      refine VLoop.mk [11] (fun k : Nat => [.int .i64 (k : Int)]) (fun k H9 => k ≤ j + 1 ∧ St H5 H9 [pB 66 p7 (spL t i j)]) (fun k _ => j + 1 - k) ?_ ?_
      · (conv => whnf)
        exact ⟨0, rfl, Nat.zero_le _, st8⟩
      · rintro k H9 junk9 ⟨hk, st9⟩
        have q9 := st9.blk 0 rfl
        (conv => whnf); refine fa fl66_2 ?_
        (conv => whnf); refine ld1 ct3 (spc2 q9) trivial ?_
        (conv => whnf); refine VIte.mk (fun hz => ?_) (fun hz => ?_) <;> simp only [decide_eq_true_eq, decide_eq_false_iff_not] at hz
        · have hcut : CutM a b t k = (decide (k = i) || decide (k = j)) := by
            by_cases e1 : k = i
            · rw [e1, h3]; simp
            · by_cases e2 : k = j
              · rw [e2, h4]; simp
              · rw [decide_eq_false e1, decide_eq_false e2]
                rcases Nat.lt_or_ge k i with h | h
                · exact h5 k h
                · exact h6 k (by omega) (by omega)
          unfold CutM at hcut
          have d4 : ((k : Int) == (i : Int)) = decide (k = i) := by
            by_cases e : k = i
            · rw [e]; simp
            · rw [decide_eq_false e]; exact beq_eq_false_iff_ne.2 (by omega)
          have d5 : ((k : Int) == (j : Int)) = decide (k = j) := by
            by_cases e : k = j
            · rw [e]; simp
            · rw [decide_eq_false e]; exact beq_eq_false_iff_ne.2 (by omega)
          (conv => whnf); refine VDraw.quiet (Old H9) rfl (by kernel_rfl) ?_
          (conv => whnf); refine fa fl66_0 ?_
          (conv => whnf); refine ld1 ct9 (spc0 q9) q9.lt ?_
          (conv => whnf); refine vcutSH strT (by omega) (by omega) ?_
          rw [Int.toNat_natCast]
          (conv => whnf); refine pureq (fun H' h' => accepts_p (fun k hk => old_lt h' (hup st9 k hk)) (hva5.frame (st9.old.trans (h'.mono fun k hk => hup st9 k hk))) (by simp only [ByteArray.size_extract, maxLen]; omega)) ?_
          have hgo : ∀ {r : Bool}, r = (decide (k = i) || decide (k = j)) → (!(r == (decide (k = i) || decide (k = j)))) = false := fun e => by rw [e]; simp
          cases hc1 : acceptsM a (t.extract 0 k)
          case' false =>
            rw [hc1, Bool.false_and] at hcut
            have hcut2 := hgo hcut
            (conv => whnf); refine fa fl66_1 ?_
          case' true =>
            rw [hc1, Bool.true_and] at hcut
            have hcut2 := hgo hcut
            (conv => whnf); refine fa fl66_0 ?_
            (conv => whnf); refine ld1 ct9 (spc0 q9) q9.lt ?_
            (conv => whnf); refine vcutSL strT (by omega) (by omega) ?_
            rw [Int.toNat_natCast]
            (conv => whnf); refine pureq (fun H' h' => accepts_p (fun k hk => old_lt h' (hup st9 k hk)) (hvb5.frame (st9.old.trans (h'.mono fun k hk => hup st9 k hk))) (by simp only [ByteArray.size_extract, maxLen]; omega)) ?_
            (conv => whnf); refine fa fl66_1 ?_
          all_goals
            (conv => whnf); refine ld1 ct3 (spc1 q9) q9.lt ?_
            (conv => whnf); rw [d4]
            cases hki : decide (k = i)
            case' true =>
              rw [hki, Bool.true_or] at hcut2
              (conv => whnf); refine bneq_b Try.underlying4 ?_
              rw [hcut2]
            case' false =>
              rw [hki, Bool.false_or] at hcut2
              (conv => whnf); refine fa fl66_2 ?_
              (conv => whnf); refine ld1 ct3 (spc2 q9) q9.lt ?_
              (conv => whnf); rw [d5]
              (conv => whnf); refine bneq_b Try.underlying4 ?_
              rw [hcut2]
            all_goals
              (conv => whnf)
              intro H10 ha10
              have st10 := st9.call ha10
              (conv => whnf); rw [w64 (x := (k : Int) + 1) (by omega) (by omega)]
              exact ⟨rfl, k + 1, rfl, ⟨by omega, st10⟩, by omega⟩
        · obtain rfl : k = j + 1 := by omega
          (conv => whnf)
          exact ⟨rfl, (), rfl, st9⟩
  all_goals
    rintro _ H9 junk9 st9
    (conv => whnf)
    refine VLoop.mk [12, 13] (fun k : Nat => [.int .i64 (cntC a b s k : Int), .int .i64 (k : Int)]) (fun k H10 => k ≤ s.size + 1 ∧ St H5 H10 [pB 66 p7 (spL t i j)]) (fun k _ => s.size + 1 - k) ?_ ?_
    · (conv => whnf)
      exact ⟨0, rfl, Nat.zero_le _, st9⟩
    · rintro k H10 junk10 ⟨hk, st10⟩
      have hle := cntC_le a b s k
      (conv => whnf); refine VIte.mk (fun hz => ?_) (fun hz => ?_) <;> simp only [decide_eq_true_eq, decide_eq_false_iff_not] at hz
      · have hnx := cntC_succ a b s k
        unfold CutM at hnx
        (conv => whnf); refine VSeq.run ?_
        (conv => whnf); refine vcutSH strT (by omega) (by omega) ?_
        rw [Int.toNat_natCast]
        (conv => whnf); refine pures (accepts_p (hup st10) (hva5.frame st10.old) (by simp only [ByteArray.size_extract, maxLen]; omega)) fun H11 ha11 => ?_
        have st11 := st10.call ha11
        cases hc1 : acceptsM a (s.extract 0 k) with
        | false =>
          rw [hc1, Bool.false_and] at hnx
          have e : cntC a b s (k + 1) = cntC a b s k := hnx
          (conv => whnf); rw [w64 (x := (k : Int) + 1) (by omega) (by omega)]
          exact ⟨rfl, k + 1, by simp only [e]; rfl, ⟨by omega, st11⟩, by omega⟩
        | true =>
          rw [hc1, Bool.true_and] at hnx
          (conv => whnf); refine vcutSL strT (by omega) (by omega) ?_
          rw [Int.toNat_natCast]
          (conv => whnf); refine pures (accepts_p (hup st11) (hvb5.frame st11.old) (by simp only [ByteArray.size_extract, maxLen]; omega)) fun H12 ha12 => ?_
          have st12 := st11.call ha12
          cases hc2 : acceptsM b (s.extract k s.size) with
          | false =>
            rw [hc2] at hnx
            have e : cntC a b s (k + 1) = cntC a b s k := hnx
            (conv => whnf); rw [w64 (x := (k : Int) + 1) (by omega) (by omega)]
            exact ⟨rfl, k + 1, by simp only [e]; rfl, ⟨by omega, st12⟩, by omega⟩
          | true =>
            rw [hc2] at hnx
            have e : cntC a b s (k + 1) = cntC a b s k + 1 := hnx
            (conv => whnf); rw [w64 (x := (cntC a b s k : Int) + 1) (by omega) (by omega)]
            (conv => whnf); rw [w64 (x := (k : Int) + 1) (by omega) (by omega)]
            exact ⟨rfl, k + 1, by simp only [e]; rfl, ⟨by omega, st12⟩, by omega⟩
      · obtain rfl : k = s.size + 1 := by omega
        have q10 := st10.blk 0 rfl
        by_cases h2 : cntC a b s (s.size + 1) < 2
        · have d2 : decide ((cntC a b s (s.size + 1) : Int) < 2) = true := decide_eq_true (by omega)
          (conv => whnf); rw [d2]
          (conv => whnf)
          exact ⟨rfl, hfin st10⟩
        · have d2 : decide ((cntC a b s (s.size + 1) : Int) < 2) = false := decide_eq_false (by omega)
          obtain ⟨hok, hah⟩ := hbig (by omega)
          cases hok
          all_goals
            (conv => whnf); rw [d2]
            (conv => whnf); refine fa fl66_0 ?_
            (conv => whnf); refine ld1 ct9 (spc0 q10) trivial ?_
            (conv => whnf); refine pures (ahead_p s t H10) fun H11 ha11 => ?_
            rw [hah]
            (conv => whnf)
            exact ⟨rfl, hfin (st10.call ha11)⟩
end Go.Proofs.Ytkgmhkcncemmkaa
