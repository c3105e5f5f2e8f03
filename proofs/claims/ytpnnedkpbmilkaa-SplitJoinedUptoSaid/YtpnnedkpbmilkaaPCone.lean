/- The law SplitCutIsOne: its walk. -/
import Derived.Test.YtpnnedkpbmilkaaPSpl5
import Derived.Test.YtpnnedkpbmilkaaPRefB
import Derived.Test.YtpnnedkpbmilkaaPCatI
set_option linter.unusedVariables false
set_option linter.unusedSimpArgs false
set_option maxRecDepth 100000
namespace Go.Proofs.Ytpnnedkpbmilkaa
open Go.VC
attribute [local irreducible] mRun gRun atRun
theorem cut_from {a b : Option AM} {s : ByteArray} {i : Nat} (hi : i ≤ s.size) : (fromM b s i 0 && finM a (runM a s i)) = CutM a b s i := by
  unfold CutM
  rw [from_acc b s hi, Bool.and_comm]
  congr 1
  unfold acceptsM runM
  have hl : (s.extract 0 i).size = i := by simp; omega
  rw [hl, ByteArray.data_extract, Array.toList_extract, List.extract_eq_take_drop]
  simp
  rw [List.take_take, Nat.min_self]
/-- The cuts from place i on. -/
theorem cuts_parts (a b : Option AM) (s : ByteArray) {i n : Nat} (hi : i < n) : ∃ R, cutsTo a b s n = cutsTo a b s (i + 1) ++ R ∧ ∀ x ∈ R, (i : Int) < x := by
  obtain ⟨m, rfl⟩ : ∃ m, n = i + 1 + m := ⟨n - (i + 1), by omega⟩
  unfold cutsTo
  rw [List.range_add, List.filter_append, List.map_append]
  refine ⟨_, rfl, fun x hx => ?_⟩
  obtain ⟨y, hy, rfl⟩ := List.mem_map.1 hx
  obtain ⟨z, -, rfl⟩ := List.mem_map.1 (List.mem_filter.1 hy).1
  omega
theorem cuts_mem {a b : Option AM} {s : ByteArray} {x : Int} (h : x ∈ cutsM a b s) : ∃ i : Nat, x = i ∧ i ≤ s.size ∧ CutM a b s i = true := by
  unfold cutsM cutsTo at h
  obtain ⟨i, hi, rfl⟩ := List.mem_map.1 h
  obtain ⟨h1, h2⟩ := List.mem_filter.1 hi
  have := List.mem_range.1 h1
  exact ⟨i, rfl, by omega, by rw [← cut_from (by omega)]; exact h2⟩
theorem cuts_one {a b : Option AM} {s : ByteArray} (h : ∀ u, bytes_ u → ¬ LeadsP (catG a b) (· = root) u) : (cutsM a b s).length ≤ 1 := by
  apply Classical.byContradiction
  intro hl
  have hs : (cutsM a b s).Pairwise (· < ·) := by
    unfold cutsM cutsTo
    rw [List.pairwise_map]
    exact (List.pairwise_lt_range.filter _).imp fun h => by omega
  have hm : ∀ x ∈ cutsM a b s, ∃ i : Nat, x = i ∧ i ≤ s.size ∧ CutM a b s i = true := fun x hx => cuts_mem hx
  generalize cutsM a b s = l at *
  match l, hl with
  | [], hl => simp at hl
  | [_], hl => simp at hl
  | x :: y :: r, _ =>
    obtain ⟨i, rfl, hi, hci⟩ := hm x (by simp)
    obtain ⟨j, rfl, hj, hcj⟩ := hm y (by simp)
    have hij := (List.pairwise_cons.1 hs).1 (j : Int) (by simp)
    have hl2 : (unB s).length = s.size := by unfold unB; rw [List.length_map]; rfl
    rw [← bA_unB s] at hci hcj
    exact h (unB s) (unB_bytes s) ⟨root, rfl, (cat_root _ _ _).2 ⟨i, j, by omega, by omega, (cut_bA (unB_bytes s) i).1 hci, (cut_bA (unB_bytes s) j).1 hcj⟩⟩

set_option maxHeartbeats 8000000 in
theorem splitCutIsOne_p (v : Value) (cells : List (BitVec 256)) (next : List (List Int)) (final : List Bool) (v' : Value) (cells' : List (BitVec 256)) (next' : List (List Int)) (final' : List Bool) (s : ByteArray) (S : Nat → Prop) (H : Heap) (ht : TabIn S H v cells next final) (hu : TabIn S H v' cells' next' final') (hs : s.size ≤ 1048576) :
    Pure Try.prog 10 #[v, v', .string s] H (.bool true) := by
  refine FnOk.of_vc Try.func10 rfl (Try.call10 _) ?_
  (conv => whnf); refine tab_box ht fun l hl hv => ?_
  intro p H1 hp hs1 hb1 ha1
  have st1 := (St.nil H).box hp hs1 hb1 ha1
  (conv => whnf); refine tab_box (hu.frame st1.old) fun l' hl' hv' => ?_
  intro p' H2 hp' hs2 hb2 ha2
  have st2 := st1.box hp' hs2 hb2 ha2
  (conv => whnf); refine pures (speaks10_p H2) fun H3 ha3 => ?_
  have st3 := st2.call ha3
  (conv => whnf); refine VDraw.held (Old H3) 5 (sq [0,2] (.f 1 (.f 3 (sq [4] (.f 5 .e))))) rfl (by kernel_rfl) ?_
  (conv => whnf); refine tab_load hl hv (st3.blk 0 rfl) (st3.blk 0 rfl).lt ?_
  (conv => whnf); refine tab_load hl' hv' (st3.blk 1 rfl) (st3.blk 1 rfl).lt ?_
  (conv => whnf); refine VCall.mk (auto_c v cells next final S H3 (ht.frame st3.old)) ?_
  rintro va H4 ⟨ha4, hs4, hva⟩
  have st4 := st3.call ha4
  refine ⟨ha4, ?_⟩
  (conv => whnf); refine VCall.mk (auto_c v' cells' next' final' S H4 (hu.frame st4.old)) ?_
  rintro vb H5 ⟨ha5, hs5, hvb⟩
  have st5 := st4.call ha5
  have h35 := ha4.trans (ha5.mono fun k hk => old_lt ha4 hk)
  refine ⟨h35, ?_⟩
  have hca := cells_ok cells next final
  have hcb := cells_ok cells' next' final'
  generalize autoOf cells next final = a at *
  generalize autoOf cells' next' final' = b at *
  have hva5 : AutoV (Old H5) H5 va a := (hva.frame (ha5.mono fun k hk => hk.2)).mono fun k hk => old_lt ha5 hk.2
  have hvb5 : AutoV (Old H5) H5 vb b := hvb.mono fun k hk => hk.2
  have hfin : ∀ {H' : Heap} {ps : List Pc}, St H5 H' ps → Agr (Old H) H H' := fun st => st5.old.trans (st.old.mono fun k hk => old_lt st5.old hk)
  have hup : ∀ {H' : Heap} {ps : List Pc}, St H5 H' ps → ∀ k, Old H5 k → k < H'.size := fun st k hk => old_lt st.old hk
  (conv => whnf); refine VCall.mk (cuts_c (S := Old H5) (fun k hk => hk) hva5 hvb5 hs) ?_
  rintro _ H6 ⟨ha6, hs6, w, rfl, hw⟩
  obtain ⟨a6, c6, rfl, st6⟩ := (St.nil H5).got ha6 hw
  have d0 : decide ((1048576 : Int) < (s.size : Int)) = false := decide_eq_false (by omega)
  have hlen := cutsTo_len a b s (s.size + 1)
  have hone := cuts_one (a := a) (b := b) (s := s)
  (conv => whnf); rw [d0]
  (conv => whnf)
  refine VLoop.mk [11, 12] (fun i : Nat => [.int .i64 ((cutsTo a b s i).length : Int), .int .i64 (i : Int)]) (fun i H7 => i ≤ s.size + 1 ∧ i ≤ 301 ∧ St H5 H7 [pS tI 3 a6 (cutsM a b s).length c6 (cutsM a b s)]) (fun i _ => s.size + 1 - i) ?_ ?_
  · (conv => whnf)
    exact ⟨0, rfl, Nat.zero_le _, by omega, st6⟩
  · rintro i H7 junk7 ⟨hi, hi3, st7⟩
    have hpart := fun h : i < s.size + 1 => cuts_parts a b s h
    have hsucc := cutsTo_succ a b s i
    have hcM : cutsM a b s = cutsTo a b s (s.size + 1) := rfl
    have hview := st7.view 0 rfl
    have hlM : (cutsM a b s).length ≤ s.size + 1 := hlen
    by_cases hin : i ≤ s.size ∧ i ≤ 300
    · obtain ⟨hi1, hi2⟩ := hin
      have d1 : decide ((i : Int) ≤ (s.size : Int)) = true := decide_eq_true (by omega)
      have d2 : decide ((i : Int) ≤ 300) = true := decide_eq_true (by omega)
      obtain ⟨R, hR1, hR2⟩ := hpart (by omega)
      rw [cut_from hi1] at hsucc
      rw [← hcM] at hR1
      (conv => whnf); rw [d1]
      (conv => whnf); rw [d2]
      (conv => whnf); refine VSeq.run ?_
      (conv => whnf); refine vcutSH strT (by omega) (by omega) ?_
      rw [Int.toNat_natCast]
      (conv => whnf); refine pures (accepts_p (hup st7) (hva5.frame st7.old) (by simp only [ByteArray.size_extract, maxLen]; omega)) fun H8 ha8 => ?_
      have st8 := st7.call ha8
      have hview8 := st8.view 0 rfl
      by_cases hc : CutM a b s i = true
      · have hc2 := hc
        unfold CutM at hc2
        rw [Bool.and_eq_true] at hc2
        rw [hc2.1]
        rw [if_pos hc] at hsucc
        have hget : (cutsM a b s)[(cutsTo a b s i).length]? = some (i : Int) := by
          rw [hR1, hsucc, List.append_assoc, List.getElem?_append_right (Nat.le_refl _), Nat.sub_self]; rfl
        have hkl := (List.getElem?_eq_some_iff.1 hget).1
        have d3 : decide (((cutsTo a b s i).length : Int) < ((cutsM a b s).length : Int)) = true := decide_eq_true (by omega)
        have e : (cutsTo a b s (i + 1)).length = (cutsTo a b s i).length + 1 := by rw [hsucc]; simp
        generalize (cutsTo a b s i).length = k at *
        (conv => whnf); refine vcutSL strT (by omega) (by omega) ?_
        rw [Int.toNat_natCast]
        (conv => whnf); refine pures (accepts_p (hup st8) (hvb5.frame st8.old) (by simp only [ByteArray.size_extract, maxLen]; omega)) fun H9 ha9 => ?_
        have st9 := st8.call ha9
        have hview9 := st9.view 0 rfl
        rw [hc2.2]
        (conv => whnf); rw [d3]
        (conv => whnf); refine ixr (i := k) sl35 hview9 hget rfl ?_
        rintro b10 o10 cs10 hS10 hc10 ⟨rfl, -⟩
        (conv => whnf); refine ld1 ct3 hc10.one trivial ?_
        have d4 : ((i : Int) == (i : Int)) = true := beq_self_eq_true _
        (conv => whnf); rw [d4]
        (conv => whnf); refine bneq_b Try.underlying4 ?_
        (conv => whnf); rw [w64 (x := (k : Int) + 1) (by omega) (by omega)]
        (conv => whnf); rw [w64 (x := (i : Int) + 1) (by omega) (by omega)]
        exact ⟨rfl, i + 1, by simp only [e]; rfl, ⟨by omega, by omega, st9⟩, by omega⟩
      · have hcf : CutM a b s i = false := Bool.eq_false_iff.2 hc
        rw [if_neg hc] at hsucc
        rw [hsucc] at hR1
        have hlist : ∀ {K : Prop}, ((cutsM a b s).length ≤ (cutsTo a b s i).length → K) → (∀ x : Int, (cutsM a b s)[(cutsTo a b s i).length]? = some x → (i : Int) < x → K) → K := fun h1 h2 => by
          cases R with
          | nil => exact h1 (by rw [hR1]; simp)
          | cons x R => exact h2 x (by rw [hR1, List.getElem?_append_right (Nat.le_refl _), Nat.sub_self]; rfl) (hR2 x (by simp))
        have e : (cutsTo a b s (i + 1)).length = (cutsTo a b s i).length := by rw [hsucc]
        generalize (cutsTo a b s i).length = k at *
        unfold CutM at hcf
        cases hc1 : acceptsM a (s.extract 0 i)
        case' true =>
          rw [hc1, Bool.true_and] at hcf
          (conv => whnf); refine vcutSL strT (by omega) (by omega) ?_
          rw [Int.toNat_natCast]
          (conv => whnf); refine pures (accepts_p (hup st8) (hvb5.frame st8.old) (by simp only [ByteArray.size_extract, maxLen]; omega)) fun H9 ha9 => ?_
          have st8 := st8.call ha9
          rw [hcf]
        all_goals
          have hview9 := st8.view 0 rfl
          refine hlist (fun hk => ?_) fun x hx hix => ?_
          · have d3 : decide ((k : Int) < ((cutsM a b s).length : Int)) = false := decide_eq_false (by omega)
            (conv => whnf); rw [d3]
            (conv => whnf); refine bneq_b Try.underlying4 ?_
            (conv => whnf); rw [w64 (x := (i : Int) + 1) (by omega) (by omega)]
            exact ⟨rfl, i + 1, by simp only [e]; rfl, ⟨by omega, by omega, st8⟩, by omega⟩
          · have hkl := (List.getElem?_eq_some_iff.1 hx).1
            have d3 : decide ((k : Int) < ((cutsM a b s).length : Int)) = true := decide_eq_true (by omega)
            have d4 : (x == (i : Int)) = false := beq_eq_false_iff_ne.2 (by omega)
            (conv => whnf); rw [d3]
            (conv => whnf); refine ixr (i := k) sl35 hview9 hx rfl ?_
            rintro b10 o10 cs10 hS10 hc10 ⟨rfl, -⟩
            (conv => whnf); refine ld1 ct3 hc10.one trivial ?_
            (conv => whnf); rw [d4]
            (conv => whnf); refine bneq_b Try.underlying4 ?_
            (conv => whnf); rw [w64 (x := (i : Int) + 1) (by omega) (by omega)]
            exact ⟨rfl, i + 1, by simp only [e]; rfl, ⟨by omega, by omega, st8⟩, by omega⟩
    · -- the loop has ended
      have hnext : (300 < s.size) ∨ ((cutsTo a b s i).length = (cutsM a b s).length ∧ s.size ≤ 300) := by
        by_cases h3 : s.size ≤ 300
        · obtain rfl : i = s.size + 1 := by omega
          exact .inr ⟨by rw [hcM], h3⟩
        · exact .inl (by omega)
      have hclose : ∀ {H' : Heap} {K : Value → Heap → Prop}, St H5 H' [pS tI 3 a6 (cutsM a b s).length c6 (cutsM a b s)] → (∀ H'' t i j ok, CatAns a b t i j ok → St H5 H'' [pS tI 3 a6 (cutsM a b s).length c6 (cutsM a b s)] → K (.tuple #[.agg (spL t i j).toArray, .bool ok]) H'') → VCall Try.prog 47 #[va, vb] H' K := fun st hk => by
        refine VCall.mk (cat_c (S := Old H5) (hup st) (hva5.frame st.old) (hvb5.frame st.old) hca hcb) ?_
        rintro _ H'' ⟨ha, t, i, j, ok, rfl, hans, -⟩
        exact hk H'' t i j ok hans (st.call ha)
      cases d1 : decide ((i : Int) ≤ (s.size : Int))
      case' true =>
        have d2 : decide ((i : Int) ≤ 300) = false := decide_eq_false (by have := of_decide_eq_true d1; omega)
        (conv => whnf); rw [d1]
        (conv => whnf); rw [d2]
      case' false =>
        (conv => whnf); rw [d1]
      all_goals
        rcases hnext with h3 | ⟨h3, h4⟩
        case' inl =>
          have d5 : decide ((s.size : Int) ≤ 300) = false := decide_eq_false (by omega)
          (conv => whnf); rw [d5]
        case' inr =>
          have d5 : decide ((s.size : Int) ≤ 300) = true := decide_eq_true (by omega)
          have d6 : (((cutsTo a b s i).length : Int) != ((cutsM a b s).length : Int)) = false := by rw [h3]; simp
          (conv => whnf); rw [d5]
          (conv => whnf); rw [d6]
        all_goals
          (conv => whnf); refine hclose st7 fun H8 t i j ok hans st8 => ?_
          (conv => whnf); refine valloc _ (spL ⟨#[]⟩ 0 0) split_z rfl ?_
          intro p9 H9 hp9 hs9 hb9 ha9
          have st9 := st8.box hp9 hs9 hb9 ha9
          (conv => whnf); refine stNB (cs := spL t i j) st9 1 rfl rfl (show 0 + 3 ≤ 3 by decide) rfl fun H10 st10 => ?_
          cases ok with
          | true =>
            (conv => whnf)
            exact ⟨rfl, hfin st10⟩
          | false =>
            have d7 : decide (((cutsM a b s).length : Int) ≤ 1) = true := decide_eq_true (by have := hone (hans.2 rfl).2.2.2; omega)
            (conv => whnf); rw [d7]
            (conv => whnf)
            exact ⟨rfl, hfin st10⟩
end Go.Proofs.Ytpnnedkpbmilkaa
