/- The law SplitPieces: its walk. -/
import Derived.Test.YtpnnedkpbmilkaaPPcs
import Derived.Test.YtpnnedkpbmilkaaPRefB
set_option linter.unusedVariables false
set_option linter.unusedSimpArgs false
set_option maxRecDepth 100000
namespace Go.Proofs.Ytpnnedkpbmilkaa
open Go.VC
attribute [local irreducible] mRun gRun atRun
theorem iter_none {a : Option AM} {w : List Nat} (h : IterAns a w false) : finM a 0 = false ∧ ∀ u, bytes_ u → ¬ LeadsP (iterG a) (· = root) u := by
  cases h0 : finM a 0 with
  | true => have := (h.1 h0).2; cases this
  | false => exact ⟨rfl, ((h.2 h0).2 rfl).2⟩
set_option maxHeartbeats 8000000 in
theorem splitPieces_p (v : Value) (cells : List (BitVec 256)) (next : List (List Int)) (final : List Bool) (s : ByteArray) (S : Nat → Prop) (H : Heap) (ht : TabIn S H v cells next final) (hs : s.size ≤ 1048576) :
    Pure Try.prog 11 #[v, .string s] H (.bool true) := by
  refine FnOk.of_vc Try.func11 rfl (Try.call11 _) ?_
  (conv => whnf); refine tab_box ht fun l hl hv => ?_
  intro p H1 hp hs1 hb1 ha1
  have st1 := (St.nil H).box hp hs1 hb1 ha1
  (conv => whnf); refine pures (speaks10_p H1) fun H3 ha3 => ?_
  have st3 := st1.call ha3
  (conv => whnf); refine tab_load hl hv (st3.blk 0 rfl) trivial ?_
  (conv => whnf); refine VCall.mk (auto_c v cells next final S H3 (ht.frame st3.old)) ?_
  rintro va H4 ⟨ha4, hs4, hva⟩
  have st4 := st3.call ha4
  have hca := cells_ok cells next final
  generalize autoOf cells next final = a at *
  have hva4 : AutoV (Old H4) H4 va a := hva.mono fun k hk => hk.2
  have hfin : ∀ {H' : Heap} {ps : List Pc}, St H4 H' ps → Agr (Old H) H H' := fun st => st4.old.trans (st.old.mono fun k hk => old_lt st4.old hk)
  have hup : ∀ {H' : Heap} {ps : List Pc}, St H4 H' ps → ∀ k, Old H4 k → k < H'.size := fun st k hk => old_lt st.old hk
  (conv => whnf); refine VCall.mk (chunks_c (S := Old H4) (fun k hk => hk) hva4 hs) ?_
  rintro _ H5 ⟨ha5, w5, rfl, hw5⟩
  obtain ⟨a5, c5, rfl, st5⟩ := (St.nil H4).got ha5 hw5
  (conv => whnf); refine pures (ways_p (hup st5) (hva4.frame st5.old) hs) fun H6 ha6 => ?_
  have st6 := st5.call ha6
  have hN2 := (wy_le a s s.size).2
  have hN0 := chunks_pieces (o := a) (s := s)
  have hNt := ways_two (o := a) (s := s)
  have hMz : (wy a s s.size).2 = 0 → chunksM a s = ([], 3) := fun h => by unfold chunksM; rw [if_pos h]
  have hMp : (wy a s s.size).2 ≠ 0 → chunksM a s = (chunksF a s s.size 0, 0) := fun h => by unfold chunksM; rw [if_neg h]
  have hse : s.size = 0 → (wy a s s.size).2 = 1 := fun h => by rw [h]; rfl
  generalize (wy a s s.size).2 = N at *
  generalize hl6 : chunksF a s s.size 0 = l6 at *
  have d0 : decide ((1048576 : Int) < (s.size : Int)) = false := decide_eq_false (by omega)
  have d1 : decide ((N : Int) < 0) = false := decide_eq_false (by omega)
  have d2 : decide ((2 : Int) < (N : Int)) = false := decide_eq_false (by omega)
  (conv => whnf); rw [d0]
  (conv => whnf); rw [d1]
  (conv => whnf); rw [d2]
  by_cases hz : N = 0
  · subst hz
    have hM := hMz rfl
    rw [hM] at st6 ⊢
    (conv => whnf); refine bneq_b Try.underlying4 ?_
    have hne : (!(s.toList == (⟨#[]⟩ : ByteArray).toList)) = true := by
      have : (s.toList == (⟨#[]⟩ : ByteArray).toList) = false := by
        cases h : (s.toList == (⟨#[]⟩ : ByteArray).toList) with
        | false => rfl
        | true =>
          have e := (text_eq s ⟨#[]⟩).1 h
          have := hse (by rw [e]; rfl)
          omega
      rw [this]; rfl
    (conv => whnf); rw [hne]
    (conv => whnf)
    exact ⟨rfl, hfin st6⟩
  · have hM := hMp hz
    rw [hM] at st6 ⊢
    have hpcs := hN0 (by omega)
    have d3 : ((N : Int) == 0) = false := beq_eq_false_iff_ne.2 (by omega)
    have hmax := st6.max 0 rfl
    simp only at st6 hmax
    unfold maxLen at hmax
    (conv => whnf); rw [d3]
    (conv => whnf); refine bneq_b Try.underlying4 ?_
    (conv => whnf); rw [d3]
    (conv => whnf)
    refine VLoop.mk [10, 11] (fun x : Nat × Nat => match x with | (i, at_) => [.int .i64 (at_ : Int), .int .i64 (i : Int)]) (fun x H7 => x.1 ≤ l6.length ∧ x.2 ≤ s.size ∧ Pieces a s x.2 (l6.drop x.1) ∧ St H4 H7 [pS tI 3 a5 l6.length c5 l6]) (fun x _ => l6.length - x.1) ?_ ?_
    · (conv => whnf)
      exact ⟨(0, 0), rfl, Nat.zero_le _, Nat.zero_le _, hpcs, st6⟩
    · rintro ⟨i, at_⟩ H7 junk7 ⟨hi, hat, hpc, st7⟩
      simp only at hi hat hpc
      have hview := st7.view 0 rfl
      (conv => whnf); refine VIte.mk (fun hz2 => ?_) (fun hz2 => ?_) <;> simp only [decide_eq_true_eq, decide_eq_false_iff_not] at hz2
      · obtain ⟨e, he⟩ := get_some (l := l6) (k := i) (by omega)
        have hdrop : l6.drop i = e :: l6.drop (i + 1) := by
          obtain ⟨h1, h2⟩ := List.getElem?_eq_some_iff.1 he
          rw [List.drop_eq_getElem_cons h1, h2]
        rw [hdrop] at hpc
        obtain ⟨e', rfl, k1, k2, k3, k4⟩ := hpc
        have d4 : decide ((e' : Int) ≤ (at_ : Int)) = false := decide_eq_false (by omega)
        have d5 : decide ((s.size : Int) < (e' : Int)) = false := decide_eq_false (by omega)
        (conv => whnf); refine ixr (i := i) sl35 hview he rfl ?_
        rintro b8 o8 cs8 hS8 hc8 ⟨rfl, -⟩
        (conv => whnf); refine ld1 ct3 hc8.one trivial ?_
        (conv => whnf); rw [d4]
        (conv => whnf); refine ixr (i := i) sl35 hview he rfl ?_
        rintro b9 o9 cs9 hS9 hc9 ⟨rfl, -⟩
        (conv => whnf); refine ld1 ct3 hc9.one trivial ?_
        (conv => whnf); rw [d5]
        (conv => whnf); refine ixr (i := i) sl35 hview he rfl ?_
        rintro b10 o10 cs10 hS10 hc10 ⟨rfl, -⟩
        (conv => whnf); refine ld1 ct3 hc10.one trivial ?_
        (conv => whnf); refine vcutS strT (by omega) (by omega) (by omega) ?_
        rw [Int.toNat_natCast, Int.toNat_natCast]
        (conv => whnf); refine pures (accepts_p (hup st7) (hva4.frame st7.old) (by simp only [ByteArray.size_extract, maxLen]; omega)) fun H11 ha11 => ?_
        have st11 := st7.call ha11
        have hview11 := st11.view 0 rfl
        rw [k3]
        (conv => whnf); refine ixr (i := i) sl35 hview11 he rfl ?_
        rintro b12 o12 cs12 hS12 hc12 ⟨rfl, -⟩
        (conv => whnf); refine ld1 ct3 hc12.one trivial ?_
        (conv => whnf); rw [w64 (x := (i : Int) + 1) (by omega) (by omega)]
        exact ⟨rfl, (i + 1, e'), rfl, ⟨by simp only; omega, k2, k4, st11⟩, by simp only; omega⟩
      · obtain rfl : i = l6.length := by omega
        rw [List.drop_length] at hpc
        obtain rfl : at_ = s.size := hpc
        have d6 : ((s.size : Int) != (s.size : Int)) = false := by simp
        (conv => whnf); rw [d6]
        (conv => whnf); refine VCall.mk (iter_c (S := Old H4) (hup st7) (hva4.frame st7.old) hca) ?_
        rintro _ H8 ⟨ha8, w, ok, rfl, hans, -⟩
        have st8 := st7.call ha8
        cases ok with
        | true =>
          (conv => whnf)
          exact ⟨rfl, hfin st8⟩
        | false =>
          obtain ⟨-, hno⟩ := iter_none hans
          have d7 : ((N : Int) == 1) = true := by
            rw [beq_iff_eq]
            have : ¬ (2 ≤ N) := fun h => by
              obtain ⟨x, hx, hbx⟩ := hNt h
              exact hno x hbx ⟨root, rfl, hx⟩
            omega
          (conv => whnf); rw [d7]
          (conv => whnf)
          exact ⟨rfl, hfin st8⟩
end Go.Proofs.Ytpnnedkpbmilkaa
