/- The law SplitJoined: its walk. -/
import Derived.Test.YtpnnedkpbmilkaaPPie
import Derived.Test.YtpnnedkpbmilkaaPCone
set_option linter.unusedVariables false
set_option linter.unusedSimpArgs false
set_option maxRecDepth 100000
namespace Go.Proofs.Ytpnnedkpbmilkaa
open Go.VC
attribute [local irreducible] mRun gRun atRun
theorem join_cut {a : Option AM} {s t : ByteArray} (hs : acceptsM a s = true) (ht : acceptsM a t = true) : (s.size : Int) ∈ cutsM a a (s ++ t) := by
  have hsz : (s ++ t).size = s.size + t.size := ByteArray.size_append
  have hc : CutM a a (s ++ t) s.size = true := by
    unfold CutM
    have e1 : (s ++ t).extract 0 s.size = s := by
      apply text_inj
      rw [ByteArray.data_extract, Array.toList_extract, List.extract_eq_take_drop]
      simp only [ByteArray.data_append, Array.toList_append, List.drop_zero, Nat.sub_zero]
      rw [List.take_append_of_le_length (by simp), List.take_of_length_le (by simp)]
    have e2 : (s ++ t).extract s.size (s ++ t).size = t := by
      apply text_inj
      rw [ByteArray.data_extract, Array.toList_extract, List.extract_eq_take_drop]
      simp only [ByteArray.data_append, Array.toList_append]
      rw [List.drop_append_of_le_length (by simp), List.drop_of_length_le (by simp), List.nil_append, List.take_of_length_le (by rw [hsz]; simp)]
    rw [e1, e2, hs, ht]; rfl
  unfold cutsM cutsTo
  refine List.mem_map.2 ⟨s.size, List.mem_filter.2 ⟨List.mem_range.2 (by omega), ?_⟩, rfl⟩
  rw [cut_from (by omega)]
  exact hc
set_option maxHeartbeats 8000000 in
theorem splitJoined_p (v : Value) (cells : List (BitVec 256)) (next : List (List Int)) (final : List Bool) (s t : ByteArray) (S : Nat → Prop) (H : Heap) (ht : TabIn S H v cells next final) (hs : s.size ≤ 1048576) (hs' : t.size ≤ 1048576) :
    Pure Try.prog 12 #[v, .string s, .string t] H (.bool true) := by
  refine FnOk.of_vc Try.func12 rfl (Try.call12 _) ?_
  (conv => whnf); refine tab_box ht fun l hl hv => ?_
  intro p H1 hp hs1 hb1 ha1
  have st1 := (St.nil H).box hp hs1 hb1 ha1
  (conv => whnf); refine pures (speaks10_p H1) fun H3 ha3 => ?_
  have st3 := st1.call ha3
  (conv => whnf); refine tab_load hl hv (st3.blk 0 rfl) trivial ?_
  (conv => whnf); refine VCall.mk (auto_c v cells next final S H3 (ht.frame st3.old)) ?_
  rintro va H4 ⟨ha4, hs4, hva⟩
  have st4 := st3.call ha4
  have hca := cells_ok cells next final
  generalize autoOf cells next final = a at *
  have hva4 : AutoV (Old H4) H4 va a := hva.mono fun k hk => hk.2
  have hfin : ∀ {H' : Heap} {ps : List Pc}, St H4 H' ps → Agr (Old H) H H' := fun st => st4.old.trans (st.old.mono fun k hk => old_lt st4.old hk)
  have hup : ∀ {H' : Heap} {ps : List Pc}, St H4 H' ps → ∀ k, Old H4 k → k < H'.size := fun st k hk => old_lt st.old hk
  (conv => whnf); refine pures (accepts_p (fun k hk => hk) hva4 (by unfold maxLen; omega)) fun H5 ha5 => ?_
  have st5 := (St.nil H4).call ha5
  cases h1 : acceptsM a s with
  | false =>
    (conv => whnf)
    exact ⟨rfl, hfin st5⟩
  | true =>
  (conv => whnf); refine pures (accepts_p (hup st5) (hva4.frame st5.old) (by unfold maxLen; omega)) fun H6 ha6 => ?_
  have st6 := st5.call ha6
  cases h2 : acceptsM a t with
  | false =>
    (conv => whnf)
    exact ⟨rfl, hfin st6⟩
  | true =>
  (conv => whnf); rw [w64 (x := (s.size : Int) + (t.size : Int)) (by omega) (by omega)]
  by_cases h3 : 1048576 < s.size + t.size
  · have d0 : decide ((1048576 : Int) < (s.size : Int) + (t.size : Int)) = true := decide_eq_true (by omega)
    (conv => whnf); rw [d0]
    (conv => whnf)
    exact ⟨rfl, hfin st6⟩
  have d0 : decide ((1048576 : Int) < (s.size : Int) + (t.size : Int)) = false := decide_eq_false (by omega)
  have hsz : (s ++ t).size = s.size + t.size := ByteArray.size_append
  have hst : (s ++ t).size ≤ 1048576 := by omega
  have hmem := join_cut h1 h2
  have hw1 := ways_join h1 h2
  have hone := fun h0 hno => join_one (o := a) h0 h1 h2 hno
  have hM : chunksM a (s ++ t) = (chunksF a (s ++ t) (s ++ t).size 0, 0) := by unfold chunksM; rw [if_neg (by omega)]
  have hlen : (cutsM a a (s ++ t)).length ≤ (s ++ t).size + 1 := cutsTo_len a a (s ++ t) _
  (conv => whnf); rw [d0]
  (conv => whnf); refine vcat (by unfold maxLen; omega) ?_
  (conv => whnf); refine VCall.mk (cuts_c (S := Old H4) (hup st6) (hva4.frame st6.old) (hva4.frame st6.old) hst) ?_
  rintro _ H7 ⟨ha7, hs7, w7, rfl, hw7⟩
  obtain ⟨a7, c7, rfl, st7⟩ := st6.got ha7 hw7
  generalize cutsM a a (s ++ t) = cl at *
  (conv => whnf)
  refine VLoop.mk [10, 11] (fun i : Nat => [.bool (decide ((s.size : Int) ∈ cl.take i)), .int .i64 (i : Int)]) (fun i H8 => i ≤ cl.length ∧ St H4 H8 [pS tI 3 a7 cl.length c7 cl]) (fun i _ => cl.length - i) ?_ ?_
  · (conv => whnf)
    exact ⟨0, by simp, Nat.zero_le _, st7⟩
  · rintro i H8 junk8 ⟨hi, st8⟩
    have hview := st8.view 0 rfl
    (conv => whnf); refine VIte.mk (fun hz2 => ?_) (fun hz2 => ?_) <;> simp only [decide_eq_true_eq, decide_eq_false_iff_not] at hz2
    · obtain ⟨e, he⟩ := get_some (l := cl) (k := i) (by omega)
      have htk : decide ((s.size : Int) ∈ cl.take (i + 1)) = (decide ((s.size : Int) ∈ cl.take i) || (e == (s.size : Int))) := by
        rw [take_succ_snoc he]
        by_cases k1 : (s.size : Int) ∈ cl.take i
        · simp [k1]
        · by_cases k2 : e = (s.size : Int)
          · simp [k2]
          · have k3 : ¬ (s.size : Int) = e := fun h => k2 h.symm
            simp [k1, k2, k3]
      cases hd : decide ((s.size : Int) ∈ cl.take i) with
      | true =>
        rw [hd, Bool.true_or] at htk
        (conv => whnf); rw [w64 (x := (i : Int) + 1) (by omega) (by omega)]
        exact ⟨rfl, i + 1, by simp only [htk]; rfl, ⟨by omega, st8⟩, by omega⟩
      | false =>
        rw [hd, Bool.false_or] at htk
        (conv => whnf); refine ixr (i := i) sl35 hview he rfl ?_
        rintro b9 o9 cs9 hS9 hc9 ⟨rfl, -⟩
        (conv => whnf); refine ld1 ct3 hc9.one trivial ?_
        (conv => whnf); rw [w64 (x := (i : Int) + 1) (by omega) (by omega)]
        exact ⟨rfl, i + 1, by simp only [htk]; rfl, ⟨by omega, st8⟩, by omega⟩
    · obtain rfl : i = cl.length := by omega
      rw [List.take_length, decide_eq_true hmem]
      have st9 := st8.pick [] (by decide)
      (conv => whnf); refine vcat (by unfold maxLen; omega) ?_
      (conv => whnf); refine VCall.mk (chunks_c (S := Old H4) (hup st9) (hva4.frame st9.old) hst) ?_
      rintro _ H10 ⟨ha10, w10, rfl, hw10⟩
      obtain ⟨a10, c10, rfl, st10⟩ := st9.got ha10 hw10
      rw [hM] at st10 ⊢
      (conv => whnf); refine vcat (by unfold maxLen; omega) ?_
      (conv => whnf); refine pures (ways_p (hup st10) (hva4.frame st10.old) hst) fun H11 ha11 => ?_
      have st11 := st10.call ha11
      simp only at st11
      generalize chunksF a (s ++ t) (s ++ t).size 0 = cf at *
      have d1 : decide (((wy a (s ++ t) (s ++ t).size).2 : Int) < 1) = false := decide_eq_false (by omega)
      (conv => whnf); rw [d1]
      (conv => whnf); refine VCall.mk (iter_c (S := Old H4) (hup st11) (hva4.frame st11.old) hca) ?_
      rintro _ H12 ⟨ha12, w, ok, rfl, hans, -⟩
      have st12 := st11.call ha12
      cases ok with
      | true =>
        (conv => whnf)
        exact ⟨rfl, hfin st12⟩
      | false =>
        obtain ⟨h0, hno⟩ := iter_none hans
        obtain rfl := hone h0 hno
        have hv12 := st12.view 0 rfl
        have d2 : ((s.size : Int) == (s.size : Int)) = true := beq_self_eq_true _
        (conv => whnf); refine ixr (i := 0) sl35 hv12 rfl rfl ?_
        rintro b13 o13 cs13 hS13 hc13 ⟨rfl, -⟩
        (conv => whnf); refine ld1 ct3 hc13.one trivial ?_
        (conv => whnf); rw [d2]
        (conv => whnf); refine ixr (i := 1) sl35 hv12 rfl rfl ?_
        rintro b14 o14 cs14 hS14 hc14 ⟨rfl, -⟩
        (conv => whnf); refine ld1 ct3 hc14.one trivial ?_
        (conv => whnf); rw [w64 (x := (s.size : Int) + (t.size : Int)) (by omega) (by omega)]
        have d3 : (((s.size + t.size : Nat) : Int) == (s.size : Int) + (t.size : Int)) = true := by rw [beq_iff_eq]; omega
        (conv => whnf); rw [d3]
        (conv => whnf)
        exact ⟨rfl, hfin st12⟩
end Go.Proofs.Ytpnnedkpbmilkaa
