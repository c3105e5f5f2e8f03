/- Parts of the proof: PDet4, PDSt, PDet5, PDFi, PDAd, PDet6, PDet7, PTabs, PRefA, PLives, PRefB, PSame5, PTables, PSameW -/
import Derived.Test.YtfbghcpdinlmcaaGreatDoorKLq3
import Derived.Test.YtfbghcpdinlmcaaGreatDoorKLq2
import Derived.Test.YtfbghcpdinlmcaaGreatDoorKLq1
/- members, the two closures of Determinize: the walks. -/
set_option linter.unusedVariables false
set_option linter.unusedSimpArgs false
set_option maxRecDepth 100000
namespace Go.VC
section
variable {α : Type} {T : Ty α} {e : TypeId} {a : Option Addr} {n cap : Nat} {xs : List α} {B : Nat → Prop} {H0 H : Heap} {ps : List Pc}
/-- append to an own slice that may be long. -/
theorem appL5 {P : Program} {t ty q o m cap2 by_ : Nat} {z : Value} {ys : List α} {ds : List Value} {K : Value → Heap → Prop} (st : StB B H0 H ps) (i : Nat) (ht : SlT P t e T.size by_ z) (hp : ps[i]? = some (pS T e a n cap xs))
    (hd : Cells H q o ds) (hy : T.reps none_ H ds ys) (hm : m = ys.length) (h1 : ∀ u ∈ ds, u.oneCell' = true) (h63 : xs.length + ys.length ≤ 1099511627776) (hby : by_ ≤ 64)
    (k : ∀ a' cap' H', StB B H0 H' (ps.set i (pS T e a' (xs.length + ys.length) cap' (xs ++ ys))) → Agr (fun k => k < H.size ∧ ¬ slB (.slice a n cap) k) H H' → K (.slice a' (xs.length + ys.length) cap') H') :
    VEff P (Builtin.append_ #[t, t] ty [.slice a n cap, .slice (some ⟨q, o, none⟩) m cap2].toArray) H K := by
  refine vappendO (T := T) (S := none_) (lo := 0) ht (st.at_ i hp).1 (Nat.zero_le _) (fun k hk => hk.elim) hd hy hm h1 (by unfold maxLen; omega) (by have := Nat.mul_le_mul h63 hby; omega) ?_
  intro v' H' hown hagr hsz hfr
  obtain ⟨a', cap', rfl⟩ := hown.hull
  rw [List.length_append] at hown hfr ⊢
  refine k a' cap' H' (st.upd i hp (hagr.mono fun k hk => ⟨hk.1, fun hb => hk.2 (.inl hb)⟩) _ ⟨hown, fun k hk => hk.elim⟩ (fun k hk => ?_) (fun k hk => ?_) hsz) hagr
  · rcases hk with hk | hk
    · rcases hfr k hk with h | h
      · exact .inl (.inl h)
      · exact .inr h
    · exact hk.elim
  · rcases hk with hk | hk
    · exact (hown.lt hk).2
    · exact hk.elim
end
end Go.VC
namespace Go.Proofs.YtfbghcpdinlmcaaGreatDoor
open Go.VC
theorem name_byte {l : List Int} (h : ∀ q ∈ l, 0 ≤ q ∧ q < 65536) : ∀ b ∈ nameN l, b = 44 ∨ (48 ≤ b ∧ b ≤ 57) := by
  intro b hb
  obtain ⟨q, hq, hb⟩ := List.mem_flatMap.1 hb
  rcases List.mem_append.1 hb with hb | hb
  · exact .inr (dig_rng (h q hq).1 b hb)
  · rw [List.mem_singleton] at hb; exact .inl hb
def mem5 (l : List Int) (i : Nat) : List Int × Nat := ((nameN l).take i).foldl mst ([], 0)
theorem mem5_succ {l : List Int} {i b : Nat} (h : (nameN l)[i]? = some b) : mem5 l (i + 1) = mst (mem5 l i) b := by
  unfold mem5
  rw [take_succ_snoc h, List.foldl_append]
  rfl
theorem mem5_all {l : List Int} (h : ∀ q ∈ l, 0 ≤ q ∧ q < 65536) : mem5 l (nameN l).length = (l, 0) := by
  unfold mem5
  rw [List.take_length, mst_all l [] fun q hq => (h q hq).1]
  rfl
set_option maxHeartbeats 4000000 in
theorem members_c {l : List Int} (h : ∀ q ∈ l, 0 ≤ q ∧ q < 65536) (hl : l.length ≤ 65536) (H : Heap) :
    FnOk Tryz.prog 91 #[.string (nmB l)] H fun r H' => Agr (Old H) H H' ∧ ∃ ra rc, r = .slice ra l.length rc ∧ SlO tIk none_ H' H.size 3 (.slice ra l.length rc) l := by
  have hsz := nmB_size h
  have hnl := nameN_len h
  refine FnOk.of_vc Tryz.func91 rfl (Tryz.call91 _) ?_
  (conv => whnf); rw [hsz]
  have st1 := (St.nil H).nils tIk 3
  (conv => whnf)
  refine VLoop.mk [3, 4, 8] (fun x : Nat × Option Addr × Nat => match x with | (i, a5, c5) => [.slice a5 (mem5 l i).1.length c5, .int .i64 ((mem5 l i).2 : Int), .int .i64 (i : Int)])
    (fun x H2 => x.1 ≤ (nameN l).length ∧ St H H2 [pS tIk 3 x.2.1 (mem5 l x.1).1.length x.2.2 (mem5 l x.1).1]) (fun x _ => (nameN l).length - x.1) ?_ ?_
  · (conv => whnf)
    exact ⟨(0, none, 0), rfl, Nat.zero_le _, st1⟩
  · rintro ⟨i, a5, c5⟩ H2 junk2 ⟨hi, st2⟩
    simp only at hi st2
    obtain ⟨hn2, k2, hk2, hm2⟩ := mst_pre l [] i h
    change (mem5 l i).2 < 65536 at hn2
    change (mem5 l i).1 = _ at hm2
    have hml : (mem5 l i).1.length ≤ 65536 := by rw [hm2]; simp only [List.nil_append, List.length_take]; omega
    (conv => whnf); refine VIte.mk (fun hz => ?_) (fun hz => ?_) <;> simp only [decide_eq_true_eq, decide_eq_false_iff_not] at hz
    · obtain ⟨b, hb⟩ := getB (s := nmB l) (k := i) (by omega)
      have hbn := byN_get hb
      rw [byN_nm h] at hbn
      have hsucc := mem5_succ hbn
      have hrng := name_byte h _ (List.mem_of_getElem? hbn)
      obtain ⟨y, hy⟩ : ∃ y, y = b.toNat := ⟨_, rfl⟩
      rw [← hy] at hsucc hrng hbn
      obtain ⟨M, hM⟩ : ∃ M, M = mem5 l i := ⟨_, rfl⟩
      rw [← hM] at st2 hn2 hml hsucc
      rw [← hM]
      (conv => whnf); refine VSeq.run ?_
      (conv => whnf); refine vidxs Tryz.underlying9 rfl hb ?_
      rw [← hy]
      rcases hrng with h44 | h48
      · have d1 : ((y : Int) == 44) = true := by rw [h44]; rfl
        have hs2 : mem5 l (i + 1) = (M.1 ++ [(M.2 : Int)], 0) := by rw [hsucc]; unfold mst; rw [if_pos h44]
        (conv => whnf); rw [d1]
        (conv => whnf); refine vbuild1 sl41 [.int .i64 (M.2 : Int)] rfl rfl (by decide) (by decide) ?_
        intro q11 H11 hq11 hs11 hb11 ha11
        (conv => whnf); refine app1 (x := (M.2 : Int)) (st2.skip hq11 ha11) 0 sl41 rfl hb11 ⟨rfl, kint ⟨by omega, by omega⟩⟩ rfl (by omega) (by decide) fun a12 c12 H12 st12 _ => ?_
        (conv => whnf); rw [w64 (x := (i : Int) + 1) (by omega) (by omega)]
        refine ⟨rfl, (i + 1, a12, c12), ?_, ⟨by simp only; omega, ?_⟩, by simp only; omega⟩
        · simp only
          rw [hs2]
          simp
        · simp only
          rw [hs2]
          simpa using st12
      · have d1 : ((y : Int) == 44) = false := by rw [beq_eq_false_iff_ne]; omega
        have hs2 : mem5 l (i + 1) = (M.1, 10 * M.2 + (y - 48)) := by rw [hsucc]; unfold mst; rw [if_neg (by omega)]
        (conv => whnf); rw [d1]
        (conv => whnf); rw [w64 (x := 10 * (M.2 : Int)) (by omega) (by omega)]
        (conv => whnf); refine vidxs Tryz.underlying9 rfl hb ?_
        rw [← hy]
        (conv => whnf); rw [w8 (x := (y : Int) - 48) (by omega) (by omega)]
        (conv => whnf); rw [w64 (x := (y : Int) - 48) (by omega) (by omega)]
        (conv => whnf); rw [w64 (x := 10 * (M.2 : Int) + ((y : Int) - 48)) (by omega) (by omega)]
        (conv => whnf); rw [w64 (x := (i : Int) + 1) (by omega) (by omega)]
        refine ⟨rfl, (i + 1, a5, c5), ?_, ⟨by simp only; omega, ?_⟩, by simp only; omega⟩
        · simp only
          rw [hs2]
          simp only
          rw [show ((10 * M.2 + (y - 48) : Nat) : Int) = 10 * (M.2 : Int) + ((y : Int) - 48) by omega]
          simp
        · simp only
          rw [hs2]
          exact st2
    · obtain rfl : i = (nameN l).length := by omega
      rw [mem5_all h] at st2
      (conv => whnf)
      rw [mem5_all h]
      exact ⟨st2.old, a5, c5, rfl, St.own st2 0 rfl⟩
set_option maxHeartbeats 4000000 in
theorem index5_p {S : Nat → Prop} {H : Heap} {a : Option Addr} {c : Nat} {xs : List Int} {q : Int} (hS : ∀ k, S k → k < H.size) (h : SlD tIk S H a c xs) :
    FnOk Tryz.prog 142 #[.slice a xs.length c, .int .i64 q] H fun r H' => Agr (Old H) H H' ∧ ∃ n : Int, r = .int .i64 n ∧ decide (0 ≤ n) = decide (q ∈ xs) := by
  have hle := h.le
  unfold maxLen at hle
  refine FnOk.of_vc Tryz.func142 rfl (Tryz.call142 _) ?_
  (conv => whnf)
  refine VLoop.mk [8] (fun i : Nat => [.int .i64 (i : Int)]) (fun i H2 => i ≤ xs.length ∧ Agr (Old H) H H2 ∧ q ∉ xs.take i) (fun i _ => xs.length - i) ?_ ?_
  · (conv => whnf)
    exact ⟨0, rfl, Nat.zero_le _, Agr.refl _ _, by simp⟩
  · rintro i H2 junk ⟨hi, ha, hno⟩
    (conv => whnf); refine VIte.mk (fun hz => ?_) (fun hz => ?_) <;> simp only [decide_eq_true_eq, decide_eq_false_iff_not] at hz
    · obtain ⟨x, hx⟩ := get_some (l := xs) (k := i) (by omega)
      (conv => whnf); refine ixr (i := i) sl41 (h.frame (ha.mono hS)) hx rfl ?_
      rintro b3 o3 c3 hS3 hc3 ⟨rfl, -⟩
      (conv => whnf); refine ld1 ct3 hc3.one trivial ?_
      by_cases he : x = q
      · have d1 : (q == x) = true := by rw [he]; simp
        (conv => whnf); rw [d1]
        (conv => whnf)
        refine ⟨ha, i, rfl, ?_⟩
        rw [decide_eq_true (show (0 : Int) ≤ (i : Int) by omega), decide_eq_true (he ▸ List.mem_of_getElem? hx)]
      · have d1 : (q == x) = false := beq_eq_false_iff_ne.2 (Ne.symm he)
        (conv => whnf); rw [d1]
        (conv => whnf); rw [w64 (x := (i : Int) + 1) (by omega) (by omega)]
        refine ⟨rfl, i + 1, by simp, ⟨by omega, ha, ?_⟩, by omega⟩
        rw [take_succ_snoc hx, List.mem_append, List.mem_singleton]
        rintro (h1 | h1)
        · exact hno h1
        · exact he h1.symm
    · obtain rfl : i = xs.length := by omega
      rw [List.take_length] at hno
      (conv => whnf)
      exact ⟨ha, -1, rfl, by rw [decide_eq_false hno]; rfl⟩
theorem contains5_p {S : Nat → Prop} {H : Heap} {a : Option Addr} {c : Nat} {xs : List Int} {q : Int} (hS : ∀ k, S k → k < H.size) (h : SlD tIk S H a c xs) :
    Pure Tryz.prog 94 #[.slice a xs.length c, .int .i64 q] H (.bool (decide (q ∈ xs))) := by
  refine FnOk.of_vc Tryz.func94 rfl (Tryz.call94 _) ?_
  (conv => whnf); refine VCall.mk (index5_p (q := q) hS h) ?_
  rintro _ H1 ⟨ha1, n, rfl, hn⟩
  (conv => whnf); rw [hn]
  (conv => whnf)
  exact ⟨rfl, ha1⟩
theorem takT_row {a : NfM} {q : Int} (h : a.has q = true) : ∃ row, (takT a)[q.toNat]? = some row ∧ row.length ≤ a.edges.length ∧ ∀ e, e ∈ row ↔ e ∈ a.edges ∧ e.sil = false ∧ e.fr = q ∧ a.has e.to = true := by
  have hn : 0 ≤ q ∧ q < (nstA a : Int) := by
    have := has_n a q
    rw [h] at this
    simpa using this.symm
  refine ⟨_, grp_get _ _ (by omega), List.length_filterMap_le _ _, fun e => ?_⟩
  rw [List.mem_filterMap]
  constructor
  · rintro ⟨e', he, h1⟩
    unfold keyT okE at h1
    split at h1
    · rename_i hk
      simp only [Bool.and_eq_true, Bool.not_eq_true'] at hk
      rw [Option.bind_some] at h1
      have hfr := (NfM.has_iff.1 hk.1.1)
      split at h1
      · rename_i h2
        injection h1 with h1
        subst h1
        exact ⟨he, hk.2, by show e'.fr = q; simp only at h2; omega, hk.1.2⟩
      · cases h1
    · simp at h1
  · rintro ⟨he, h1, rfl, h3⟩
    refine ⟨e, he, ?_⟩
    unfold keyT okE
    rw [h, h3, h1]
    simp
/-- Where one byte leads from a set. -/
noncomputable def stepA (a : NfM) (l : List Int) (b : Nat) : List Int := lstS (goS a (· ∈ l) b)
theorem stepA_rng {a : NfM} {l : List Int} {b : Nat} : ∀ q ∈ stepA a l b, a.has q = true := fun q hq => goS_has a _ b q ((lstS_mem (has_rng (goS_has a (· ∈ l) b)) q).1 hq)
theorem htak_frame {S : Nat → Prop} {H H2 H3 : Heap} {ps qs : List Pc} {ra : Option Addr} {rc : Nat} {row : List EdM} (h : SlD tEd S H2 ra rc row) (s2 : St H H2 ps) (s3 : St H H3 qs) (hS : ∀ k, S k → k < H.size) : SlD tEd S H3 ra rc row :=
  h.frame fun k hk => by rw [s3.old k (hS k hk), s2.old k (hS k hk)]
set_option maxHeartbeats 8000000 in
theorem step5_c {S : Nat → Prop} {H : Heap} {v : Value} {a : NfM} {l : List Int} {wb b : Nat} (hS : ∀ k, S k → k < H.size) (hwb : S wb) (hcell : Cells H wb 0 [v]) (hv : NetV S H v a) (hel : a.edges.length ≤ 1048576) (hl : ∀ q ∈ l, a.has q = true) (hll : l.length ≤ 65536) (hb : b < 256) (hpow : PowH Tryz.prog H) :
    FnOk Tryz.prog 90 #[.string (nmB l), .int .u8 (b : Int), .pointer (some ⟨wb, 0, none⟩)] H fun r H' => r = .string (nmB (stepA a l b)) ∧ Agr (Old H) H H' := by
  have hlr : ∀ q ∈ l, 0 ≤ q ∧ q < 65536 := fun q hq => by have := NfM.has_iff.1 (hl q hq); omega
  have hv0 := hv
  obtain ⟨nb, sa, sc, ta, tc, hve, hnb, hcells, -, htak⟩ := hv
  subst hve
  refine FnOk.of_vc Tryz.func90 rfl (Tryz.call90 _) ?_
  have st0 := (St.nil H).nils tIk 3
  (conv => whnf); refine VCall.mk (members_c hlr hll H) ?_
  rintro _ H1 ⟨ha1, ma, mc, rfl, hown1⟩
  obtain ⟨_, _, e1, st1⟩ := st0.got ha1 hown1
  injection e1 with e11 e12 e13
  subst e11; subst e13
  (conv => whnf)
  refine VLoop.mk [6, 14] (fun x : Nat × List Int × Option Addr × Nat => match x with | (i, T, a5, c5) => [.slice a5 T.length c5, .int .i64 (i : Int)])
    (fun x H2 => x.1 ≤ l.length ∧ x.2.1.length ≤ x.1 * 1048576 ∧ (∀ p, p ∈ x.2.1 ↔ hopS a (· ∈ l.take x.1) b p) ∧ St H H2 [pS tIk 3 x.2.2.1 x.2.1.length x.2.2.2 x.2.1, pS tIk 3 ma l.length mc l]) (fun x _ => l.length - x.1) ?_ ?_
  · (conv => whnf)
    refine ⟨(0, [], none, 0), rfl, Nat.zero_le _, Nat.zero_le _, fun p => ⟨fun h => (by cases h), fun h => ?_⟩, st1⟩
    obtain ⟨e, -, -, -, h, -⟩ := h
    simp at h
  · rintro ⟨i, T, a5, c5⟩ H2 junk2 ⟨hi, hTl, hT, st2⟩
    simp only at hi hTl hT st2
    (conv => whnf); refine VIte.mk (fun hz => ?_) (fun hz => ?_) <;> simp only [decide_eq_true_eq, decide_eq_false_iff_not] at hz
    · obtain ⟨q, hq⟩ := get_some (l := l) (k := i) (by omega)
      have hqh := hl q (List.mem_of_getElem? hq)
      obtain ⟨row, hrow, hrl, hrm⟩ := takT_row hqh
      (conv => whnf); refine ixr (i := i) sl41 (st2.view 1 rfl) hq rfl ?_
      rintro b3 o3 c3 hS3 hc3 ⟨rfl, -⟩
      (conv => whnf); refine ld1 ct3 hc3.one trivial ?_
      (conv => whnf); refine ld1 ct168 ((hcell.eq (st2.old wb (hS wb hwb))).one) trivial ?_
      (conv => whnf); refine fa fl172_1 ?_
      (conv => whnf); refine ld1 (v := .slice ta (nstA a) tc) ct170 ((hcells.eq (st2.old nb (hS nb hnb))) 1 _ rfl) trivial ?_
      (conv => whnf); refine ixrn (i := q.toNat) sl170 (htak.frame (st2.old.mono hS)) (grp_len _ _ _).symm hrow (by have := NfM.has_iff.1 hqh; omega) ?_
      rintro b5 o5 cs5 hS5 hc5 ⟨ra, rc, rfl, hrd2⟩
      have hrd : SlD tEd S H2 ra rc row := hrd2
      (conv => whnf); refine ld1 ct74 hc5.one trivial ?_
      (conv => whnf)
      refine VLoop.mk [6, 26] (fun x : Nat × List Int × Option Addr × Nat => match x with | (j, T', a5, c5) => [.slice a5 T'.length c5, .int .i64 (j : Int)])
        (fun x H3 => x.1 ≤ row.length ∧ x.2.1.length ≤ i * 1048576 + x.1 ∧ (∀ p, p ∈ x.2.1 ↔ hopS a (· ∈ l.take i) b p ∨ ∃ e ∈ row.take x.1, e.set.getLsbD b = true ∧ p = e.to) ∧ St H H3 [pS tIk 3 x.2.2.1 x.2.1.length x.2.2.2 x.2.1, pS tIk 3 ma l.length mc l]) (fun x _ => row.length - x.1) ?_ ?_
      · (conv => whnf)
        exact ⟨(0, T, a5, c5), rfl, Nat.zero_le _, Nat.le_trans hTl (Nat.le_add_right _ _), fun p => by rw [hT p]; simp, st2⟩
      · rintro ⟨j, T', a6, c6⟩ H3 junk3 ⟨hj, hTl', hT', st3⟩
        simp only at hj hTl' hT' st3
        have hrd3 : SlD tEd S H3 ra rc row := htak_frame hrd st2 st3 hS
        (conv => whnf); refine VIte.mk (fun hz2 => ?_) (fun hz2 => ?_) <;> simp only [decide_eq_true_eq, decide_eq_false_iff_not] at hz2
        · obtain ⟨e, he⟩ := get_some (l := row) (k := j) (by omega)
          obtain ⟨hem, hes, hef, het⟩ := (hrm e).1 (List.mem_of_getElem? he)
          have htr := NfM.has_iff.1 het
          (conv => whnf); refine VSeq.run ?_
          (conv => whnf); refine ixr (i := j) sl74 hrd3 he rfl ?_
          rintro b6 o6 c7 hS6 hc6 ⟨rfl, hok⟩
          (conv => whnf); refine ldN (cs := edL e) ag174 hc6 trivial ?_
          (conv => whnf); refine valloc _ [.int .i64 0, .int .i64 0, .bool false, .int .u64 0, .int .u64 0, .int .u64 0, .int .u64 0] edge_z rfl ?_
          intro x H4 hx hs4 hb4 ha4
          have st4 := st3.box hx hs4 hb4 ha4
          (conv => whnf); refine stNB (cs := edL e) st4 2 rfl rfl (Nat.le_refl _) rfl fun H5 st5 => ?_
          rw [splice_all (show (edL e).length = 7 from rfl)] at st5
          (conv => whnf); refine fa fl174_3 ?_
          (conv => whnf); refine ldN (cs := setL e.set) ag101 ((st5.blk 2 rfl).cells fun j v hv => edL_set e j v hv) trivial ?_
          (conv => whnf); refine pures (has_c e.set b hb H5) fun H6 ha6 => ?_
          have st6 := st5.call ha6
          cases hbit : e.set.getLsbD b with
          | false =>
            (conv => whnf); rw [w64 (x := (j : Int) + 1) (by omega) (by omega)]
            refine ⟨rfl, (j + 1, T', a6, c6), by simp, ⟨by simp only; omega, by simp only; omega, fun p => ?_, st6.pick [0, 1] (by decide)⟩, by simp only; omega⟩
            simp only
            rw [hT' p, take_succ_snoc he]
            constructor
            · rintro (h | ⟨e', h1, h2, h3⟩)
              · exact .inl h
              · exact .inr ⟨e', List.mem_append_left _ h1, h2, h3⟩
            · rintro (h | ⟨e', h1, h2, h3⟩)
              · exact .inl h
              · rcases List.mem_append.1 h1 with h1 | h1
                · exact .inr ⟨e', h1, h2, h3⟩
                · rw [List.mem_singleton] at h1; subst h1; rw [hbit] at h2; cases h2
          | true =>
            (conv => whnf); refine fa fl174_1 ?_
            (conv => whnf); refine ld1 (v := .int .i64 e.to) ct3 (by rw [(st6.blk 2 rfl).cell]; rfl) trivial ?_
            (conv => whnf); refine vbuild1 sl41 [.int .i64 e.to] rfl rfl (by decide) (by decide) ?_
            intro q11 H11 hq11 hs11 hb11 ha11
            (conv => whnf); refine appL5 (ys := [e.to]) (st6.skip hq11 ha11) 0 sl41 rfl (hb11.cells (o := 0) (cs := [.int .i64 e.to]) fun j v hv => by rw [Nat.zero_add]; exact hv) (Ty.reps_one ⟨rfl, hok.2⟩) rfl (fun u hu => by cases List.mem_singleton.1 hu; rfl) (by simp only [List.length_cons, List.length_nil]; omega) (by decide) fun a12 c12 H12 st12 _ => ?_
            have el : T'.length + [e.to].length = (T' ++ [e.to]).length := by simp
            rw [el] at st12 ⊢
            (conv => whnf); rw [w64 (x := (j : Int) + 1) (by omega) (by omega)]
            refine ⟨rfl, (j + 1, T' ++ [e.to], a12, c12), by simp, ⟨by simp only; omega, by simp only [List.length_append, List.length_cons, List.length_nil]; omega, fun p => ?_, st12.pick [0, 1] (by decide)⟩, by simp only; omega⟩
            simp only
            rw [List.mem_append, hT' p, take_succ_snoc he, List.mem_singleton]
            constructor
            · rintro ((h | ⟨e', h1, h2, h3⟩) | h)
              · exact .inl h
              · exact .inr ⟨e', List.mem_append_left _ h1, h2, h3⟩
              · exact .inr ⟨e, by simp, hbit, h⟩
            · rintro (h | ⟨e', h1, h2, h3⟩)
              · exact .inl (.inl h)
              · rcases List.mem_append.1 h1 with h1 | h1
                · exact .inl (.inr ⟨e', h1, h2, h3⟩)
                · rw [List.mem_singleton] at h1; subst h1; exact .inr h3
        · obtain rfl : j = row.length := by omega
          rw [List.take_length] at hT'
          (conv => whnf); rw [w64 (x := (i : Int) + 1) (by omega) (by omega)]
          refine ⟨rfl, (i + 1, T', a6, c6), by simp, ⟨by simp only; omega, by simp only; omega, fun p => ?_, st3⟩, by simp only; omega⟩
          simp only
          rw [hT' p, take_succ_snoc hq]
          unfold hopS
          constructor
          · rintro (⟨e, h1, h2, h3, h4, h5, h6⟩ | ⟨e, h1, h2, h3⟩)
            · exact ⟨e, h1, h2, h3, List.mem_append_left _ h4, h5, h6⟩
            · obtain ⟨g1, g2, g3, g4⟩ := (hrm e).1 h1
              exact ⟨e, g1, g2, h2, by rw [g3]; simp, g4, h3⟩
          · rintro ⟨e, h1, h2, h3, h4, h5, h6⟩
            rcases List.mem_append.1 h4 with h4 | h4
            · exact .inl ⟨e, h1, h2, h3, h4, h5, h6⟩
            · rw [List.mem_singleton] at h4
              exact .inr ⟨e, (hrm e).2 ⟨h1, h2, h4, h5⟩, h3, h6⟩
    · obtain rfl : i = l.length := by omega
      rw [List.take_length] at hT
      have hTh : ∀ q ∈ T, a.has q = true := fun q hq => by
        obtain ⟨e, -, -, -, -, h5, rfl⟩ := (hT q).1 hq
        exact h5
      have hTeq : (fun q => q ∈ T) = hopS a (· ∈ l) b := funext fun q => propext (hT q)
      (conv => whnf); refine ld1 ct168 ((hcell.eq (st2.old wb (hS wb hwb))).one) trivial ?_
      have st9 : St H H2 [pS tIk 3 a5 T.length c5 T] := st2.pick [0] (by decide)
      have hmul : T.length ≤ 68719476736 := Nat.le_trans hTl (by have := Nat.mul_le_mul_right 1048576 hll; omega)
      (conv => whnf); refine VCall.mk (close_c st9 hS hv0 hTh hmul hel hpow) ?_
      rintro _ H3 ⟨rfl, ha3⟩
      (conv => whnf)
      refine ⟨?_, ha3⟩
      rw [hTeq]
      rfl
end Go.Proofs.YtfbghcpdinlmcaaGreatDoor
/- The document's table: settled: all that silent edges reach, as a rising list: the walk. -/
set_option linter.unusedVariables false
set_option linter.unusedSimpArgs false
set_option maxRecDepth 100000
namespace Go.VC
section
variable {B : Nat → Prop} {H0 H : Heap} {ps qs : List Pc} {p q : Pc}
end
end Go.VC
namespace Go.Proofs.YtfbghcpdinlmcaaGreatDoor
open Go.VC
/-! ### marks -/
/-- All that has been found: nothing twice, all of it reached; the first i, and k ways of the next one, are done. -/
structure StlI (a : NfM) (X all : List Int) : Prop where
  nd : all.Nodup
  cl : ∀ q ∈ all, clS a (· ∈ X) q
section
variable {B : Nat → Prop} {H0 H : Heap} {rest : List Pc} {nb tb mc lc : Nat} {ma la : Option Addr} {vt : List Value} {a : NfM} {X : List Int}
end
end Go.Proofs.YtfbghcpdinlmcaaGreatDoor
/- The explorer: at, Explore: the walks. -/
set_option linter.unusedVariables false
set_option linter.unusedSimpArgs false
set_option maxRecDepth 100000
namespace Go.VC
section
variable {α : Type} {T : Ty α} {e e2 : TypeId} {a ra : Option Addr} {n cap rn rc : Nat} {xs : List (List α)} {row : List α} {B S : Nat → Prop} {H0 H : Heap} {ps rest : List Pc}
/-- A row joins the data of a list of rows. -/
theorem StB.absorb (st : StB B H0 H (pN (tSl T) S e a n cap xs :: pS T e2 ra rn rc row :: rest)) : StB B H0 H (pN (tSl T) (fun k => S k ∨ slB (.slice ra rn rc) k) e a n cap xs :: rest) := by
  have hap := st.apart2 (i := 0) (j := 1) rfl rfl (by decide)
  have h0 := st.at_ 0 rfl
  refine (st.join 0 1 rfl rfl (by decide)).say 0 rfl _ ⟨h0.1.mono fun k hk => .inl hk, fun k hk => ?_⟩ fun k hk => ?_
  · rcases hk with hk | hk
    · exact h0.2 k hk
    · exact fun h => hap k (.inl h) (.inl hk)
  · rcases hk with hk | hk | hk
    · exact .inl (.inl hk)
    · exact .inl (.inr hk)
    · exact .inr (.inl hk)
/-- append of one row whose data lie in S. -/
theorem appNO {P : Program} {t ty q by_ m cap2 : Nat} {z : Value} {ds : List Value} {K : Value → Heap → Prop} (st : StB B H0 H (pN (tSl T) S e a n cap xs :: rest)) (ht : SlT P t e (tSl T).size by_ z)
    (hd : Cells H q 0 ds) (hy : (tSl T).rep S H ds row) (hm : m = 1) (h1 : ∀ u ∈ ds, u.oneCell' = true) (h63 : xs.length + 1 ≤ 4194304) (hby : by_ ≤ 1024)
    (k : ∀ a' cap' H', StB B H0 H' (pN (tSl T) S e a' (xs.length + 1) cap' (xs ++ [row]) :: rest) → K (.slice a' (xs.length + 1) cap') H') :
    VEff P (Builtin.append_ #[t, t] ty [.slice a n cap, .slice (some ⟨q, 0, none⟩) m cap2].toArray) H K := by
  subst hm
  have h0 := st.at_ 0 rfl
  refine vappendO (T := tSl T) (S := S) (lo := 0) (ys := [row]) ht h0.1 (Nat.zero_le _) (fun k hk => ⟨(st.in_ 0 rfl (.inr hk)).2, h0.2 k hk⟩) hd (Ty.reps_one hy) rfl h1 (by unfold maxLen; simp only [List.length_singleton]; omega) (by have := Nat.mul_le_mul h63 hby; simp only [List.length_singleton]; omega) ?_
  intro v' H' hown hagr hsz hfr
  obtain ⟨a', cap', rfl⟩ := hown.hull
  rw [List.length_append, List.length_singleton] at hown hfr ⊢
  refine k a' cap' H' (st.upd 0 rfl (hagr.mono fun k hk => ⟨hk.1, fun hb => hk.2 (.inl hb)⟩) _ ⟨hown, fun k hk hb => ?_⟩ (fun k hk => ?_) (fun k hk => ?_) hsz)
  · rcases hfr k hb with h | h
    · exact h0.2 k hk h
    · have := (st.in_ 0 rfl (.inr hk)).2
      omega
  · rcases hk with hk | hk
    · rcases hfr k hk with h | h
      · exact .inl (.inl h)
      · exact .inr h
    · exact .inl (.inr hk)
  · rcases hk with hk | hk
    · exact (hown.lt hk).2
    · have := (st.in_ 0 rfl (.inr hk)).2
      omega
end
end Go.VC
namespace Go.Proofs.YtfbghcpdinlmcaaGreatDoor
open Go.VC
set_option maxHeartbeats 4000000 in
theorem final5_p {S : Nat → Prop} {H : Heap} {a : NfM} {l : List Int} {nb : Nat} {sv : Value} (hS : ∀ k, S k → k < H.size) (hnb : S nb) (hc : Cells H nb 0 (nfL a sv)) (hl : ∀ q ∈ l, 0 ≤ q ∧ q < 65536) (hll : l.length ≤ 65536) :
    Pure Tryz.prog 93 #[.string (nmB l), .pointer (some ⟨nb, 0, none⟩)] H (.bool (decide (a.fin ∈ l))) := by
  refine FnOk.of_vc Tryz.func93 rfl (Tryz.call93 _) ?_
  have st0 := St.nil H
  (conv => whnf); refine VDraw.heldZ (Old H) [] (sq [0,2,3] (.f 1 (.f 4 (.f 5 .e)))) rfl (by kernel_rfl) ?_
  (conv => whnf); refine fa fl76_2 ?_
  (conv => whnf); refine ld1 (v := .int .i64 a.fin) ct3 (hc 2 _ rfl) (hS nb hnb) ?_
  (conv => whnf); refine VCall.mk (members_c hl hll H) ?_
  rintro _ H1 ⟨ha1, ma, mc, rfl, hown1⟩
  obtain ⟨_, _, e1, st1⟩ := st0.got ha1 hown1
  injection e1 with e11 e12 e13
  subst e11; subst e13
  refine ⟨ha1, ?_⟩
  (conv => whnf); refine pures (contains5_p (q := a.fin) (fun k hk => hk) (st1.view 0 rfl)) fun H2 ha2 => ?_
  have st2 := st1.call ha2
  have g2 : Agr (Old H) H H2 := ha1.trans (ha2.mono fun k hk => old_lt ha1 hk)
  refine ⟨g2, ?_⟩
  (conv => whnf)
  refine ⟨g2, ?_⟩
  (conv => whnf)
  exact ⟨rfl, st2.old⟩
/-! ### at -/
abbrev tEx : TypeId := 259
def exL (mb : Nat) (fv : Value) (most : Nat) : List Value := [.map (some mb), fv, .int .i64 (most : Int)]
def exM (F : List (List Int)) (s : ByteArray) : Option Value := (F.findIdx? fun k => decide (nmB k = s)).map fun (i : Nat) => .int .i64 (i : Int)
theorem mapSI : MapTW Tryz.prog 256 9 3 (.int .i64 0) := ⟨rfl, rfl⟩
theorem keySW : KeyW Tryz.prog 9 (anyK (α := ByteArray)) Value.string := KeyW.ofE Tryz.underlying9 Go.VC.keyS
def RngF (F : List (List Int)) : Prop := ∀ l ∈ F, (∀ q ∈ l, 0 ≤ q ∧ q < 65536) ∧ l.length ≤ 65536
theorem find_name {F : List (List Int)} (hF : RngF F) {k : List Int} (hk : ∀ q ∈ k, 0 ≤ q ∧ q < 65536) : (F.findIdx? fun l => decide (nmB l = nmB k)) = F.findIdx? (· = k) := by
  induction F with
  | nil => rfl
  | cons l F ih =>
    have h1 : decide (nmB l = nmB k) = decide (l = k) := decide_eq_decide.2 ⟨fun h => nmB_inj (hF l (by simp)).1 hk h, fun h => by rw [h]⟩
    rw [List.findIdx?_cons, List.findIdx?_cons, h1, ih fun m hm => hF m (List.mem_cons_of_mem _ hm)]
theorem exM_put {F : List (List Int)} {k : List Int} (hno : (F.findIdx? fun l => decide (nmB l = nmB k)) = none) : put (exM F) (nmB k) (some (.int .i64 (F.length : Int))) = exM (F ++ [k]) := by
  funext s
  unfold put exM
  rw [List.findIdx?_append]
  by_cases hs : s = nmB k
  · subst hs
    rw [if_pos rfl, hno]
    simp [List.findIdx?_cons]
  · rw [if_neg hs]
    cases h : F.findIdx? fun l => decide (nmB l = s) with
    | some i => simp
    | none =>
      have : nmB k ≠ s := fun e => hs e.symm
      simp [List.findIdx?_cons, this]
theorem exM_get {F : List (List Int)} (hF : RngF F) {k : List Int} (hk : ∀ q ∈ k, 0 ≤ q ∧ q < 65536) : exM F (nmB k) = (F.findIdx? (· = k)).map fun (i : Nat) => .int .i64 (i : Int) := by
  unfold exM
  rw [find_name hF hk]
theorem nmB_max {l : List Int} (h : ∀ q ∈ l, 0 ≤ q ∧ q < 65536) (hl : l.length ≤ 65536) : (nmB l).size ≤ maxLen := by
  rw [nmB_size h]
  have := nameN_len h
  unfold maxLen
  omega
section
variable {B : Nat → Prop} {H0 H : Heap} {rest : List Pc} {xb mb fc most : Nat} {fa : Option Addr} {F : List (List Int)} {k : List Int}
def exS (xb mb : Nat) (fa : Option Addr) (fc most : Nat) (F : List (List Int)) (rest : List Pc) : List Pc :=
  pB tEx xb (exL mb (.slice fa F.length fc) most) :: pMW anyK Value.string mb (exM F) :: pS tStr 9 fa F.length fc (F.map nmB) :: rest
set_option maxHeartbeats 4000000 in
theorem at5_v {K : Value → Heap → Prop} (st : StB B H0 H (exS xb mb fa fc most F rest)) (hF : RngF F) (hk : ∀ q ∈ k, 0 ≤ q ∧ q < 65536) (hkl : k.length ≤ 65536) (hm : most ≤ 4096) (hFl : F.length ≤ most)
    (k1 : ∀ F' i fa' fc' H', atF most F k = some (F', i) → StB B H0 H' (exS xb mb fa' fc' most F' rest) → K (.tuple #[.int .i64 (i : Int), .bool true]) H')
    (k2 : ∀ H', atF most F k = none → StB B H0 H' (exS xb mb fa fc most F rest) → K (.tuple #[.int .i64 0, .bool false]) H') :
    VCall Tryz.prog 143 #[.pointer (some ⟨xb, 0, none⟩), .string (nmB k)] H K := by
  refine VCall.mk (R := fun r H' => (∃ (F' : List (List Int)) (i : Nat) (fa' : Option Addr) (fc' : Nat), r = .tuple #[.int .i64 (i : Int), .bool true] ∧ atF most F k = some (F', i) ∧ StB B H0 H' (exS xb mb fa' fc' most F' rest)) ∨ (r = .tuple #[.int .i64 0, .bool false] ∧ atF most F k = none ∧ StB B H0 H' (exS xb mb fa fc most F rest))) ?_ fun r H' h => by
    rcases h with ⟨F', i, fa', fc', rfl, h1, h2⟩ | ⟨rfl, h1, h2⟩
    · exact k1 F' i fa' fc' H' h1 h2
    · exact k2 H' h1 h2
  unfold exS at st
  have hb0 := st.blk 0 rfl
  refine FnOk.of_vc Tryz.func143 rfl (Tryz.call143 _) ?_
  (conv => whnf); refine VC.fa fl259_0 ?_
  (conv => whnf); refine ld1 (v := .map (some mb)) ct256 (by rw [hb0.cell]; rfl) trivial ?_
  (conv => whnf); refine mlookOkW (a := nmB k) mapSI keySW trivial (st.mapW 1 rfl) trivial ?_
  rw [exM_get hF hk]
  cases hf : F.findIdx? (· = k) with
  | some i =>
    (conv => whnf)
    exact .inl ⟨F, i, fa, fc, rfl, by unfold atF; rw [hf], st⟩
  | none =>
    (conv => whnf); refine VDraw.lex rfl (by kernel_rfl) ?_
    (conv => whnf); refine VC.fa fl259_1 ?_
    (conv => whnf); refine ld1 (v := .slice fa F.length fc) ct257 (by rw [hb0.cell]; rfl) trivial ?_
    (conv => whnf); refine VC.fa fl259_2 ?_
    (conv => whnf); refine ld1 (v := .int .i64 (most : Int)) ct3 (by rw [hb0.cell]; rfl) trivial ?_
    by_cases hlt : F.length < most
    · have d1 : decide ((most : Int) ≤ (F.length : Int)) = false := decide_eq_false (by omega)
      (conv => whnf); rw [d1]
      (conv => whnf); refine VDraw.heldZ (Old H) [10] (sq [0,1,2,3,4,5,6,7,8,9] (.f 10 .e)) rfl (by kernel_rfl) ?_
      (conv => whnf); refine VC.fa fl259_0 ?_
      (conv => whnf); refine ld1 (v := .map (some mb)) ct256 (by rw [hb0.cell]; rfl) hb0.lt ?_
      (conv => whnf); refine VC.fa fl259_1 ?_
      (conv => whnf); refine ld1 (v := .slice fa F.length fc) ct257 (by rw [hb0.cell]; rfl) hb0.lt ?_
      (conv => whnf); refine mputPW (a := nmB k) st 1 mapSI keySW trivial rfl (exM_put (by rw [find_name hF hk]; exact hf)) fun H1 st1 => ?_
      have hb1 := st1.blk 0 rfl
      (conv => whnf); refine VC.fa fl259_1 ?_
      (conv => whnf); refine ld1 (v := .slice fa F.length fc) ct257 (by rw [hb1.cell]; rfl) trivial ?_
      (conv => whnf); refine vbuild1 sl257 [.string (nmB k)] rfl rfl (by decide) (by decide) ?_
      intro q11 H11 hq11 hs11 hb11 ha11
      (conv => whnf); refine app1 (x := nmB k) (st1.skip hq11 ha11) 2 sl257 rfl hb11 ⟨rfl, nmB_max hk hkl⟩ rfl (by rw [List.length_map]; omega) (by decide) fun a12 c12 H12 st12 _ => ?_
      rw [show (F.map nmB).length + 1 = (F ++ [k]).length by simp, show F.map nmB ++ [nmB k] = (F ++ [k]).map nmB by simp] at st12
      rw [show (F.map nmB).length + 1 = (F ++ [k]).length by simp]
      (conv => whnf); refine VC.fa fl259_1 ?_
      (conv => whnf); refine st1B st12 0 ct257 rfl (show 1 < 3 by decide) rfl fun H13 st13 => ?_
      replace st13 : StB B H0 H13 (exS xb mb a12 c12 most (F ++ [k]) rest) := st13
      (conv => whnf); refine VC.fa fl259_1 ?_
      (conv => whnf); refine ld1 (v := .slice a12 (F ++ [k]).length c12) ct257 (by rw [(st13.blk 0 rfl).cell]; rfl) trivial ?_
      have w1 : IntKind.wrap .i64 (((F ++ [k]).length : Int) - 1) = (F.length : Int) := by
        rw [show (F ++ [k]).length = F.length + 1 by simp, w64 (by omega) (by omega)]; omega
      (conv => whnf); rw [w1]
      (conv => whnf)
      exact .inl ⟨F ++ [k], F.length, a12, c12, rfl, by unfold atF; rw [hf]; simp only; rw [if_pos hlt], st13⟩
    · have d1 : decide ((most : Int) ≤ (F.length : Int)) = true := decide_eq_true (by omega)
      (conv => whnf); rw [d1]
      (conv => whnf)
      exact .inr ⟨rfl, by unfold atF; rw [hf]; simp only; rw [if_neg hlt], st⟩
end
end Go.Proofs.YtfbghcpdinlmcaaGreatDoor
/- The document's book of sets: find and add: the walks. -/
set_option linter.unusedVariables false
set_option linter.unusedSimpArgs false
set_option maxRecDepth 100000
namespace Go.Proofs.YtfbghcpdinlmcaaGreatDoor
open Go.VC
section
variable {B : Nat → Prop} {H0 H : Heap} {rest : List Pc} {b sc lc : Nat} {sa la : Option Addr} {vs : List Value} {S : Nat → Prop} {F : List (List Int)} {l : List Int}
end
end Go.Proofs.YtfbghcpdinlmcaaGreatDoor
/- The document's book of sets: add: the walk. -/
set_option linter.unusedVariables false
set_option linter.unusedSimpArgs false
set_option maxRecDepth 100000
namespace Go.Proofs.YtfbghcpdinlmcaaGreatDoor
open Go.VC
section
variable {B : Nat → Prop} {H0 H : Heap} {rest : List Pc} {b sc lc : Nat} {sa la : Option Addr} {vs : List Value} {S : Nat → Prop} {F : List (List Int)} {l : List Int}
end
end Go.Proofs.YtfbghcpdinlmcaaGreatDoor
/- Explore over sets of states: the walk. -/
set_option linter.unusedVariables false
set_option linter.unusedSimpArgs false
set_option maxRecDepth 100000
namespace Go.Proofs.YtfbghcpdinlmcaaGreatDoor
open Go.VC
def HasF (a : NfM) (F : List (List Int)) : Prop := ∀ l ∈ F, (∀ q ∈ l, a.has q = true) ∧ l.length ≤ 65536
theorem HasF.rng {a : NfM} {F : List (List Int)} (h : HasF a F) : RngF F := fun l hl => ⟨fun q hq => by have := NfM.has_iff.1 ((h l hl).1 q hq); omega, (h l hl).2⟩
theorem stepA_len {a : NfM} {l : List Int} {b : Nat} : (stepA a l b).length ≤ 65536 := lstS_len _
theorem atF_mem {most : Nat} {F F' : List (List Int)} {k : List Int} {i : Nat} (h : atF most F k = some (F', i)) : ∀ x ∈ F', x ∈ F ∨ x = k := by
  intro x hx
  unfold atF at h
  split at h
  · injection h with h; injection h with h1 h2; subst h1; exact .inl hx
  · split at h
    · injection h with h; injection h with h1 h2; subst h1
      rcases List.mem_append.1 hx with hx | hx
      · exact .inl hx
      · rw [List.mem_singleton] at hx; exact .inr hx
    · cases h
theorem atF_len {most : Nat} {F F' : List (List Int)} {k : List Int} {i : Nat} (h : atF most F k = some (F', i)) (hl : F.length ≤ most) : F'.length ≤ most ∧ i < most := by
  unfold atF at h
  split at h
  · rename_i j hj
    injection h with h; injection h with h1 h2; subst h1; subst h2
    have := (List.findIdx?_eq_some_iff_getElem.1 hj).1
    omega
  · split at h
    · injection h with h; injection h with h1 h2; subst h1; subst h2
      simp only [List.length_append, List.length_cons, List.length_nil]; omega
    · cases h
theorem HasF.at_ {a : NfM} {most : Nat} {F F' : List (List Int)} {x : List Int} {b i : Nat} (h : HasF a F) (hx : atF most F (stepA a x b) = some (F', i)) : HasF a F' := fun l hl => by
  rcases atF_mem hx l hl with h1 | rfl
  · exact h l h1
  · exact ⟨stepA_rng, stepA_len⟩
def rowI (r : List Nat) : List Int := r.map fun (x : Nat) => (x : Int)
def bsOf (cs : List (BitVec 256)) : List Nat := cs.map fun c => (nextM c 0).1
theorem bsOf_get {cs : List (BitVec 256)} {j : Nat} {c : BitVec 256} (h : cs[j]? = some c) : (bsOf cs)[j]? = some (nextM c 0).1 := by
  unfold bsOf
  rw [List.getElem?_map, h]
  rfl
/-- What Explore answers. -/
noncomputable def ExpR (a : NfM) (most : Nat) (cs : List (BitVec 256)) (l0 : List Int) (H H' : Heap) (r : Value) : Prop := Agr (Old H) H H' ∧
  match detF most (stepA a) (bsOf cs) l0 with
  | none => r = .tuple #[.pointer none, .bool false]
  | some (F, rows) => ∃ v, r = .tuple #[v, .bool true] ∧ AutoV (fun k => H.size ≤ k ∧ k < H'.size) H' v (if soundB cs (rows.map rowI) F.length then some (madeM cs (rows.map rowI) (F.map fun l => decide (a.fin ∈ l))) else none)
set_option maxHeartbeats 16000000 in
theorem explore_c {S : Nat → Prop} {H : Heap} {a : NfM} {nv sv : Value} {wb pb : Nat} {ca : Option Addr} {cc most : Nat} {cs : List (BitVec 256)} {l0 : List Int} (hS : ∀ k, S k → k < H.size) (hwb : S wb) (hwc : Cells H wb 0 [nv]) (hnv : NetV S H nv a) (hpb : S pb) (hpc : Cells H pb 0 (nfL a sv)) (hel : a.edges.length ≤ 1048576) (hpow : PowH Tryz.prog H)
    (hcs : SlD tSet S H ca cc cs) (hcl : cs.length ≤ 256) (hl0 : ∀ q ∈ l0, a.has q = true) (hl0l : l0.length ≤ 65536) (hm1 : 1 ≤ most) (hm : most ≤ 4096) :
    FnOk Tryz.prog 95 #[.string (nmB l0), .slice ca cs.length cc, .func (.func 90) #[] #[.pointer (some ⟨wb, 0, none⟩)], .func (.func 93) #[] #[.pointer (some ⟨pb, 0, none⟩)], .int .i64 (most : Int)] H fun r H' => ExpR a most cs l0 H H' r := by
  have hF0 : HasF a [l0] := fun l hl => by rw [List.mem_singleton] at hl; subst hl; exact ⟨hl0, hl0l⟩
  refine FnOk.of_vc Tryz.func95 rfl (Tryz.call95 _) ?_
  (conv => whnf); refine mmakeW (Ok := anyK) (enc := Value.string) fun mb H1 hb1 hs1 hm1' ha1 => ?_
  have st1 := (St.nil H).mapNewW hb1 hs1 hm1' ha1
  (conv => whnf); refine vbuildS Tryz.underlying259 rfl (.agg #[.map none, .slice none 0 0, .int .i64 0]) rfl (exL mb (.slice none 0 0) most) rfl ?_
  (conv => whnf); refine vbox (exL mb (.slice none 0 0) most) rfl ?_
  intro xb H2 hxb hs2 hb2 ha2
  have st2 : St H H2 (exS xb mb none 0 most [] []) := ((st1.box hxb hs2 hb2 ha2).nils tStr 9).pick [1, 0, 2] (by decide)
  have hat0 : atF most ([] : List (List Int)) l0 = some ([l0], 0) := by
    unfold atF
    rw [List.findIdx?_nil]
    simp only
    rw [if_pos (by simp only [List.length_nil]; omega)]
    rfl
  (conv => whnf); refine at5_v st2 (fun l hl => by cases hl) (fun q hq => (hF0.rng l0 (by simp)).1 q hq) hl0l hm (Nat.zero_le _) (fun F' i fa' fc' H3 h1 st3 => ?_) (fun H3 h1 _ => ?_)
  · rw [hat0] at h1
    injection h1 with h1
    injection h1 with h1 h2
    subst h1; subst h2
    have st4 : St H H3 (exS xb mb fa' fc' most [l0] [pN (tSl tIk) none_ 41 none 0 0 [], pS tBool 4 none 0 0 []]) := (st3.nils (tSl tIk) 41).nils tBool 4
    (conv => whnf)
    refine VLoop.mk [15, 16, 17] (fun x : Nat × List (List Int) × List (List Nat) × Option Addr × Nat × Option Addr × Nat => match x with | (i, F, rows, na, nc, ba, bc) => [.slice na i nc, .slice ba i bc, .int .i64 (i : Int)])
      (fun x H4 => match x with | (i, F, rows, na, nc, ba, bc) => i ≤ F.length ∧ F.length ≤ most ∧ HasF a F ∧ rows.length = i ∧ rowsF most (stepA a) (bsOf cs) l0 i = some (F, rows) ∧ ∃ Sx fa fc, St H H4 (exS xb mb fa fc most F [pN (tSl tIk) Sx 41 na i nc (rows.map rowI), pS tBool 4 ba i bc ((F.take i).map fun l => decide (a.fin ∈ l))])) (fun x _ => most - x.1) ?_ ?_
    · (conv => whnf)
      exact ⟨(0, [l0], [], none, 0, none, 0), rfl, Nat.zero_le _, by simp only [List.length_cons, List.length_nil]; omega, hF0, rfl, rfl, none_, fa', fc', st4⟩
    · rintro ⟨i, F, rows, na, nc, ba, bc⟩ H4 junk4 ⟨hiF, hFm, hHF, hrl, hrun, Sx, fa, fc, st5⟩
      have hb5 := st5.blk 0 rfl
      (conv => whnf); refine VC.fa fl259_1 ?_
      (conv => whnf); refine ld1 (v := .slice fa F.length fc) ct257 (by rw [hb5.cell]; rfl) trivial ?_
      (conv => whnf); refine VIte.mk (fun hz => ?_) (fun hz => ?_) <;> simp only [decide_eq_true_eq, decide_eq_false_iff_not] at hz
      · obtain ⟨x, hx⟩ := get_some (l := F) (k := i) (by omega)
        obtain ⟨hxh, hxl⟩ := hHF x (List.mem_of_getElem? hx)
        have hnext : rowsF most (stepA a) (bsOf cs) l0 (i + 1) = ((bsOf cs).foldl (rowF most (stepA a) x) (some (F, []))).map fun r => (r.1, rows ++ [r.2]) := by
          show (rowsF most (stepA a) (bsOf cs) l0 i).bind _ = _
          rw [hrun]
          simp only [Option.bind_some, hx]
        (conv => whnf); refine vmake1 sl41 rfl (by omega) (by omega) (by omega) (by omega) ?_
        intro rb H6 hrb hs6 hb6 ha6
        rw [Int.toNat_natCast] at hb6
        rw [Int.toNat_natCast, show (0 : Int).toNat = 0 from rfl]
        have st6 := st5.newCap (T := tIk) (cap := cs.length) hrb hs6 hb6 ha6 (by simp [tInt]) (by unfold maxLen; omega)
        (conv => whnf)
        refine VLoop.mk [18, 51] (fun y : Nat × List (List Int) × List Nat × Option Addr × Nat => match y with | (j, F', row, ra, rc) => [.slice ra row.length rc, .int .i64 (j : Int)])
          (fun y H7 => match y with | (j, F', row, ra, rc) => j ≤ cs.length ∧ F'.length ≤ most ∧ HasF a F' ∧ F <+: F' ∧ row.length = j ∧ ((bsOf cs).take j).foldl (rowF most (stepA a) x) (some (F, [])) = some (F', row) ∧ ∃ fa fc, St H H7 (exS xb mb fa fc most F' [pN (tSl tIk) Sx 41 na i nc (rows.map rowI), pS tBool 4 ba i bc ((F.take i).map fun l => decide (a.fin ∈ l)), pS tIk 3 ra row.length rc (rowI row)])) (fun y _ => cs.length - y.1) ?_ ?_
        · (conv => whnf)
          exact ⟨(0, F, [], some ⟨rb, 0, none⟩, cs.length), rfl, Nat.zero_le _, hFm, hHF, List.prefix_refl _, rfl, rfl, fa, fc, st6⟩
        · rintro ⟨j, F', row, ra, rc⟩ H7 junk7 ⟨hj, hF'm, hHF', hpre, hrowl, hfold, fa7, fc7, st7⟩
          (conv => whnf); refine VIte.mk (fun hz2 => ?_) (fun hz2 => ?_) <;> simp only [decide_eq_true_eq, decide_eq_false_iff_not] at hz2
          · obtain ⟨c, hc⟩ := get_some (l := cs) (k := j) (by omega)
            have hbs := bsOf_get hc
            have hblt := nextM_lt c 0
            have hxF' := pre_get hpre hx
            (conv => whnf); refine ixr (i := j) sl106 (hcs.frame (st7.old.mono hS)) hc rfl ?_
            rintro b8 o8 cs8 hS8 hc8 rfl
            (conv => whnf); refine ldN (cs := setL c) ag101 hc8 trivial ?_
            (conv => whnf); refine valloc (setV 0) (setL 0) rfl rfl ?_
            intro sx H8 hsx hs8 hb8 ha8
            have st8 := st7.box hsx hs8 hb8 ha8
            (conv => whnf); refine stNB (cs := setL c) st8 6 rfl rfl (Nat.le_refl _) rfl fun H9 st9 => ?_
            rw [splice_all (show (setL c).length = (setL 0).length from rfl)] at st9
            (conv => whnf); refine ldN (cs := setL c) ag101 ((st9.blk 6 rfl).cells fun j v hv => by rw [Nat.zero_add]; exact hv) trivial ?_
            (conv => whnf); refine pures (next_p c 0 (by decide) H9) fun H10 ha10 => ?_
            have st10 := st9.call ha10
            have hb10 := st10.blk 0 rfl
            (conv => whnf); refine VC.fa fl259_1 ?_
            (conv => whnf); refine ld1 (v := .slice fa7 F'.length fc7) ct257 (by rw [hb10.cell]; rfl) trivial ?_
            have hview := st10.view 2 rfl
            have hgx : (F'.map nmB)[i]? = some (nmB x) := by rw [List.getElem?_map, hxF']; rfl
            (conv => whnf); refine ixrn (i := i) sl257 hview (List.length_map _).symm hgx rfl ?_
            rintro b11 o11 c11 hS11 hc11 ⟨rfl, -⟩
            (conv => whnf); refine ld1 ct9 hc11.one trivial ?_
            have up10 : ∀ k, S k → k < H10.size := fun k hk => st10.up (hS k hk)
            (conv => whnf); refine VCall.mk (step5_c (S := S) up10 hwb (hwc.eq (st10.old wb (hS wb hwb))) (hnv.frame (st10.old.mono hS)) hel hxh hxl hblt (hpow.agr st10.old)) ?_
            rintro _ H11 ⟨rfl, ha11⟩
            have st11 := st10.call ha11
            replace st11 : St H H11 (exS xb mb fa7 fc7 most F' [pN (tSl tIk) Sx 41 na i nc (rows.map rowI), pS tBool 4 ba i bc ((F.take i).map fun l => decide (a.fin ∈ l)), pS tIk 3 ra row.length rc (rowI row)]) := st11.pick [0, 1, 2, 3, 4, 5] (by decide)
            have hstep : ((bsOf cs).take (j + 1)).foldl (rowF most (stepA a) x) (some (F, [])) = (atF most F' (stepA a x (nextM c 0).1)).map fun r => (r.1, row ++ [r.2]) := by
              rw [take_succ_snoc hbs, List.foldl_append, hfold]
              rfl
            (conv => whnf); refine at5_v st11 hHF'.rng (fun q hq => by have := NfM.has_iff.1 (stepA_rng q hq); omega) stepA_len hm hF'm (fun F2 t fa12 fc12 H12 h12 st12 => ?_) (fun H12 h12 st12 => ?_)
            · obtain ⟨hl2, htm⟩ := atF_len h12 hF'm
              rw [h12] at hstep
              (conv => whnf); refine vbuild1 sl41 [.int .i64 (t : Int)] rfl rfl (by decide) (by decide) ?_
              intro q13 H13 hq13 hs13 hb13 ha13
              (conv => whnf); refine app1 (x := (t : Int)) (st12.skip hq13 ha13) 5 sl41 rfl hb13 ⟨rfl, kint ⟨by omega, by omega⟩⟩ rfl (by unfold rowI; rw [List.length_map]; omega) (by decide) fun a14 c14 H14 st14 _ => ?_
              have e1 : (rowI row).length + 1 = (row ++ [t]).length := by unfold rowI; simp
              have e2 : rowI row ++ [(t : Int)] = rowI (row ++ [t]) := by unfold rowI; simp
              rw [e1, e2] at st14
              rw [e1]
              (conv => whnf); rw [w64 (x := (j : Int) + 1) (by omega) (by omega)]
              exact ⟨rfl, (j + 1, F2, row ++ [t], a14, c14), by simp, ⟨by omega, hl2, hHF'.at_ h12, hpre.trans (by
                unfold atF at h12
                split at h12
                · injection h12 with h; injection h with h1 h2; subst h1; exact List.prefix_refl _
                · split at h12
                  · injection h12 with h; injection h with h1 h2; subst h1; exact List.prefix_append _ _
                  · cases h12), by simp [hrowl], hstep, fa12, fc12, st14⟩, by simp only; omega⟩
            · rw [h12] at hstep
              have hnone : (bsOf cs).foldl (rowF most (stepA a) x) (some (F, [])) = none := by
                have h3 := (List.take_append_drop (j + 1) (bsOf cs)).symm
                rw [h3, List.foldl_append, hstep]
                exact rowF_none x _
              have hdet : detF most (stepA a) (bsOf cs) l0 = none := detF_none (n := i) (by rw [hnext, hnone]; rfl) (by omega)
              (conv => whnf)
              refine ⟨st12.old, ?_⟩
              rw [hdet]
          · obtain rfl : j = cs.length := by omega
            have hfull : (bsOf cs).foldl (rowF most (stepA a) x) (some (F, [])) = some (F', row) := by
              rw [← hfold, List.take_of_length_le (by unfold bsOf; rw [List.length_map]; exact Nat.le_refl _)]
            rw [hfull] at hnext
            simp only [Option.map_some] at hnext
            have hxF' := pre_get hpre hx
            have hri : (rowI row).length = row.length := by unfold rowI; rw [List.length_map]
            have hrl2 : (rows.map rowI).length = i := by rw [List.length_map]; exact hrl
            have hend : ((F'.take (i + 1)).map fun l => decide (a.fin ∈ l)) = ((F.take i).map fun l => decide (a.fin ∈ l)) ++ [decide (a.fin ∈ x)] := by
              obtain ⟨t, rfl⟩ := hpre
              rw [List.take_append_of_le_length (by omega), take_succ_snoc hx, List.map_append]
              rfl
            have hel7 : ((F.take i).map fun l => decide (a.fin ∈ l)).length = i := by rw [List.length_map, List.length_take]; omega
            obtain ⟨ra', rc', er, hrow7, -⟩ := (st7.at_ 5 rfl).1.view (S' := slB (.slice ra row.length rc)) (fun b hb => hb) (fun b hb => hb.elim)
            injection er with er1 er2 er3
            subst er1; subst er3
            have st8 : St H H7 (pN (tSl tIk) (fun k => Sx k ∨ slB (.slice ra row.length rc) k) 41 na i nc (rows.map rowI) :: [pB tEx xb (exL mb (.slice fa7 F'.length fc7) most), pMW anyK Value.string mb (exM F'), pS tStr 9 fa7 F'.length fc7 (F'.map nmB), pS tBool 4 ba i bc ((F.take i).map fun l => decide (a.fin ∈ l))]) := StB.absorb (st7.pick [3, 5, 0, 1, 2, 4] (by decide))
            (conv => whnf); refine vbuild1 sl35 [.slice ra row.length rc] rfl rfl (by decide) (by decide) ?_
            intro q13 H13 hq13 hs13 hb13 ha13
            have st13 := st8.skip hq13 ha13
            have hrow13 : SlD tIk (fun k => Sx k ∨ slB (.slice ra row.length rc) k) H13 ra rc (rowI row) := (hrow7.frame (ha13.mono fun k hk => by
              have := (st7.in_ 5 rfl (.inl hk)).2
              omega)).mono fun k hk => .inr hk
            (conv => whnf); refine appNO (row := rowI row) st13 sl35 (hb13.cells fun j v hv => by rw [Nat.zero_add]; exact hv) ⟨ra, rc, by rw [hri], hrow13⟩ rfl (fun u hu => by cases List.mem_singleton.1 hu; rfl) (by rw [hrl2]; omega) (by decide) fun a14 c14 H14 st14 => ?_
            rw [hrl2] at st14 ⊢
            have hb14 := st14.blk 1 rfl
            (conv => whnf); refine VC.fa fl259_1 ?_
            (conv => whnf); refine ld1 (v := .slice fa7 F'.length fc7) ct257 (by rw [hb14.cell]; rfl) trivial ?_
            have hgx : (F'.map nmB)[i]? = some (nmB x) := by rw [List.getElem?_map, hxF']; rfl
            (conv => whnf); refine ixrn (i := i) sl257 (st14.view 3 rfl) (List.length_map _).symm hgx rfl ?_
            rintro b11 o11 c11 hS11 hc11 ⟨rfl, -⟩
            (conv => whnf); refine ld1 ct9 hc11.one trivial ?_
            have up14 : ∀ k, S k → k < H14.size := fun k hk => st14.up (hS k hk)
            (conv => whnf); refine pures (final5_p (S := S) up14 hpb (hpc.eq (st14.old pb (hS pb hpb))) (hHF.rng x (List.mem_of_getElem? hx)).1 hxl) fun H15 ha15 => ?_
            have st15 := st14.call ha15
            (conv => whnf); refine vbuild1 sl36 [.bool (decide (a.fin ∈ x))] rfl rfl (by decide) (by decide) ?_
            intro q16 H16 hq16 hs16 hb16 ha16
            (conv => whnf); refine app1 (x := decide (a.fin ∈ x)) (st15.skip hq16 ha16) 4 sl36 rfl hb16 rfl rfl (by rw [hel7]; omega) (by decide) fun a17 c17 H17 st17 _ => ?_
            rw [hel7, ← hend] at st17
            rw [hel7]
            (conv => whnf); rw [w64 (x := (i : Int) + 1) (by omega) (by omega)]
            refine ⟨rfl, (i + 1, F', rows ++ [row], a14, c14, a17, c17), by simp, ⟨?_, hF'm, hHF', by simp [hrl], hnext, (fun k => Sx k ∨ slB (.slice ra row.length rc) k), fa7, fc7, ?_⟩, by simp only; omega⟩
            · have := (List.getElem?_eq_some_iff.1 hxF').1
              omega
            · have e5 : rows.map rowI ++ [rowI row] = (rows ++ [row]).map rowI := by simp
              rw [e5] at st17
              exact st17.pick [1, 2, 3, 0, 4] (by decide)
      · obtain rfl : i = F.length := by omega
        rw [List.take_length] at st5
        have hrl2 : (rows.map rowI).length = F.length := by rw [List.length_map]; exact hrl
        have hdet := detF_done hrun rfl hFm
        have hnew := new_c ca na ba cc nc bc cs (rows.map rowI) (F.map fun l => decide (a.fin ∈ l)) (Old H4) H4 (fun k hk => hk) ((hcs.frame (st5.old.mono hS)).mono fun k hk => st5.up (hS k hk)) (st5.view 3 rfl) (st5.view 4 rfl)
        rw [hrl2, List.length_map] at hnew
        (conv => whnf); refine VCall.mk hnew ?_
        rintro v H6 ⟨ha6, hs6, hv6⟩
        have st6 := st5.call ha6
        (conv => whnf)
        refine ⟨st6.old, ?_⟩
        rw [hdet]
        exact ⟨v, rfl, hv6.mono fun k hk => ⟨Nat.le_trans (old_size st5.old) hk.1, hk.2⟩⟩
  · rw [hat0] at h1
    cases h1
end Go.Proofs.YtfbghcpdinlmcaaGreatDoor
/- dfa.Determinize: the walk. -/
set_option linter.unusedVariables false
set_option linter.unusedSimpArgs false
set_option maxRecDepth 100000
namespace Go.Proofs.YtfbghcpdinlmcaaGreatDoor
open Go.VC
theorem sum_set {β : Type} : ∀ (xs : List (List β)) (q : Nat) (row z : List β), xs[q]? = some row → ((xs.set q z).map List.length).sum + row.length = (xs.map List.length).sum + z.length
  | [], q, row, z, h => by simp at h
  | x :: xs, 0, row, z, h => by
    simp only [List.getElem?_cons_zero, Option.some.injEq] at h
    subst h
    simp only [List.set_cons_zero, List.map_cons, List.sum_cons]
    omega
  | x :: xs, q + 1, row, z, h => by
    rw [List.getElem?_cons_succ] at h
    have := sum_set xs q row z h
    simp only [List.set_cons_succ, List.map_cons, List.sum_cons]
    omega
theorem grp_far {β : Type} {n q : Nat} {key : EdM → Option (Nat × β)} {l : List EdM} {e : EdM} {y : β} (h : key e = some (q, y)) (hq : n ≤ q) : grp n key (l ++ [e]) = grp n key l := by
  unfold grp
  refine List.map_congr_left fun j hj => ?_
  rw [List.filterMap_append]
  have hjq : q ≠ j := by have := List.mem_range.1 hj; omega
  simp [h, hjq]
theorem grp_sum {β : Type} (n : Nat) (key : EdM → Option (Nat × β)) (l : List EdM) : ∀ k, k ≤ l.length → ((grp n key (l.take k)).map List.length).sum ≤ k := by
  intro k
  induction k with
  | zero =>
    intro _
    rw [List.take_zero, grp_nil, List.map_replicate]
    simp
  | succ k ih =>
    intro hk
    obtain ⟨e, he⟩ := get_some (l := l) (k := k) (by omega)
    have := ih (by omega)
    rw [take_succ_snoc he]
    cases hke : key e with
    | none => rw [grp_none hke]; omega
    | some p =>
      obtain ⟨q, y⟩ := p
      by_cases hq : q < n
      · obtain ⟨row, hrow⟩ := get_some (l := grp n key (l.take k)) (k := q) (by rw [grp_len]; exact hq)
        rw [grp_some hke hrow]
        have h2 := sum_set _ _ _ (row ++ [y]) hrow
        simp only [List.length_append, List.length_cons, List.length_nil] at h2
        omega
      · rw [grp_far hke (by omega)]; omega
/-- The sets that the ways take. -/
def setsA (a : NfM) : List (BitVec 256) := (takT a).flatMap fun r => r.map fun e => e.set
theorem flat_len {β γ : Type} (f : β → γ) : ∀ xs : List (List β), (xs.flatMap fun r => r.map f).length = (xs.map List.length).sum
  | [] => rfl
  | x :: xs => by rw [List.flatMap_cons, List.length_append, List.length_map, flat_len f xs, List.map_cons, List.sum_cons]
def setsTo (a : NfM) (i : Nat) : List (BitVec 256) := ((takT a).take i).flatMap fun r => r.map fun e => e.set
theorem setsTo_len (a : NfM) (i : Nat) : (setsTo a i).length ≤ a.edges.length := by
  unfold setsTo
  rw [flat_len]
  have h1 := grp_sum (nstA a) (keyT a) a.edges a.edges.length (Nat.le_refl _)
  rw [List.take_length] at h1
  have h2 : (((takT a).take i).map List.length).sum ≤ ((takT a).map List.length).sum := by
    conv => rhs; rw [← List.take_append_drop i (takT a)]
    rw [List.map_append, List.sum_append]
    omega
  unfold takT at h2 ⊢
  omega
/-- What Determinize answers, of a budget that may be. -/
noncomputable def DetR (a : NfM) (budget : Nat) (H H' : Heap) (r : Value) : Prop := Agr (Old H) H H' ∧
  match detF budget (stepA a) (repsM (setsA a)) (lstS (begS a)) with
  | none => r = .tuple #[.pointer none, .int .i64 40]
  | some (F, rows) => ∃ v, r = .tuple #[v, .int .i64 0] ∧ AutoV (fun k => H.size ≤ k ∧ k < H'.size) H' v (if soundB (atomsM (setsA a)) (rows.map rowI) F.length then some (madeM (atomsM (setsA a)) (rows.map rowI) (F.map fun l => decide (a.fin ∈ l))) else none)
set_option maxHeartbeats 16000000 in
theorem determinize_c {S : Nat → Prop} {H : Heap} {v : Value} {a : NfM} {budget : Nat} (hS : ∀ k, S k → k < H.size) (h : NfV S H v a) (hpow : PowH Tryz.prog H) (hb1 : 1 ≤ budget) (hb2 : budget ≤ 4096) :
    FnOk Tryz.prog 38 #[v, .int .i64 (budget : Int)] H fun r H' => DetR a budget H H' r := by
  have hr := h.1
  have hl := h.2.1
  have d1 : decide ((budget : Int) < 1) = false := decide_eq_false (by omega)
  have d2 : decide ((4096 : Int) < (budget : Int)) = false := decide_eq_false (by omega)
  have hnle := nstA_le a
  refine FnOk.of_vc Tryz.func38 rfl (Tryz.call38 _) ?_
  (conv => whnf); refine nf_box h fun ea ec he0 h1 => ?_
  subst he0
  intro p H1 hp hs1 hbb1 ha1
  have st1 := (St.nil H).box hp hs1 hbb1 ha1
  (conv => whnf); rw [d1]
  (conv => whnf); rw [d2]
  (conv => whnf); refine nf_load hr hl (st1.blk 0 rfl) ag76 trivial (h1.frame (st1.old.mono hS)) fun v2 hv2 => ?_
  (conv => whnf); refine VCall.mk (ready_c (fun k hk => st1.up (hS k hk)) hv2) ?_
  rintro nv H3 ⟨ha3, hnv⟩
  have st3 := st1.call ha3
  have hnv0 := hnv
  obtain ⟨nb, sa, sc, ta, tc, hne, hnb, hncells, hnsil, hntak⟩ := hnv
  subst hne
  (conv => whnf); refine valloc _ [.pointer none] rfl rfl ?_
  intro wb H4 hwb hs4 hb4 ha4
  have u4 : St H3 H4 [pB 168 wb [.pointer none]] := (St.nil H3).box hwb hs4 hb4 ha4
  (conv => whnf); refine st1B u4 0 ct168 rfl (show 0 < 1 by decide) rfl fun H5 u5 => ?_
  replace u5 : St H3 H5 [pB 168 wb [.pointer (some ⟨nb, 0, none⟩)]] := u5
  have u6 : St H3 H5 [pB 168 wb [.pointer (some ⟨nb, 0, none⟩)], pS tSet 101 none 0 0 []] := u5.nils tSet 101
  have htl : (takT a).length = nstA a := grp_len _ _ _
  have hT : ∀ i, (setsTo a i).length ≤ a.edges.length := fun i => setsTo_len a i
  (conv => whnf); refine ld1 (v := .pointer (some ⟨nb, 0, none⟩)) ct168 (by rw [(u6.blk 0 rfl).cell]; rfl) trivial ?_
  (conv => whnf); refine VC.fa fl172_1 ?_
  (conv => whnf); refine ld1 (v := .slice ta (nstA a) tc) ct170 ((hncells.eq (u6.old nb hnb)) 1 _ rfl) trivial ?_
  (conv => whnf)
  refine VLoop.mk [7, 30] (fun x : Nat × Option Addr × Nat => match x with | (i, a5, c5) => [.slice a5 (setsTo a i).length c5, .int .i64 (i : Int)])
    (fun x H6 => x.1 ≤ nstA a ∧ St H3 H6 [pB 168 wb [.pointer (some ⟨nb, 0, none⟩)], pS tSet 101 x.2.1 (setsTo a x.1).length x.2.2 (setsTo a x.1)]) (fun x _ => nstA a - x.1) ?_ ?_
  · (conv => whnf)
    exact ⟨(0, none, 0), rfl, Nat.zero_le _, u6⟩
  · rintro ⟨i, a5, c5⟩ H6 junk6 ⟨hi, u7⟩
    simp only at hi u7
    (conv => whnf); refine VIte.mk (fun hz => ?_) (fun hz => ?_) <;> simp only [decide_eq_true_eq, decide_eq_false_iff_not] at hz
    · obtain ⟨row, hrow⟩ := get_some (l := takT a) (k := i) (by omega)
      have hsucc : setsTo a (i + 1) = setsTo a i ++ row.map fun e => e.set := by
        unfold setsTo
        rw [take_succ_snoc hrow, List.flatMap_append]
        simp
      have hTi := hT (i + 1)
      rw [hsucc, List.length_append, List.length_map] at hTi
      (conv => whnf); refine ixrn (i := i) sl170 (hntak.frame u7.old) htl.symm hrow rfl ?_
      rintro b8 o8 c8 hS8 hc8 ⟨ra, rc, rfl, hrd2⟩
      have hrd : SlD tEd (Old H3) H6 ra rc row := hrd2
      (conv => whnf); refine ld1 ct74 hc8.one trivial ?_
      (conv => whnf)
      refine VLoop.mk [7, 36] (fun x : Nat × Option Addr × Nat => match x with | (j, a6, c6) => [.slice a6 (setsTo a i ++ (row.take j).map fun e => e.set).length c6, .int .i64 (j : Int)])
        (fun x H7 => x.1 ≤ row.length ∧ St H3 H7 [pB 168 wb [.pointer (some ⟨nb, 0, none⟩)], pS tSet 101 x.2.1 (setsTo a i ++ (row.take x.1).map fun e => e.set).length x.2.2 (setsTo a i ++ (row.take x.1).map fun e => e.set)]) (fun x _ => row.length - x.1) ?_ ?_
      · (conv => whnf)
        refine ⟨(0, a5, c5), by simp, Nat.zero_le _, ?_⟩
        simpa using u7
      · rintro ⟨j, a6, c6⟩ H7 junk7 ⟨hj, u8⟩
        simp only at hj u8
        have hrd7 : SlD tEd (Old H3) H7 ra rc row := htak_frame hrd u7 u8 (fun k hk => hk)
        (conv => whnf); refine VIte.mk (fun hz2 => ?_) (fun hz2 => ?_) <;> simp only [decide_eq_true_eq, decide_eq_false_iff_not] at hz2
        · obtain ⟨e, he⟩ := get_some (l := row) (k := j) (by omega)
          have hlen8 : (setsTo a i ++ (row.take j).map fun e => e.set).length ≤ 1048576 := by
            rw [List.length_append, List.length_map, List.length_take]; omega
          (conv => whnf); refine ixr (i := j) sl74 hrd7 he rfl ?_
          rintro b6 o6 c7 hS6 hc6 ⟨rfl, hok⟩
          (conv => whnf); refine ldN (cs := edL e) ag174 hc6 trivial ?_
          (conv => whnf); refine valloc _ [.int .i64 0, .int .i64 0, .bool false, .int .u64 0, .int .u64 0, .int .u64 0, .int .u64 0] edge_z rfl ?_
          intro x H8 hx hs8 hb8 ha8
          have u9 := u8.box hx hs8 hb8 ha8
          (conv => whnf); refine stNB (cs := edL e) u9 2 rfl rfl (Nat.le_refl _) rfl fun H9 u10 => ?_
          rw [splice_all (show (edL e).length = 7 from rfl)] at u10
          (conv => whnf); refine VC.fa fl174_3 ?_
          (conv => whnf); refine ldN (cs := setL e.set) ag101 ((u10.blk 2 rfl).cells fun j v hv => edL_set e j v hv) trivial ?_
          (conv => whnf); refine vbuild1 sl106 (setL e.set) rfl rfl (by decide) (by decide) ?_
          intro q11 H11 hq11 hs11 hb11 ha11
          (conv => whnf); refine appO (ys := [e.set]) (u10.skip hq11 ha11) 1 sl106 rfl (hb11.cells (o := 0) (cs := setL e.set) fun j v hv => by rw [Nat.zero_add]; exact hv) (Ty.reps_one rfl) rfl (fun u hu => List.all_eq_true.1 (show (setL e.set).all (·.oneCell') = true from rfl) u hu) (by simp only [List.length_cons, List.length_nil]; omega) (by decide) fun a12 c12 H12 u12 _ => ?_
          have e1 : (setsTo a i ++ (row.take j).map fun e => e.set) ++ [e.set] = setsTo a i ++ (row.take (j + 1)).map fun e => e.set := by rw [take_succ_snoc he]; simp
          have e2 : (setsTo a i ++ (row.take j).map fun e => e.set).length + [e.set].length = (setsTo a i ++ (row.take (j + 1)).map fun e => e.set).length := by rw [← e1]; exact List.length_append.symm
          rw [e1, e2] at u12
          rw [e2]
          (conv => whnf); rw [w64 (x := (j : Int) + 1) (by omega) (by omega)]
          exact ⟨rfl, (j + 1, a12, c12), by simp, ⟨by simp only; omega, u12.pick [0, 1] (by decide)⟩, by simp only; omega⟩
        · obtain rfl : j = row.length := by omega
          rw [List.take_length, ← hsucc] at u8
          rw [List.take_length, ← hsucc]
          (conv => whnf); rw [w64 (x := (i : Int) + 1) (by omega) (by omega)]
          exact ⟨rfl, (i + 1, a6, c6), by simp, ⟨by simp only; omega, u8⟩, by simp only; omega⟩
    · obtain rfl : i = nstA a := by omega
      have hall : setsTo a (nstA a) = setsA a := by unfold setsTo setsA; rw [← htl, List.take_length]
      have hTl := hT (nstA a)
      rw [hall] at u7 hTl
      rw [hall]
      have st7 : St H H6 [pB 76 p (nfL a (.slice ea a.edges.length ec))] := st3.call u7.old
      have hp7 := st7.blk 0 rfl
      have hw7 := u7.blk 0 rfl
      have hbeg : ∀ q ∈ lstS (begS a), a.has q = true := fun q hq => begS_has a q ((lstS_mem (has_rng (begS_has a)) q).1 hq)
      have hpow3 : PowH Tryz.prog H3 := hpow.agr st3.old
      have hnv6 : NetV (Old H6) H6 (.pointer (some ⟨nb, 0, none⟩)) a := (hnv0.frame u7.old).mono fun k hk => u7.up hk
      (conv => whnf)
      refine VSeq.cut (α := Unit) [12] (fun _ => [.string (nmB (lstS (begS a)))]) (fun _ H8 => Agr (Old H6) H6 H8) ?_ ?_
      · (conv => whnf); refine ld1 (v := .pointer (some ⟨nb, 0, none⟩)) ct168 (by rw [hw7.cell]; rfl) trivial ?_
        (conv => whnf); refine VC.fa fl76_1 ?_
        (conv => whnf); refine ld1 (v := .int .i64 a.start) ct3 (by rw [hp7.cell]; rfl) trivial ?_
        (conv => whnf); refine pures (nhas_p (hncells.eq (u7.old nb hnb))) fun H8 ha8 => ?_
        have st8 := st7.call ha8
        have u8 := u7.call ha8
        cases hst : a.has a.start with
        | false =>
          have e : lstS (begS a) = [] := by
            rw [lstS_uniq (X := begS a) (l := []) (has_rng (begS_has a)) List.Pairwise.nil fun q => ⟨fun h => (by cases h), fun h => by
              obtain ⟨r, ⟨-, h2⟩, -⟩ := h
              rw [hst] at h2; cases h2⟩]
          (conv => whnf)
          refine ⟨rfl, (), ?_, ha8⟩
          rw [e]
          rfl
        | true =>
          have hsr := NfM.has_iff.1 hst
          (conv => whnf); refine ld1 (v := .pointer (some ⟨nb, 0, none⟩)) ct168 (by rw [(u8.blk 0 rfl).cell]; rfl) trivial ?_
          (conv => whnf); refine VC.fa fl76_1 ?_
          (conv => whnf); refine ld1 (v := .int .i64 a.start) ct3 (by rw [(st8.blk 0 rfl).cell]; rfl) trivial ?_
          (conv => whnf); refine vbuild1 sl41 [.int .i64 a.start] rfl rfl (by decide) (by decide) ?_
          intro y H9 hy hs9 hb9 ha9
          have w9 : St H8 H9 [pS tIk 3 (some ⟨y, 0, none⟩) 1 1 [a.start]] := (St.nil H8).new (T := tIk) (n := 1) (xs := [a.start]) hy hs9 hb9 ha9 (Ty.reps_one ⟨rfl, kint ⟨hsr.1, by omega⟩⟩) rfl (by unfold maxLen; omega)
          (conv => whnf); refine VCall.mk (close_c (X := [a.start]) w9 (fun k hk => hk) ((hnv6.frame ha8).mono fun k hk => old_lt ha8 hk) (fun q hq => by rw [List.mem_singleton] at hq; subst hq; exact hst) (by simp only [List.length_cons, List.length_nil]; omega) hl (hpow3.agr (u8.old))) ?_
          rintro _ H10 ⟨rfl, ha10⟩
          have e : (fun q => q ∈ [a.start]) = fun q => q = a.start ∧ a.has a.start = true := funext fun q => propext (by simp [hst])
          (conv => whnf)
          refine ⟨rfl, (), ?_, ha8.trans (ha10.mono fun k hk => old_lt ha8 hk)⟩
          rw [e]
          rfl
      · rintro ⟨⟩ H8 junk8 ha8
        have st8 := st7.call ha8
        have u8 := u7.call ha8
        have hcs8 : SlD tSet (Old H8) H8 a5 c5 (setsA a) := u8.view 1 rfl
        (conv => whnf); refine VCall.mk (clsAtoms_c (fun k hk => hk) hcs8 (Nat.le_trans hTl hl)) ?_
        rintro _ H9 ⟨ha9, ca, cc, rfl, hat⟩
        have st9 := st8.call ha9
        have u9 := u8.call ha9
        have hnv9 : NetV (Old H9) H9 (.pointer (some ⟨nb, 0, none⟩)) a := (hnv0.frame u9.old).mono fun k hk => u9.up hk
        (conv => whnf); refine VCall.mk (explore_c (S := Old H9) (l0 := lstS (begS a)) (fun k hk => hk) (u9.in_ 0 rfl rfl).2 ((u9.blk 0 rfl).cells fun j v hv => by rw [Nat.zero_add]; exact hv) hnv9 (st9.in_ 0 rfl rfl).2 ((st9.blk 0 rfl).cells fun j v hv => by rw [Nat.zero_add]; exact hv) hl (hpow.agr st9.old) hat (reps_len _) hbeg (lstS_len _) hb1 hb2) ?_
        rintro r H10 ⟨ha10, hres⟩
        have st10 := st9.call ha10
        change match detF budget (stepA a) (repsM (setsA a)) (lstS (begS a)) with | none => _ | some (F, rows) => _ at hres
        cases hd : detF budget (stepA a) (repsM (setsA a)) (lstS (begS a)) with
        | none =>
          rw [hd] at hres
          simp only at hres
          subst hres
          (conv => whnf)
          refine ⟨st10.old, ?_⟩
          rw [hd]
        | some q =>
          obtain ⟨F, rows⟩ := q
          rw [hd] at hres
          obtain ⟨v, rfl, hv⟩ := hres
          (conv => whnf)
          refine ⟨st10.old, ?_⟩
          rw [hd]
          exact ⟨v, rfl, hv.mono fun k hk => ⟨Nat.le_trans (old_size st9.old) hk.1, hk.2⟩⟩
end Go.Proofs.YtfbghcpdinlmcaaGreatDoor
/- Copies of a table's parts: the laws' cells, the document's Rows. -/
set_option linter.unusedVariables false
set_option linter.unusedSimpArgs false
set_option maxRecDepth 100000
namespace Go.Proofs.YtfbghcpdinlmcaaGreatDoor
open Go.VC
attribute [local irreducible] mRun

theorem zero_set (S : Nat → Prop) (H : Heap) : tSet.rep S H ((Tryz.t101.zero.getD undef).cells.toList) 0#256 := by
  show _ = setL 0#256
  kernel_rfl
theorem rows_c (na : Option Addr) (nc : Nat) (next : List (List Int)) (S : Nat → Prop) (H : Heap) (hS : ∀ k, S k → k < H.size) (hc : SlD tRows S H na nc next) (hn : next.length ≤ 4194304) (hr : ∀ row ∈ next, row.length ≤ 4194304) :
    FnOk Tryz.prog 52 #[.slice na next.length nc] H fun v H' => Agr (Old H) H H' ∧ H.size ≤ H'.size ∧ ∃ b vs, v = .slice (some ⟨b, 0, none⟩) next.length next.length ∧ H.size ≤ b ∧
      Tab tI (fun _ => False) H' (b + 1) 3 b 41 vs next := by
  refine FnOk.of_vc Tryz.func52 rfl (Tryz.call52 _) ?_
  (conv => whnf); refine vmake1 sl35 rfl (by omega) (by omega) (by omega) (by omega) ?_
  intro nb H2 hnb hs2 hb2 ha2
  rw [Int.toNat_natCast] at hb2
  (conv => whnf)
  refine VLoop.mk [4] (fun k : Nat => [.int .i64 k]) (fun k H3 => k ≤ next.length ∧ Agr (fun j => j < H2.size ∧ j ≠ nb) H2 H3 ∧ H2.size ≤ H3.size ∧
    ∃ vs, Tab tI (fun _ => False) H3 (nb + 1) 3 nb 41 vs (next.take k ++ List.replicate (next.length - k) []) ∧ ∀ j, k ≤ j → j < next.length → vs[j]? = some (.slice none 0 0)) (fun k _ => next.length - k) ?_ ?_
  · (conv => whnf)
    refine ⟨0, rfl, by omega, Agr.refl _ _, by omega, List.replicate next.length (.slice none 0 0), ?_, fun j _ hj => by rw [List.getElem?_replicate, if_pos hj]⟩
    rw [fill_beg]
    exact Tab.new hb2 (by omega)
  · rintro k H3 junk ⟨hk, ha3, hs3, vs, htab, hvs⟩
    (conv => whnf); refine VIte.mk (fun h => ?_) (fun h => ?_) <;> simp only [decide_eq_true_eq, decide_eq_false_iff_not] at h
    · obtain ⟨row, hrow⟩ := get_some (l := next) (k := k) (by omega)
      have hrl := hr row (List.mem_of_getElem? hrow)
      have hv := hvs k (Nat.le_refl _) (by omega)
      have hA : Agr (Old H) H H3 := (ha2.mono fun j hj => by unfold Old at hj; omega).trans (ha3.mono fun j hj => by unfold Old at hj; omega)
      (conv => whnf); refine vbuild0 sl41 ?_
      intro q4 H4 hq4 hs4 hb4 ha4
      have hA4 := hA.trans (ha4.mono fun j hj => by unfold Old at hj; omega)
      (conv => whnf); refine ixr sl35 (hc.frame (hA4.mono hS)) hrow rfl ?_
      rintro b5 o5 cs5 hSb5 hcells5 ⟨ra, rc, rfl, hrow5⟩
      (conv => whnf); refine ld1 ct41 hcells5.one trivial ?_
      have hnb4 : nb < H4.size := by omega
      (conv => whnf); refine vappendD (T := tI) (S := fun j => j < H.size) (lo := nb + 1) (xs := []) sl41 (tInt_ones _) (SlO.empty (by omega) hb4) (by omega) (fun j hj => ⟨by omega, ?_⟩) (hrow5.mono hS) (by simp only [maxLen, List.length_nil]; omega) (by simp only [List.length_nil]; omega) ?_
      · rintro ⟨o, n, c, e⟩; cases e; omega
      intro v6 H6 hown6 ha6 hs6 hfresh6
      rw [List.nil_append] at hown6
      have htab4 := htab.agr ha4 (by omega) (fun b _ hb => by omega) (fun _ h => h.elim)
      have hq : ∀ j, slB (.slice (some ⟨q4, 0, none⟩) 0 0) j → j = q4 := by rintro j ⟨o, n, c, e⟩; cases e; rfl
      have hvl : k < vs.length := (List.getElem?_eq_some_iff.1 hv).1
      (conv => whnf); refine ix sl35 (by omega) (by omega) ?_
      (conv => whnf); refine st1 ct41 (htab4.blk.agr ha6 ⟨by omega, fun hb => by have := hq _ hb; omega⟩) (by simpa using hvl) hown6.one ?_
      intro H7 hb7 ha7 hs7
      rw [show 0 + (k : Int).toNat * 1 = k by omega] at hb7
      have h46 : Agr (fun j => j < H4.size ∧ j ≠ q4) H4 H6 := ha6.mono fun j hj => ⟨hj.1, fun hb => hj.2 (hq _ hb)⟩
      have h36 : Agr (fun j => j < H3.size ∧ ¬ slB (.slice none 0 0) j) H3 H6 := (ha4.mono fun j hj => by omega).trans (h46.mono fun j hj => by omega)
      have htab7 := htab.push hv (hown6.free (tInt_free _)) h36 (fun j hj => by
        rcases hfresh6 j hj with h | h
        · have := hq j h; omega
        · omega) hb7 ha7 (fun j hj => hj.elim)
      rw [fill_set hrow] at htab7
      (conv => whnf); rw [w64 (x := (k : Int) + 1) (by omega) (by omega)]
      refine ⟨rfl, k + 1, by simp, ⟨by omega, ?_, by omega, _, htab7, fun j hj1 hj2 => ?_⟩, by omega⟩
      · exact ((ha3.trans (ha4.mono fun j hj => by omega)).trans (h46.mono fun j hj => by omega)).trans (ha7.mono fun j hj => hj.2)
      · rw [List.getElem?_set_ne (by omega)]
        exact hvs j (by omega) hj2
    · obtain rfl : k = next.length := by omega
      rw [fill_end] at htab
      (conv => whnf)
      exact ⟨(ha2.mono fun j hj => by unfold Old at hj; omega).trans (ha3.mono fun j hj => by unfold Old at hj; omega), by omega, nb, vs, rfl, by omega, htab⟩

end Go.Proofs.YtfbghcpdinlmcaaGreatDoor
/- The document's sets, tables: From, Sets, Sound, Whole. -/
set_option linter.unusedVariables false
set_option linter.unusedSimpArgs false
set_option maxRecDepth 100000
namespace Go.Proofs.YtfbghcpdinlmcaaGreatDoor
open Go.VC
attribute [local irreducible] mRun

end Go.Proofs.YtfbghcpdinlmcaaGreatDoor

/- The document's Sets, Sound and Whole. -/
set_option linter.unusedVariables false
set_option linter.unusedSimpArgs false
set_option maxRecDepth 100000
namespace Go.Proofs.YtfbghcpdinlmcaaGreatDoor
open Go.VC
attribute [local irreducible] mRun

/-! ### the plain law -/
def cntTo (cells : List (BitVec 256)) (c b : Nat) : Nat := ((cells.take c).filter fun x => x.getLsbD b).length
def cnt (cells : List (BitVec 256)) (b : Nat) : Nat := (cells.filter fun x => x.getLsbD b).length
def ind (x : BitVec 256) (b : Nat) : Nat := if x.getLsbD b then 1 else 0
theorem cnt_cons (c : BitVec 256) (cs : List (BitVec 256)) (b : Nat) : cnt (c :: cs) b = ind c b + cnt cs b := by
  unfold cnt ind
  rw [List.filter_cons]
  split <;> simp <;> omega
theorem and_zero {a c : BitVec 256} : a &&& c = 0#256 ↔ ∀ b, b < 256 → ind a b + ind c b ≤ 1 := by
  constructor
  · intro h b hb
    have h1 : (a &&& c).getLsbD b = false := by rw [h]; simp
    rw [BitVec.getLsbD_and] at h1
    unfold ind
    cases ha : a.getLsbD b <;> cases hc : c.getLsbD b <;> simp_all
  · intro h
    apply BitVec.eq_of_getLsbD_eq
    intro b hb
    have h1 := h b hb
    rw [BitVec.getLsbD_and]
    unfold ind at h1
    cases ha : a.getLsbD b <;> cases hc : c.getLsbD b <;> simp_all
theorem ind_or {a c : BitVec 256} (h : a &&& c = 0#256) {b : Nat} (hb : b < 256) : ind (a ||| c) b = ind a b + ind c b := by
  have h1 := and_zero.1 h b hb
  unfold ind at h1 ⊢
  rw [BitVec.getLsbD_or]
  cases ha : a.getLsbD b <;> cases hc : c.getLsbD b <;> simp_all
theorem disjGo_some : ∀ (cs : List (BitVec 256)) (all : BitVec 256), (∃ x, disjGo all cs = some x) ↔ ∀ b, b < 256 → ind all b + cnt cs b ≤ 1
  | [], all => by
    simp only [disjGo, cnt, List.filter_nil, List.length_nil]
    refine ⟨fun _ b _ => ?_, fun _ => ⟨_, rfl⟩⟩
    unfold ind
    split <;> omega
  | c :: cs, all => by
    simp only [disjGo]
    split
    · rename_i h
      rw [disjGo_some cs (all ||| c)]
      constructor
      · intro h1 b hb
        have := h1 b hb
        rw [ind_or h hb] at this
        rw [cnt_cons]; omega
      · intro h1 b hb
        have := h1 b hb
        rw [cnt_cons] at this
        rw [ind_or h hb]; omega
    · rename_i h
      refine ⟨fun ⟨x, hx⟩ => (by cases hx), fun h1 => absurd (and_zero.2 fun b hb => ?_) h⟩
      have := h1 b hb
      rw [cnt_cons] at this
      omega
theorem cnt_pos {cs : List (BitVec 256)} {b : Nat} : (cs.any fun c => c.getLsbD b) = true ↔ 1 ≤ cnt cs b := by
  unfold cnt
  rw [List.any_eq_true]
  constructor
  · rintro ⟨x, hx, hb⟩
    exact List.length_pos_of_mem (List.mem_filter.2 ⟨hx, hb⟩)
  · intro h
    obtain ⟨x, hx⟩ := List.exists_mem_of_length_pos h
    exact ⟨x, (List.mem_filter.1 hx).1, (List.mem_filter.1 hx).2⟩
theorem soundB_iff {cells : List (BitVec 256)} {next : List (List Int)} {fl : Nat} : soundB cells next fl = true ↔ (1 ≤ next.length ∧ next.length ≤ 65536 ∧ next.length = fl) ∧ (∀ b, b < 256 → cnt cells b = 1) ∧ ∀ row ∈ next, rowOk next.length cells.length row = true := by
  have hz : ∀ b, ind 0#256 b = 0 := fun b => by simp [ind]
  constructor
  · intro h
    have hr := soundB_rows h
    unfold soundB at h
    split at h
    · cases h
    · rename_i all hall
      simp only [Bool.and_eq_true, beq_iff_eq, decide_eq_true_eq, List.all_eq_true] at h
      refine ⟨⟨hr.1, hr.2.1, hr.2.2.1⟩, fun b hb => ?_, h.2⟩
      have h1 := (disjGo_some cells 0#256).1 ⟨all, hall⟩ b hb
      rw [hz] at h1
      have h2 := disjGo_bits hall b
      rw [h.1.1.1.1, BitVec.getLsbD_allOnes] at h2
      simp only [hb, decide_true, BitVec.getLsbD_zero, Bool.false_or] at h2
      have h3 := cnt_pos.1 h2.symm
      omega
  · rintro ⟨⟨h1, h2, h3⟩, h4, h5⟩
    obtain ⟨all, hall⟩ := (disjGo_some cells 0#256).2 fun b hb => by rw [hz, h4 b hb]; omega
    unfold soundB
    rw [hall]
    simp only [Bool.and_eq_true, beq_iff_eq, decide_eq_true_eq, List.all_eq_true]
    refine ⟨⟨⟨⟨BitVec.eq_of_getLsbD_eq fun b hb => ?_, h1⟩, h2⟩, h3⟩, h5⟩
    rw [disjGo_bits hall b, BitVec.getLsbD_allOnes, cnt_pos.2 (by rw [h4 b hb]; omega)]
    simp [hb]
theorem cntTo_succ {cells : List (BitVec 256)} {c b : Nat} {x : BitVec 256} (h : cells[c]? = some x) : cntTo cells (c + 1) b = cntTo cells c b + ind x b := by
  unfold cntTo ind
  rw [take_succ_snoc h, List.filter_append]
  cases hx : x.getLsbD b <;> simp [hx]
theorem cntTo_all (cells : List (BitVec 256)) (b : Nat) : cntTo cells cells.length b = cnt cells b := by unfold cntTo cnt; rw [List.take_length]
theorem cntTo_le (cells : List (BitVec 256)) (c b : Nat) : cntTo cells c b ≤ c := Nat.le_trans (List.length_filter_le _ _) (by simp; omega)

/-! ### the walks -/
theorem slB_ : SlT Tryz.prog 117 157 tB.size 256 (Tryz.t157.zero.getD undef) := sl117
theorem zero_B (S : Nat → Prop) (H : Heap) : tB.rep S H ((Tryz.t157.zero.getD undef).cells.toList) 0#256 := by
  show _ = bitsL 0#256
  kernel_rfl
theorem sets_l (v1 v2 : Value) (ca : Option Addr) (cc : Nat) (cells : List (BitVec 256)) (S : Nat → Prop) (H : Heap) (hS : ∀ k, S k → k < H.size) (hc : SlD tSet S H ca cc cells) (hn : cells.length ≤ 4194304) :
    FnOk Tryz.prog 56 #[.agg #[.slice ca cells.length cc, v1, v2]] H fun v H' => Agr (Old H) H H' ∧ H.size ≤ H'.size ∧ ∃ b, v = .slice (some ⟨b, 0, none⟩) cells.length cells.length ∧ H.size ≤ b ∧
      SlO tB (fun _ => False) H' H.size 157 v cells := by
  refine FnOk.of_vc Tryz.func56 rfl (Tryz.call56 _) ?_
  (conv => whnf); refine vbox [.slice ca cells.length cc, v1, v2] rfl ?_
  intro pb H1 hpb hs1 hb1 ha1
  (conv => whnf); refine VC.fa fl38_0 ?_
  (conv => whnf); refine ld1 ct34 (by rw [hb1.cell]; rfl) trivial ?_
  (conv => whnf); refine vmakeT (T := tB) (v := 0#256) (S := fun _ => False) slB_ (zero_B _ _) (by omega) rfl (by omega) (by omega) ?_
  intro nb H2 hnb hs2 hb2 ha2
  rw [Int.toNat_natCast] at hb2
  (conv => whnf)
  refine VLoop.mk [4] (fun k : Nat => [.int .i64 k]) (fun k H3 => k ≤ cells.length ∧ Agr (fun j => j < H2.size ∧ j ≠ nb) H2 H3 ∧ H2.size ≤ H3.size ∧
    SlO tB (fun _ => False) H3 H.size 157 (.slice (some ⟨nb, 0, none⟩) cells.length cells.length) (cells.take k ++ List.replicate (cells.length - k) 0#256)) (fun k _ => cells.length - k) ?_ ?_
  · (conv => whnf)
    refine ⟨0, rfl, by omega, Agr.refl _ _, Nat.le_refl _, ?_⟩
    rw [fill_beg]
    exact SlO.made (by omega) hb2 (zero_B _ _) (by unfold maxLen; omega)
  · rintro k H3 junk ⟨hk, ha3, hs3, hown⟩
    have hb13 := (hb1.agr ha2 (show pb < nb by omega)).agr ha3 ⟨by omega, by omega⟩
    (conv => whnf); refine VC.fa fl38_0 ?_
    (conv => whnf); refine ld1 ct34 (by rw [hb13.cell]; rfl) trivial ?_
    (conv => whnf); refine VIte.mk (fun h => ?_) (fun h => ?_) <;> simp only [decide_eq_true_eq, decide_eq_false_iff_not] at h
    · obtain ⟨x, hx⟩ := get_some (l := cells) (k := k) (by omega)
      have hA : Agr (Old H) H H3 := ((ha1.mono fun j hj => by unfold Old at hj; omega).trans (ha2.mono fun j hj => by unfold Old at hj; omega)).trans (ha3.mono fun j hj => by unfold Old at hj; omega)
      (conv => whnf); refine VC.fa fl38_0 ?_
      (conv => whnf); refine ld1 ct34 (by rw [hb13.cell]; rfl) trivial ?_
      (conv => whnf); refine ixr sl34 (hc.frame (hA.mono hS)) hx rfl ?_
      rintro b4 o4 cs4 hSb4 hcells4 rfl
      (conv => whnf); refine ldN (cs := setL x) ag100 hcells4 trivial ?_
      (conv => whnf); refine pures (from_p x H3) fun H4 ha4 => ?_
      have hs4 := old_size ha4
      have hown4 := hown.agr ha4 (fun b hb => (hown.lt hb).2) (fun _ f => f.elim)
      obtain ⟨-, -, hlo5, l5, hblk5, hlen5, hget5, hput5⟩ := hown4.placeS (i := k) (by rw [fill_len hk]; omega)
      have hszB : tB.size = 256 := rfl
      (conv => whnf); refine ix slB_ (by omega) (by omega) ?_
      (conv => whnf); refine VC.stN (cs := bitsL x) (by rw [show (bitsL x).length = 256 from bitsTo_len _ _]; rfl) hblk5 (by rw [Nat.zero_add, Int.toNat_natCast, show (bitsL x).length = 256 from bitsTo_len _ _]; exact hlen5) (bits_ones x 256) ?_
      intro H6 hb6 ha6 hs6
      rw [Nat.zero_add, Int.toNat_natCast] at hb6
      have hown6 := hput5 H6 (bitsL x) x hb6 (fun j hj => hj.elim) rfl
      rw [fill_set hx] at hown6
      (conv => whnf); rw [w64 (x := (k : Int) + 1) (by omega) (by omega)]
      exact ⟨rfl, k + 1, by simp, ⟨by omega, (ha3.trans (ha4.mono fun j hj => by unfold Old; omega)).trans (ha6.mono fun j hj => hj.2), by omega, hown6⟩, by omega⟩
    · obtain rfl : k = cells.length := by omega
      rw [fill_end] at hown
      (conv => whnf)
      exact ⟨((ha1.mono fun j hj => by unfold Old at hj; omega).trans (ha2.mono fun j hj => by unfold Old at hj; omega)).trans (ha3.mono fun j hj => by unfold Old at hj; omega), by omega, nb, rfl, by omega, hown⟩

theorem rowOk_bad {n m : Nat} {row : List Int} {c : Nat} {t : Int} (h : row[c]? = some t) (ht : t < 0 ∨ (n : Int) ≤ t) : rowOk n m row = false := by
  cases hr : rowOk n m row with
  | false => rfl
  | true =>
    unfold rowOk at hr
    simp only [Bool.and_eq_true, List.all_eq_true, decide_eq_true_eq] at hr
    have := hr.2 t (List.mem_of_getElem? h)
    omega
set_option maxHeartbeats 4000000 in
theorem refsound_p (ca na fa : Option Addr) (cc nc fl fc : Nat) (cells : List (BitVec 256)) (next : List (List Int)) (S : Nat → Prop) (H : Heap) (hS : ∀ k, S k → k < H.size) (hc : SlD tB S H ca cc cells) (hn : SlD tRows S H na nc next) (hcn : cells.length ≤ 4194304) (hnn : next.length ≤ 4194304) (hfn : fl ≤ 4194304) :
    Pure Tryz.prog 118 #[.slice ca cells.length cc, .slice na next.length nc, .slice fa fl fc] H (.bool (soundB cells next fl)) := by
  have no : ∀ {p : Prop}, (soundB cells next fl = true → False) → soundB cells next fl = false := fun h => by
    cases hs : soundB cells next fl with
    | false => rfl
    | true => exact (h hs).elim
  refine FnOk.of_vc Tryz.func118 rfl (Tryz.call118 _) ?_
  by_cases e1 : next.length < 1
  · have d1 : decide ((next.length : Int) < 1) = true := decide_eq_true (by omega)
    (conv => whnf); rw [d1]
    (conv => whnf)
    exact ⟨by rw [no (p := True) fun h => by have := (soundB_iff.1 h).1; omega], Agr.refl _ _⟩
  have d1 : decide ((next.length : Int) < 1) = false := decide_eq_false (by omega)
  by_cases e2 : 65536 < next.length
  · have d2 : decide ((65536 : Int) < (next.length : Int)) = true := decide_eq_true (by omega)
    (conv => whnf); rw [d1]
    (conv => whnf); rw [d2]
    (conv => whnf)
    exact ⟨by rw [no (p := True) fun h => by have := (soundB_iff.1 h).1; omega], Agr.refl _ _⟩
  have d2 : decide ((65536 : Int) < (next.length : Int)) = false := decide_eq_false (by omega)
  by_cases e3 : next.length = fl
  · subst e3
    have d3 : ((next.length : Int) != (next.length : Int)) = false := by simp
    (conv => whnf); rw [d1]
    (conv => whnf); rw [d2]
    (conv => whnf); rw [d3]
    (conv => whnf)
    refine VLoop.mk [7] (fun b : Nat => [.int .i64 b]) (fun b H2 => b ≤ 256 ∧ H2 = H ∧ ∀ i, i < b → cnt cells i = 1) (fun b _ => 256 - b) ?_ ?_
    · (conv => whnf); exact ⟨0, rfl, by omega, rfl, fun i hi => by omega⟩
    · rintro b H2 junk ⟨hb, rfl, hcnt⟩
      (conv => whnf); refine VIte.mk (fun h => ?_) (fun h => ?_) <;> simp only [decide_eq_true_eq, decide_eq_false_iff_not] at h
      · (conv => whnf)
        refine VLoop.mk [8, 9] (fun c : Nat => [.int .i64 (cntTo cells c b : Nat), .int .i64 c]) (fun c H3 => c ≤ cells.length ∧ H3 = H2) (fun c _ => cells.length - c) ?_ ?_
        · (conv => whnf); exact ⟨0, by simp [cntTo], by omega, rfl⟩
        · rintro c H3 junk3 ⟨hcl, rfl⟩
          have hle := cntTo_le cells c b
          (conv => whnf); refine VIte.mk (fun h => ?_) (fun h => ?_) <;> simp only [decide_eq_true_eq, decide_eq_false_iff_not] at h
          · obtain ⟨x, hx⟩ := get_some (l := cells) (k := c) (by omega)
            (conv => whnf); refine VSeq.run ?_
            (conv => whnf); refine ixr slB_ hc hx rfl ?_
            rintro b4 o4 cs4 hSb4 hcells4 rfl
            (conv => whnf); refine ixa ar157 (by omega) (by omega) ?_
            (conv => whnf); refine ld1 (v := .bool (x.getLsbD b)) ct4 (by rw [show o4 + ((b : Nat) : Int).toNat * 1 = o4 + b by omega]; exact hcells4 b _ (bitsL_get x (by omega))) trivial ?_
            have hsucc := cntTo_succ (b := b) hx
            unfold ind at hsucc
            (conv => whnf); refine VIte.mk (fun hbit => ?_) (fun hbit => ?_)
            · rw [hbit, if_pos rfl] at hsucc
              (conv => whnf); rw [w64 (x := (cntTo cells c b : Int) + 1) (by omega) (by omega), w64 (x := (c : Int) + 1) (by omega) (by omega)]
              exact ⟨rfl, c + 1, by rw [hsucc]; simp, ⟨by omega, rfl⟩, by omega⟩
            · rw [hbit] at hsucc
              simp only [Bool.false_eq_true, if_false, Nat.add_zero] at hsucc
              (conv => whnf); rw [w64 (x := (c : Int) + 1) (by omega) (by omega)]
              exact ⟨rfl, c + 1, by rw [hsucc]; simp, ⟨by omega, rfl⟩, by omega⟩
          · obtain rfl : c = cells.length := by omega
            rw [cntTo_all] at *
            (conv => whnf); refine VIte.mk (fun h1 => ?_) (fun h1 => ?_)
            · (conv => whnf)
              have h1' : cnt cells b ≠ 1 := fun h => by rw [h] at h1; simp at h1
              exact ⟨by rw [no (p := True) fun h => h1' ((soundB_iff.1 h).2.1 b (by omega))], Agr.refl _ _⟩
            · have h1' : cnt cells b = 1 := by
                have : ((cnt cells b : Nat) : Int) = 1 := by simpa using h1
                omega
              (conv => whnf); rw [w64 (x := (b : Int) + 1) (by omega) (by omega)]
              refine ⟨rfl, b + 1, by simp, ⟨by omega, rfl, fun i hi => ?_⟩, by omega⟩
              by_cases hib : i = b
              · subst hib; exact h1'
              · exact hcnt i (by omega)
      · obtain rfl : b = 256 := by omega
        (conv => whnf)
        refine VLoop.mk [10] (fun q : Nat => [.int .i64 q]) (fun q H3 => q ≤ next.length ∧ H3 = H2 ∧ ∀ (i : Nat) row, i < q → next[i]? = some row → rowOk next.length cells.length row = true) (fun q _ => next.length - q) ?_ ?_
        · (conv => whnf); exact ⟨0, rfl, by omega, rfl, fun i row hi => by omega⟩
        · rintro q H3 junk3 ⟨hq, rfl, hrows⟩
          (conv => whnf); refine VIte.mk (fun h => ?_) (fun h => ?_) <;> simp only [decide_eq_true_eq, decide_eq_false_iff_not] at h
          · obtain ⟨row, hrow⟩ := get_some (l := next) (k := q) (by omega)
            (conv => whnf); refine ixr sl35 hn hrow rfl ?_
            rintro b4 o4 cs4 hSb4 hcells4 ⟨ra, rc, rfl, hr⟩
            (conv => whnf); refine ld1 ct41 hcells4.one trivial ?_
            (conv => whnf); refine VIte.mk (fun h1 => ?_) (fun h1 => ?_)
            · (conv => whnf)
              have h1' : row.length ≠ cells.length := fun h => by rw [h] at h1; simp at h1
              exact ⟨by rw [no (p := True) fun h => h1' (by have := (soundB_iff.1 h).2.2 row (List.mem_of_getElem? hrow); simp only [rowOk, Bool.and_eq_true, beq_iff_eq] at this; exact this.1)], Agr.refl _ _⟩
            · have h1' : row.length = cells.length := by
                have : (row.length : Int) = (cells.length : Int) := by simpa using h1
                omega
              (conv => whnf)
              refine VLoop.mk [11] (fun c : Nat => [.int .i64 c]) (fun c H4 => c ≤ cells.length ∧ H4 = H3 ∧ ∀ (i : Nat) t, i < c → row[i]? = some t → 0 ≤ t ∧ t < (next.length : Int)) (fun c _ => cells.length - c) ?_ ?_
              · (conv => whnf); exact ⟨0, rfl, by omega, rfl, fun i t hi => by omega⟩
              · rintro c H4 junk4 ⟨hcl, rfl, hts⟩
                (conv => whnf); refine VIte.mk (fun h => ?_) (fun h => ?_) <;> simp only [decide_eq_true_eq, decide_eq_false_iff_not] at h
                · obtain ⟨t, ht⟩ := get_some (l := row) (k := c) (by omega)
                  (conv => whnf); refine ixr sl35 hn hrow rfl ?_
                  rintro b5 o5 cs5 hSb5 hcells5 ⟨ra5, rc5, rfl, hr5⟩
                  (conv => whnf); refine ld1 ct41 hcells5.one trivial ?_
                  (conv => whnf); refine ixr sl41 hr5 ht rfl ?_
                  rintro b6 o6 cs6 hSb6 hcells6 ⟨rfl, -⟩
                  (conv => whnf); refine ld1 ct3 hcells6.one trivial ?_
                  by_cases hneg : t < 0
                  · have d4 : decide (t < 0) = true := decide_eq_true hneg
                    (conv => whnf); rw [d4]
                    (conv => whnf)
                    exact ⟨by rw [no (p := True) fun h => by have := (soundB_iff.1 h).2.2 row (List.mem_of_getElem? hrow); rw [rowOk_bad ht (.inl hneg)] at this; cases this], Agr.refl _ _⟩
                  · have d4 : decide (t < 0) = false := decide_eq_false hneg
                    (conv => whnf); rw [d4]
                    (conv => whnf); refine ixr sl35 hn hrow rfl ?_
                    rintro b7 o7 cs7 hSb7 hcells7 ⟨ra7, rc7, rfl, hr7⟩
                    (conv => whnf); refine ld1 ct41 hcells7.one trivial ?_
                    (conv => whnf); refine ixr sl41 hr7 ht rfl ?_
                    rintro b8 o8 cs8 hSb8 hcells8 ⟨rfl, -⟩
                    (conv => whnf); refine ld1 ct3 hcells8.one trivial ?_
                    (conv => whnf); refine VIte.mk (fun h2 => ?_) (fun h2 => ?_) <;> simp only [decide_eq_true_eq, decide_eq_false_iff_not] at h2
                    · (conv => whnf)
                      exact ⟨by rw [no (p := True) fun h => by have := (soundB_iff.1 h).2.2 row (List.mem_of_getElem? hrow); rw [rowOk_bad ht (.inr h2)] at this; cases this], Agr.refl _ _⟩
                    · (conv => whnf); rw [w64 (x := (c : Int) + 1) (by omega) (by omega)]
                      refine ⟨rfl, c + 1, by simp, ⟨by omega, rfl, fun i t' hi ht' => ?_⟩, by omega⟩
                      by_cases hic : i = c
                      · subst hic; rw [ht] at ht'; cases ht'; omega
                      · exact hts i t' (by omega) ht'
                · obtain rfl : c = cells.length := by omega
                  (conv => whnf); rw [w64 (x := (q : Int) + 1) (by omega) (by omega)]
                  refine ⟨rfl, q + 1, by simp, ⟨by omega, rfl, fun i row' hi hrow' => ?_⟩, by omega⟩
                  by_cases hiq : i = q
                  · subst hiq
                    rw [hrow] at hrow'; cases hrow'
                    simp only [rowOk, Bool.and_eq_true, beq_iff_eq, List.all_eq_true, decide_eq_true_eq]
                    refine ⟨h1', fun t ht => ?_⟩
                    obtain ⟨j, hj⟩ := List.getElem?_of_mem ht
                    exact hts j t (by have := (List.getElem?_eq_some_iff.1 hj).1; omega) hj
                  · exact hrows i row' (by omega) hrow'
          · obtain rfl : q = next.length := by omega
            (conv => whnf)
            refine ⟨?_, Agr.refl _ _⟩
            rw [soundB_iff.2 ⟨⟨by omega, by omega, rfl⟩, fun b hb => hcnt b hb, fun row hrow => ?_⟩]
            obtain ⟨j, hj⟩ := List.getElem?_of_mem hrow
            exact hrows j row (List.getElem?_eq_some_iff.1 hj).1 hj
  · have d3 : ((next.length : Int) != (fl : Int)) = true := by simp; omega
    (conv => whnf); rw [d1]
    (conv => whnf); rw [d2]
    (conv => whnf); rw [d3]
    (conv => whnf)
    exact ⟨by rw [no (p := True) fun h => by have := (soundB_iff.1 h).1; omega], Agr.refl _ _⟩

end Go.Proofs.YtfbghcpdinlmcaaGreatDoor

/- The document's Atoms. -/
set_option linter.unusedVariables false
set_option linter.unusedSimpArgs false
set_option maxRecDepth 100000
namespace Go.Proofs.YtfbghcpdinlmcaaGreatDoor
open Go.VC
attribute [local irreducible] mRun

theorem slF_ : SlT Tryz.prog 117 157 tF.size 256 (Tryz.t157.zero.getD undef) := sl117

/-! ### the plain run -/
def sigEq (cells : List (BitVec 256)) (a b : Nat) : Bool := cells.all fun c => c.getLsbD a == c.getLsbD b
/-- The least bytes of the atoms so far, the place of each byte so far. -/
def atRun (cells : List (BitVec 256)) : Nat → List Nat × List Nat
  | 0 => ([], [])
  | b + 1 => match (atRun cells b).1.findIdx? fun g => sigEq cells b g with
    | some k => ((atRun cells b).1, (atRun cells b).2 ++ [k])
    | none => ((atRun cells b).1 ++ [b], (atRun cells b).2 ++ [(atRun cells b).1.length])
def atSet (ps : List Nat) (k : Nat) (b : Nat) : Bool := ps[b]? == some k
def atSets (ps : List Nat) (n : Nat) : List (Nat → Bool) := (List.range n).map (atSet ps)
structure AtOk (cells : List (BitVec 256)) (b : Nat) (f ps : List Nat) : Prop where
  plen : ps.length = b
  flen : f.length ≤ b
  lt : ∀ p ∈ ps, p < f.length
  first : ∀ (k g : Nat), f[k]? = some g → g < b ∧ ps[g]? = some k
  sig : ∀ (i p g : Nat), ps[i]? = some p → f[p]? = some g → sigEq cells i g = true ∧ g ≤ i
theorem sigEq_refl (cells : List (BitVec 256)) (a : Nat) : sigEq cells a a = true := by simp [sigEq]
theorem atRun_ok (cells : List (BitVec 256)) : ∀ b, AtOk cells b (atRun cells b).1 (atRun cells b).2
  | 0 => ⟨rfl, Nat.le_refl _, (fun p h => by cases h), (fun k g h => by cases h), (fun i p g h => by cases h)⟩
  | b + 1 => by
    have ih := atRun_ok cells b
    unfold atRun
    split
    · rename_i k hk
      rw [List.findIdx?_eq_some_iff_getElem] at hk
      obtain ⟨hlt, hsig, _⟩ := hk
      refine ⟨by simp [ih.plen], by have := ih.flen; simp only; omega, fun p hp => ?_, fun k' g hg => ?_, fun i p g hi hg => ?_⟩
      · rcases List.mem_append.1 hp with h | h
        · exact ih.lt p h
        · rw [List.mem_singleton] at h; subst h; exact hlt
      · obtain ⟨h1, h2⟩ := ih.first k' g hg
        exact ⟨by omega, by simp only; rw [List.getElem?_append_left (by rw [ih.plen]; exact h1)]; exact h2⟩
      · simp only at hi hg
        by_cases hib : i < b
        · rw [List.getElem?_append_left (by rw [ih.plen]; exact hib)] at hi
          exact ih.sig i p g hi hg
        · rw [List.getElem?_append_right (by rw [ih.plen]; omega), ih.plen] at hi
          have hi0 : i - b = 0 := by
            have := (List.getElem?_eq_some_iff.1 hi).1
            simp only [List.length_singleton] at this
            omega
          rw [hi0, List.getElem?_cons_zero] at hi
          cases hi
          rw [List.getElem?_eq_getElem hlt] at hg
          cases hg
          have hib' : i = b := by omega
          subst hib'
          exact ⟨hsig, by have := (ih.first _ _ (List.getElem?_eq_getElem hlt)).1; omega⟩
    · rename_i hk
      refine ⟨by simp [ih.plen], by have := ih.flen; simp; omega, fun p hp => ?_, fun k' g hg => ?_, fun i p g hi hg => ?_⟩
      · simp only [List.length_append, List.length_singleton]
        rcases List.mem_append.1 hp with h | h
        · have := ih.lt p h; omega
        · rw [List.mem_singleton] at h; subst h; omega
      · simp only at hg ⊢
        by_cases hkl : k' < (atRun cells b).1.length
        · rw [List.getElem?_append_left hkl] at hg
          obtain ⟨h1, h2⟩ := ih.first k' g hg
          exact ⟨by omega, by rw [List.getElem?_append_left (by rw [ih.plen]; exact h1)]; exact h2⟩
        · rw [List.getElem?_append_right (by omega)] at hg
          have h0 := (List.getElem?_eq_some_iff.1 hg).1
          simp only [List.length_singleton] at h0
          rw [show k' - (atRun cells b).1.length = 0 by omega, List.getElem?_cons_zero] at hg
          cases hg
          exact ⟨by omega, by rw [List.getElem?_append_right (by rw [ih.plen]; omega), ih.plen, Nat.sub_self, List.getElem?_cons_zero]; congr 1; omega⟩
      · simp only at hi hg
        by_cases hib : i < b
        · rw [List.getElem?_append_left (by rw [ih.plen]; exact hib)] at hi
          have hp := ih.lt p (List.mem_of_getElem? hi)
          rw [List.getElem?_append_left hp] at hg
          exact ih.sig i p g hi hg
        · rw [List.getElem?_append_right (by rw [ih.plen]; omega), ih.plen] at hi
          have hi0 : i - b = 0 := by
            have := (List.getElem?_eq_some_iff.1 hi).1
            simp only [List.length_singleton] at this
            omega
          rw [hi0, List.getElem?_cons_zero] at hi
          cases hi
          rw [List.getElem?_append_right (Nat.le_refl _), Nat.sub_self, List.getElem?_cons_zero] at hg
          cases hg
          have hib' : i = b := by omega
          subst hib'
          exact ⟨sigEq_refl _ _, Nat.le_refl _⟩

def asI (l : List Nat) : List Int := l.map fun (n : Nat) => (n : Int)
theorem asI_get {l : List Nat} {i n : Nat} (h : l[i]? = some n) : (asI l)[i]? = some (n : Int) := by unfold asI; rw [List.getElem?_map, h]; rfl
theorem asI_len (l : List Nat) : (asI l).length = l.length := by simp [asI]
theorem atSets_len (ps : List Nat) (n : Nat) : (atSets ps n).length = n := by simp [atSets]
theorem atSets_get {ps : List Nat} {n k : Nat} (h : k < n) : (atSets ps n)[k]? = some (atSet ps k) := by unfold atSets; rw [List.getElem?_map, List.getElem?_range h]; rfl
/-- One byte more has its place. -/
theorem atSets_put {ps : List Nat} {n k : Nat} (hk : k < n) : (atSets ps n).set k (fun b => decide (b = ps.length) || atSet ps k b) = atSets (ps ++ [k]) n := by
  apply List.ext_getElem?
  intro i
  by_cases hi : i < n
  · rw [List.getElem?_set, atSets_len, atSets_get hi, atSets_get hi]
    have key : ∀ j, atSet (ps ++ [k]) j = fun b => (decide (b = ps.length) && decide (j = k)) || atSet ps j b := by
      intro j
      funext b
      unfold atSet
      rcases Nat.lt_trichotomy b ps.length with h | h | h
      · rw [List.getElem?_append_left h, decide_eq_false (by omega)]; simp
      · subst h
        rw [List.getElem?_append_right (Nat.le_refl _), Nat.sub_self, List.getElem?_cons_zero, List.getElem?_eq_none (Nat.le_refl _)]
        simp [eq_comm]
        by_cases h : k = j <;> simp [h]
      · rw [List.getElem?_eq_none (by simp; omega), List.getElem?_eq_none (by omega), decide_eq_false (by omega)]; simp
    rw [key]
    by_cases hik : k = i
    · subst hik; simp [hi]
    · rw [if_neg hik]
      have : (decide (i = k)) = false := decide_eq_false (Ne.symm hik)
      simp [this]
  · rw [List.getElem?_eq_none (by simp [atSets_len]; omega), List.getElem?_eq_none (by simp [atSets_len]; omega)]
theorem atSets_more (ps : List Nat) (n : Nat) (h : ∀ p ∈ ps, p < n) : atSets ps (n + 1) = atSets ps n ++ [fun _ => false] := by
  unfold atSets
  rw [List.range_succ, List.map_append]
  congr 1
  simp only [List.map_cons, List.map_nil, List.cons.injEq, and_true]
  funext b
  unfold atSet
  cases hb : ps[b]? with
  | none => rfl
  | some p => have := h p (List.mem_of_getElem? hb); simp; omega

end Go.Proofs.YtfbghcpdinlmcaaGreatDoor

/- The document's Atoms: the walk. -/
set_option linter.unusedVariables false
set_option linter.unusedSimpArgs false
set_option maxRecDepth 100000
namespace Go.Proofs.YtfbghcpdinlmcaaGreatDoor
open Go.VC
attribute [local irreducible] mRun

theorem splice_set {l c : List Value} {o b : Nat} {v : Value} (h : ∀ i, i < c.length → l[o + i]? = c[i]?) (hl : o + c.length ≤ l.length) (hb : b < c.length) : splice l o (c.set b v) = l.set (o + b) v := by
  apply List.ext_getElem?
  intro j
  rw [splice_get (by rw [List.length_set]; exact hl), List.length_set, List.getElem?_set (l := l)]
  by_cases hj : o ≤ j ∧ j < o + c.length
  · rw [if_pos hj, List.getElem?_set]
    by_cases hjb : o + b = j
    · rw [if_pos hjb, if_pos (by omega), if_pos (by omega), if_pos (by omega)]
    · rw [if_neg hjb, if_neg (by omega), ← h (j - o) (by omega), show o + (j - o) = j by omega]
  · rw [if_neg hj, if_neg (by omega)]
theorem SlO.byte {H : Heap} {lo : Nat} {e : TypeId} {v : Value} {xs : List (Nat → Bool)} {k b : Nat} {f : Nat → Bool} (h : SlO tF (fun _ => False) H lo e v xs) (hk : xs[k]? = some f) (hb : b < 256) :
    ∃ vb cap l, v = .slice (some ⟨vb, 0, none⟩) xs.length cap ∧ lo ≤ vb ∧ Blk H vb e l ∧ k * 256 + b < l.length ∧ ∀ H', Blk H' vb e (l.set (k * 256 + b) (.bool true)) → SlO tF (fun _ => False) H' lo e v (xs.set k fun i => decide (i = b) || f i) := by
  have hlt := (List.getElem?_eq_some_iff.1 hk).1
  obtain ⟨vb, cap, l, cs, e1, h1, h2, h3, h4, h5, h6⟩ := h.place hlt
  have hsz : tF.size = 256 := rfl
  rw [hsz] at h3 h4 h6
  obtain ⟨c, hc, rfl⟩ := h4 f hk
  refine ⟨vb, cap, l, e1, h1, h2, by omega, fun H' hb' => h6 H' (funL fun i => decide (i = b) || f i) _ ?_ (fun _ f => f.elim) rfl⟩
  rw [← funL_set f hb, splice_set (by
    intro i hi
    obtain ⟨u, hu⟩ := get_some hi
    have := hc i u hu
    rw [h2.cell] at this
    rw [this, hu]) (by rw [funL_len]; exact h3) (by rw [funL_len]; exact hb)]
  exact hb'

theorem atRun_some {cells : List (BitVec 256)} {b k : Nat} (h : (atRun cells b).1.findIdx? (fun g => sigEq cells b g) = some k) : atRun cells (b + 1) = ((atRun cells b).1, (atRun cells b).2 ++ [k]) := by
  rw [atRun, h]
theorem atRun_none {cells : List (BitVec 256)} {b : Nat} (h : (atRun cells b).1.findIdx? (fun g => sigEq cells b g) = none) : atRun cells (b + 1) = ((atRun cells b).1 ++ [b], (atRun cells b).2 ++ [(atRun cells b).1.length]) := by
  rw [atRun, h]
def fdI (cells : List (BitVec 256)) (b : Nat) (l : List Nat) : Int := match l.findIdx? fun g => sigEq cells b g with
  | some k => (k : Int)
  | none => -1
theorem fdI_none {cells : List (BitVec 256)} {b : Nat} {l : List Nat} : fdI cells b l < 0 ↔ (l.findIdx? fun g => sigEq cells b g) = none := by
  unfold fdI
  split
  · rename_i k h; rw [h]; simp
  · rename_i h; rw [h]; simp
theorem fdI_in {cells : List (BitVec 256)} {b : Nat} {l : List Nat} : -1 ≤ fdI cells b l ∧ fdI cells b l < l.length := by
  unfold fdI
  split
  · rename_i k h
    have := (List.findIdx?_eq_some_iff_getElem.1 h).1
    omega
  · omega
theorem fdI_snoc {cells : List (BitVec 256)} {b g : Nat} {l : List Nat} (h : fdI cells b l < 0) : fdI cells b (l ++ [g]) = if sigEq cells b g then (l.length : Int) else -1 := by
  have h1 := fdI_none.1 h
  unfold fdI
  rw [List.findIdx?_append, h1]
  simp only [List.findIdx?_singleton, Option.none_or]
  cases hs : sigEq cells b g <;> simp
theorem fdI_take {cells : List (BitVec 256)} {b k : Nat} {l : List Nat} (h : 0 ≤ fdI cells b (l.take k)) : fdI cells b l = fdI cells b (l.take k) := by
  have h1 : (l.take k).findIdx? (fun g => sigEq cells b g) ≠ none := fun h2 => by have := fdI_none.2 h2; omega
  cases h2 : (l.take k).findIdx? (fun g => sigEq cells b g) with
  | none => exact absurd h2 h1
  | some k0 =>
    have h3 : l.findIdx? (fun g => sigEq cells b g) = some k0 := by
      conv => lhs; rw [← List.take_append_drop k l]
      rw [List.findIdx?_append, h2]; rfl
    unfold fdI
    rw [h2, h3]
def alikeTo (cells : List (BitVec 256)) (b g j : Nat) : Bool := (cells.take j).all fun c => c.getLsbD b == c.getLsbD g
theorem alikeTo_succ {cells : List (BitVec 256)} {b g j : Nat} {c : BitVec 256} (h : cells[j]? = some c) : alikeTo cells b g (j + 1) = (alikeTo cells b g j && (c.getLsbD b == c.getLsbD g)) := by
  unfold alikeTo
  rw [take_succ_snoc h, List.all_append]; simp
theorem alikeTo_all (cells : List (BitVec 256)) (b g : Nat) : alikeTo cells b g cells.length = sigEq cells b g := by unfold alikeTo sigEq; rw [List.take_length]
theorem alikeTo_no {cells : List (BitVec 256)} {b g j : Nat} (h : alikeTo cells b g j = false) : sigEq cells b g = false := by
  unfold alikeTo at h
  unfold sigEq
  rw [← List.take_append_drop j cells, List.all_append, h]; rfl

set_option maxHeartbeats 4000000 in
theorem atoms_c (ca : Option Addr) (cc : Nat) (cells : List (BitVec 256)) (S : Nat → Prop) (H : Heap) (hS : ∀ k, S k → k < H.size) (hc : SlD tB S H ca cc cells) (hn : cells.length ≤ 4194304) :
    FnOk Tryz.prog 123 #[.slice ca cells.length cc] H fun v H' => Agr (Old H) H H' ∧ H.size ≤ H'.size ∧ ∃ a cap, v = .slice a (atRun cells 256).1.length cap ∧
      SlD tF (Fresh H H') H' a cap (atSets (atRun cells 256).2 (atRun cells 256).1.length) := by
  refine FnOk.of_vc Tryz.func123 rfl (Tryz.call123 _) ?_
  (conv => whnf)
  refine VLoop.mk [3, 4, 5] (fun x : Nat × Value × Value => match x with | (b, vo, vf) => [vo, vf, .int .i64 b]) (fun x H2 => x.1 ≤ 256 ∧ Agr (Old H) H H2 ∧ H.size ≤ H2.size ∧
    SlO tF (fun _ => False) H2 H.size 157 x.2.1 (atSets (atRun cells x.1).2 (atRun cells x.1).1.length) ∧ SlO tI (fun _ => False) H2 H.size 3 x.2.2 (asI (atRun cells x.1).1) ∧ ∀ j, slB x.2.1 j → ¬ slB x.2.2 j) (fun x _ => 256 - x.1) ?_ ?_
  · (conv => whnf)
    exact ⟨(0, .slice none 0 0, .slice none 0 0), rfl, by simp, Agr.refl _ _, Nat.le_refl _, SlO.nil, SlO.nil, fun j hj => by obtain ⟨o, n, c, h⟩ := hj; cases h⟩
  · rintro ⟨b, vo, vf⟩ H2 junk ⟨hb, ha2, hs2, ho, hf, hap⟩
    simp only at hb ho hf hap
    have hok := atRun_ok cells b
    have hfl := hok.flen
    obtain ⟨fa, fcap, rfl, hfv, -⟩ := hf.view (S' := Old H2) (fun j hj => (hf.lt hj).2) (fun _ f => f.elim)
    obtain ⟨oa, ocap, rfl, hov, -⟩ := ho.view (S' := Old H2) (fun j hj => (ho.lt hj).2) (fun _ f => f.elim)
    rw [asI_len, atSets_len] at *
    have hcS := hc.frame (ha2.mono hS)
    (conv => whnf); refine VIte.mk (fun h => ?_) (fun h => ?_) <;> simp only [decide_eq_true_eq, decide_eq_false_iff_not] at h
    · (conv => whnf)
      refine VLoop.mk [6, 7] (fun k : Nat => [.int .i64 (fdI cells b ((atRun cells b).1.take k)), .int .i64 k]) (fun k H3 => k ≤ (atRun cells b).1.length ∧ H3 = H2) (fun k _ => (atRun cells b).1.length - k) ?_ ?_
      · (conv => whnf); exact ⟨0, rfl, by omega, rfl⟩
      · rintro k H3 junk3 ⟨hk, rfl⟩
        by_cases hkl : k < (atRun cells b).1.length
        · have d1 : decide ((k : Int) < ((atRun cells b).1.length : Int)) = true := decide_eq_true (by omega)
          (conv => whnf); rw [d1]
          (conv => whnf); refine VIte.mk (fun h1 => ?_) (fun h1 => ?_) <;> simp only [decide_eq_true_eq, decide_eq_false_iff_not] at h1
          · obtain ⟨g, hg⟩ := get_some hkl
            have hgb := (hok.first k g hg).1
            (conv => whnf); refine VSeq.run ?_
            (conv => whnf)
            refine VLoop.mk [8, 9] (fun j : Nat => [.bool (alikeTo cells b g j), .int .i64 j]) (fun j H4 => j ≤ cells.length ∧ H4 = H3) (fun j _ => cells.length - j) ?_ ?_
            · (conv => whnf); exact ⟨0, rfl, by omega, rfl⟩
            · rintro j H4 junk4 ⟨hj, rfl⟩
              -- behind the inner loop
              by_cases hjl : j < cells.length
              · have d2 : decide ((j : Int) < (cells.length : Int)) = true := decide_eq_true (by omega)
                cases hal : alikeTo cells b g j with
                | true =>
                  obtain ⟨x, hx⟩ := get_some hjl
                  (conv => whnf); rw [d2]
                  (conv => whnf); refine VDraw.lex rfl (by kernel_rfl) ?_
                  (conv => whnf); refine ixr slB_ hcS hx rfl ?_
                  rintro b5 o5 cs5 hSb5 hcells5 rfl
                  (conv => whnf); refine ixa ar157 (by omega) (by omega) ?_
                  (conv => whnf); refine ld1 (v := .bool (x.getLsbD b)) ct4 (by rw [show o5 + ((b : Nat) : Int).toNat * 1 = o5 + b by omega]; exact hcells5 b _ (bitsL_get x (by omega))) trivial ?_
                  (conv => whnf); refine ixrn sl41 hfv (asI_len _).symm (asI_get hg) rfl ?_
                  rintro b6 o6 cs6 hSb6 hcells6 ⟨rfl, -⟩
                  (conv => whnf); refine ld1 ct3 hcells6.one trivial ?_
                  (conv => whnf); refine ixr slB_ hcS hx rfl ?_
                  rintro b7 o7 cs7 hSb7 hcells7 rfl
                  (conv => whnf); refine ixa ar157 (by omega) (by omega) ?_
                  (conv => whnf); refine ld1 (v := .bool (x.getLsbD g)) ct4 (by rw [show o7 + ((g : Nat) : Int).toNat * 1 = o7 + g by omega]; exact hcells7 g _ (bitsL_get x (by omega))) trivial ?_
                  (conv => whnf); refine beq_b rfl ?_
                  (conv => whnf); rw [w64 (x := (j : Int) + 1) (by omega) (by omega)]
                  exact ⟨rfl, j + 1, by rw [alikeTo_succ hx, hal]; simp, ⟨by omega, rfl⟩, by omega⟩
                | false =>
                  have hs := alikeTo_no hal
                  (conv => whnf); rw [d2]
                  (conv => whnf); rw [w64 (x := (k : Int) + 1) (by omega) (by omega)]
                  refine ⟨rfl, k + 1, ?_, ⟨by omega, rfl⟩, by omega⟩
                  rw [take_succ_snoc hg, fdI_snoc h1, hs]
                  have : fdI cells b ((atRun cells b).1.take k) = -1 := by have := (fdI_in (cells := cells) (b := b) (l := (atRun cells b).1.take k)).1; omega
                  rw [this]; simp
              · obtain rfl : j = cells.length := by omega
                have d2 : decide ((cells.length : Int) < (cells.length : Int)) = false := decide_eq_false (by omega)
                rw [alikeTo_all]
                cases hs : sigEq cells b g with
                | true =>
                  (conv => whnf); rw [d2]
                  (conv => whnf); rw [w64 (x := (k : Int) + 1) (by omega) (by omega)]
                  refine ⟨rfl, k + 1, ?_, ⟨by omega, rfl⟩, by omega⟩
                  rw [take_succ_snoc hg, fdI_snoc h1, hs]
                  simp; omega
                | false =>
                  (conv => whnf); rw [d2]
                  (conv => whnf); rw [w64 (x := (k : Int) + 1) (by omega) (by omega)]
                  refine ⟨rfl, k + 1, ?_, ⟨by omega, rfl⟩, by omega⟩
                  rw [take_succ_snoc hg, fdI_snoc h1, hs]
                  have : fdI cells b ((atRun cells b).1.take k) = -1 := by have := (fdI_in (cells := cells) (b := b) (l := (atRun cells b).1.take k)).1; omega
                  rw [this]; simp
          · rw [← fdI_take (by omega)]
            replace h1 : 0 ≤ fdI cells b (atRun cells b).1 := by rw [fdI_take (k := k) (by omega)]; omega
            cases hfi : (atRun cells b).1.findIdx? fun g => sigEq cells b g with
            | none => exact absurd (fdI_none.2 hfi) (by omega)
            | some k0 =>
              have hk0 := (List.findIdx?_eq_some_iff_getElem.1 hfi).1
              have hfd : fdI cells b (atRun cells b).1 = (k0 : Int) := by unfold fdI; rw [hfi]
              rw [hfd]
              have hnext : atRun cells (b + 1) = ((atRun cells b).1, (atRun cells b).2 ++ [k0]) := atRun_some hfi
              obtain ⟨vb, cap, l, e1, hlo, hblk, hlen, hput⟩ := SlO.byte ho (atSets_get hk0) (show b < 256 by omega)
              rw [atSets_len] at e1
              injection e1 with e2 e3 e4
              subst e2; subst e4
              (conv => whnf); refine VSeq.run ?_
              (conv => whnf); refine ix slF_ (by omega) (by omega) ?_
              (conv => whnf); refine ixa ar157 (by omega) (by omega) ?_
              (conv => whnf); refine st1 ct4 hblk (by rw [show tF.size = 256 from rfl]; omega) rfl ?_
              intro H6 hb6 ha6 hs6
              rw [show 0 + ((k0 : Nat) : Int).toNat * tF.size + ((b : Nat) : Int).toNat * 1 = k0 * 256 + b by rw [show tF.size = 256 from rfl]; omega] at hb6
              have ho6 := hput H6 hb6
              have hput2 := atSets_put (ps := (atRun cells b).2) hk0
              rw [hok.plen] at hput2
              rw [hput2] at ho6
              have hf6 := hf.agr ha6 (fun j hj => by rintro rfl; exact hap _ ⟨0, _, _, rfl⟩ hj) (fun _ f => f.elim)
              (conv => whnf); rw [w64 (x := (b : Int) + 1) (by omega) (by omega)]
              refine ⟨rfl, (b + 1, .slice (some ⟨vb, 0, none⟩) (atRun cells b).1.length ocap, .slice fa (atRun cells b).1.length fcap), by simp, ⟨by simp only; omega, ha2.trans (ha6.mono fun j hj => by unfold Old at hj; omega), by omega, ?_, ?_, hap⟩, by simp only; omega⟩
              · simp only [hnext]; exact ho6
              · simp only [hnext]; exact hf6
        · obtain rfl : k = (atRun cells b).1.length := by omega
          have d1 : decide (((atRun cells b).1.length : Int) < ((atRun cells b).1.length : Int)) = false := decide_eq_false (by omega)
          rw [List.take_length]
          (conv => whnf); rw [d1]
          by_cases h1 : fdI cells b (atRun cells b).1 < 0
          · have hfi := fdI_none.1 h1
            have hfd : fdI cells b (atRun cells b).1 = -1 := by have := (fdI_in (cells := cells) (b := b) (l := (atRun cells b).1)).1; omega
            rw [hfd]
            have hnext : atRun cells (b + 1) = ((atRun cells b).1 ++ [b], (atRun cells b).2 ++ [(atRun cells b).1.length]) := atRun_none hfi
            have hlt' : ∀ p ∈ (atRun cells b).2, p < (atRun cells b).1.length := hok.lt
            (conv => whnf); refine VSeq.run ?_
            (conv => whnf); refine vbuildA ar157 (Tryz.t157.zero.getD undef) rfl (List.replicate 256 (.bool false)) rfl ?_
            (conv => whnf); refine vbuild1 slF_ (List.replicate 256 (.bool false)) rfl rfl (by decide) (by decide) ?_
            intro q4 H4 hq4 hs4 hb4 ha4
            have ho4 := ho.agr ha4 (fun j hj => by have := (ho.lt hj).2; omega) (fun _ f => f.elim)
            have hf4 := hf.agr ha4 (fun j hj => by have := (hf.lt hj).2; omega) (fun _ f => f.elim)
            (conv => whnf); refine vappendO (T := tF) (S := fun _ => False) (ys := [fun _ => false]) (ds := List.replicate 256 (.bool false)) (lo := H.size) (xs := atSets (atRun cells b).2 (atRun cells b).1.length) slF_ ho4 (by omega) (fun j hj => hj.elim)
              (hb4.cells (fun j v hv => by rw [Nat.zero_add]; exact hv)) (Ty.reps_one (show List.replicate 256 (Value.bool false) = funL (fun _ => false) from funL_zero.symm)) rfl (by intro u hu; rw [List.eq_of_mem_replicate hu]; rfl) (by rw [atSets_len]; simp only [maxLen, List.length_singleton]; omega) (by rw [atSets_len]; simp only [List.length_singleton]; omega) ?_
            intro v5 H5 ho5 ha5 hs5 hfr5
            rw [← atSets_more _ _ hlt'] at ho5
            have hf5 := hf4.agr ha5 (fun j hj => ⟨(hf4.lt hj).2, fun h => hap j h hj⟩) (fun _ f => f.elim)
            have hb5 : Blk H5 q4 157 (List.replicate 256 (.bool false)) := hb4.agr ha5 ⟨hb4.lt, fun h => by have := (ho.lt h).2; omega⟩
            (conv => whnf); refine vbuild1 sl41 [.int .i64 (b : Int)] rfl rfl (by decide) (by decide) ?_
            intro q6 H6 hq6 hs6 hb6 ha6
            have ho6 := ho5.agr ha6 (fun j hj => by have := (ho5.lt hj).2; omega) (fun _ f => f.elim)
            have hf6 := hf5.agr ha6 (fun j hj => by have := (hf5.lt hj).2; omega) (fun _ f => f.elim)
            (conv => whnf); refine vappendO (T := tI) (S := fun _ => False) (ys := [(b : Int)]) (ds := [.int .i64 (b : Int)]) (lo := H.size) (xs := asI (atRun cells b).1) sl41 hf6 (by omega) (fun j hj => hj.elim)
              (hb6.cells (fun j v hv => by simpa using hv)) (Ty.reps_one ⟨rfl, inI64 (by omega)⟩) rfl (by intro u hu; cases List.mem_singleton.1 hu; rfl) (by rw [asI_len]; simp only [maxLen, List.length_singleton]; omega) (by rw [asI_len]; simp only [List.length_singleton]; omega) ?_
            intro v7 H7 hf7 ha7 hs7 hfr7
            have hap5 : ∀ j, slB v5 j → ¬ slB (.slice fa (atRun cells b).1.length fcap) j := fun j hj hj' => by
              rcases hfr5 j hj with h | h
              · exact hap j h hj'
              · have := (hf.lt hj').2; omega
            have ho7 := ho6.agr ha7 (fun j hj => ⟨(ho6.lt hj).2, hap5 j hj⟩) (fun _ f => f.elim)
            have hap7 : ∀ j, slB v5 j → ¬ slB v7 j := fun j hj hj' => by
              rcases hfr7 j hj' with h | h
              · exact hap5 j hj h
              · have := (ho6.lt hj).2; omega
            have hget7 : (atSets (atRun cells b).2 ((atRun cells b).1.length + 1))[(atRun cells b).1.length]? = some (atSet (atRun cells b).2 (atRun cells b).1.length) := atSets_get (by omega)
            obtain ⟨vb, cap, l, e1, hlo, hblk, hlen, hput⟩ := SlO.byte ho7 hget7 (show b < 256 by omega)
            subst e1
            rw [atSets_len] at *
            have hnn : (atRun cells b).1.length < (atRun cells b).1.length + 1 := by omega
            (conv => whnf); refine ix slF_ (by omega) (by omega) ?_
            (conv => whnf); refine ixa ar157 (by omega) (by omega) ?_
            (conv => whnf); refine st1 ct4 hblk (by rw [show tF.size = 256 from rfl]; omega) rfl ?_
            intro H8 hb8 ha8 hs8
            rw [show 0 + (((atRun cells b).1.length : Nat) : Int).toNat * tF.size + ((b : Nat) : Int).toNat * 1 = (atRun cells b).1.length * 256 + b by rw [show tF.size = 256 from rfl]; omega] at hb8
            have ho8 := hput H8 hb8
            have hput2 := atSets_put (ps := (atRun cells b).2) hnn
            rw [hok.plen] at hput2
            rw [hput2] at ho8
            have hf8 := hf7.agr ha8 (fun j hj => by rintro rfl; exact hap7 _ ⟨0, _, _, rfl⟩ hj) (fun _ f => f.elim)
            have hA8 : Agr (Old H) H H8 := ((((ha2.trans (ha4.mono fun j hj => by have := old_lt ha2 hj; omega)).trans (ha5.mono fun j hj => ⟨by have := old_lt ha2 hj; omega, fun h => by have := (ho.lt h).1; unfold Old at hj; omega⟩)).trans (ha6.mono fun j hj => by have := old_lt ha2 hj; omega)).trans (ha7.mono fun j hj => ⟨by have := old_lt ha2 hj; omega, fun h => by have := (hf.lt h).1; unfold Old at hj; omega⟩)).trans (ha8.mono fun j hj => by unfold Old at hj; omega)
            (conv => whnf); rw [w64 (x := (b : Int) + 1) (by omega) (by omega)]
            refine ⟨rfl, (b + 1, _, _), rfl, ⟨by simp only; omega, hA8, by omega, ?_, ?_, hap7⟩, by simp only; omega⟩
            · simp only [hnext, List.length_append, List.length_singleton]; exact ho8
            · simp only [hnext, asI, List.map_append, List.map_cons, List.map_nil]; exact hf8
          · replace h1 : 0 ≤ fdI cells b (atRun cells b).1 := by omega
            cases hfi : (atRun cells b).1.findIdx? fun g => sigEq cells b g with
            | none => exact absurd (fdI_none.2 hfi) (by omega)
            | some k0 =>
              have hk0 := (List.findIdx?_eq_some_iff_getElem.1 hfi).1
              have hfd : fdI cells b (atRun cells b).1 = (k0 : Int) := by unfold fdI; rw [hfi]
              rw [hfd]
              have hnext : atRun cells (b + 1) = ((atRun cells b).1, (atRun cells b).2 ++ [k0]) := atRun_some hfi
              obtain ⟨vb, cap, l, e1, hlo, hblk, hlen, hput⟩ := SlO.byte ho (atSets_get hk0) (show b < 256 by omega)
              rw [atSets_len] at e1
              injection e1 with e2 e3 e4
              subst e2; subst e4
              (conv => whnf); refine VSeq.run ?_
              (conv => whnf); refine ix slF_ (by omega) (by omega) ?_
              (conv => whnf); refine ixa ar157 (by omega) (by omega) ?_
              (conv => whnf); refine st1 ct4 hblk (by rw [show tF.size = 256 from rfl]; omega) rfl ?_
              intro H6 hb6 ha6 hs6
              rw [show 0 + ((k0 : Nat) : Int).toNat * tF.size + ((b : Nat) : Int).toNat * 1 = k0 * 256 + b by rw [show tF.size = 256 from rfl]; omega] at hb6
              have ho6 := hput H6 hb6
              have hput2 := atSets_put (ps := (atRun cells b).2) hk0
              rw [hok.plen] at hput2
              rw [hput2] at ho6
              have hf6 := hf.agr ha6 (fun j hj => by rintro rfl; exact hap _ ⟨0, _, _, rfl⟩ hj) (fun _ f => f.elim)
              (conv => whnf); rw [w64 (x := (b : Int) + 1) (by omega) (by omega)]
              refine ⟨rfl, (b + 1, .slice (some ⟨vb, 0, none⟩) (atRun cells b).1.length ocap, .slice fa (atRun cells b).1.length fcap), by simp, ⟨by simp only; omega, ha2.trans (ha6.mono fun j hj => by unfold Old at hj; omega), by omega, ?_, ?_, hap⟩, by simp only; omega⟩
              · simp only [hnext]; exact ho6
              · simp only [hnext]; exact hf6
    · obtain rfl : b = 256 := by omega
      obtain ⟨oa2, ocap2, e2, hov2, -⟩ := ho.view (S' := Fresh H H2) (fun j hj => ho.lt hj) (fun _ f => f.elim)
      rw [atSets_len] at e2
      injection e2 with e3 e4 e5
      subst e3; subst e5
      (conv => whnf)
      exact ⟨ha2, hs2, _, _, rfl, hov2⟩

end Go.Proofs.YtfbghcpdinlmcaaGreatDoor

/- The document's automata in memory; Parted. -/
set_option linter.unusedVariables false
set_option linter.unusedSimpArgs false
set_option maxRecDepth 100000
namespace Go.Proofs.YtfbghcpdinlmcaaGreatDoor
open Go.VC
attribute [local irreducible] mRun atRun

def dfaL (cell : List Int) (rv nv fv : Value) : List Value := cell.map (Value.int .i64) ++ [rv, nv, fv]
section
variable {cell : List Int} {rv nv fv v : Value}
theorem dfaL_len (h : cell.length = 256) : (dfaL cell rv nv fv).length = 259 := by simp [dfaL, h]
theorem dfaL_at {b : Nat} {c : Int} (h : cell[b]? = some c) : (dfaL cell rv nv fv)[b]? = some (.int .i64 c) := by
  unfold dfaL
  rw [List.getElem?_append_left (by simpa using (List.getElem?_eq_some_iff.1 h).1), List.getElem?_map, h]; rfl
theorem dfaL_256 (h : cell.length = 256) : (dfaL cell rv nv fv)[256]? = some rv := by
  unfold dfaL
  rw [List.getElem?_append_right (by simp [h]), List.length_map, h]; rfl
theorem dfaL_257 (h : cell.length = 256) : (dfaL cell rv nv fv)[257]? = some nv := by
  unfold dfaL
  rw [List.getElem?_append_right (by simp [h]), List.length_map, h]; rfl
theorem dfaL_258 (h : cell.length = 256) : (dfaL cell rv nv fv)[258]? = some fv := by
  unfold dfaL
  rw [List.getElem?_append_right (by simp [h]), List.length_map, h]; rfl
theorem dfaL_put {b : Nat} {c : Int} (h : b < cell.length) : (dfaL cell rv nv fv).set b (.int .i64 c) = dfaL (cell.set b c) rv nv fv := by
  unfold dfaL
  rw [List.set_append_left _ _ (by simpa using h), List.map_set]
theorem dfaL_put256 (h : cell.length = 256) : (dfaL cell rv nv fv).set 256 v = dfaL cell v nv fv := by
  unfold dfaL
  rw [List.set_append_right _ _ (by simp [h]), List.length_map, h]; rfl
theorem dfaL_put257 (h : cell.length = 256) : (dfaL cell rv nv fv).set 257 v = dfaL cell rv v fv := by
  unfold dfaL
  rw [List.set_append_right _ _ (by simp [h]), List.length_map, h]; rfl
theorem dfaL_put258 (h : cell.length = 256) : (dfaL cell rv nv fv).set 258 v = dfaL cell rv nv v := by
  unfold dfaL
  rw [List.set_append_right _ _ (by simp [h]), List.length_map, h]; rfl
theorem dfaL_ones (h1 : rv.oneCell' = true) (h2 : nv.oneCell' = true) (h3 : fv.oneCell' = true) : (dfaL cell rv nv fv).all (·.oneCell') = true := by
  rw [List.all_eq_true]
  intro u hu
  unfold dfaL at hu
  rcases List.mem_append.1 hu with hu | hu
  · obtain ⟨x, -, rfl⟩ := List.mem_map.1 hu
    rfl
  · simp only [List.mem_cons, List.mem_nil_iff, or_false] at hu
    rcases hu with rfl | rfl | rfl
    · exact h1
    · exact h2
    · exact h3
end
/-! ### the cells so far -/
def cellIn (ps : List Nat) (i n : Nat) : List Int := (List.range 256).map fun b => match ps[b]? with
  | some p => if p < i ∨ (p = i ∧ 256 ≤ b + n) then (p : Int) else 0
  | none => 0
def lstAt (ps : List Nat) (i : Nat) : Nat → Int
  | 0 => -1
  | n + 1 => if ps[255 - n]? = some i then ((255 - n : Nat) : Int) else lstAt ps i n
theorem cellIn_len (ps : List Nat) (i n : Nat) : (cellIn ps i n).length = 256 := by simp [cellIn]
theorem cellIn_get (ps : List Nat) (i n : Nat) {b : Nat} (h : b < 256) : (cellIn ps i n)[b]? = some (match ps[b]? with
  | some p => if p < i ∨ (p = i ∧ 256 ≤ b + n) then (p : Int) else 0
  | none => 0) := by
  unfold cellIn
  rw [List.getElem?_map, List.getElem?_range h]; rfl
theorem cellIn_ext {ps : List Nat} {i n j m : Nat} (h : ∀ (b p : Nat), b < 256 → ps[b]? = some p → ((p < i ∨ (p = i ∧ 256 ≤ b + n)) ↔ (p < j ∨ (p = j ∧ 256 ≤ b + m)))) : cellIn ps i n = cellIn ps j m := by
  apply List.ext_getElem?
  intro b
  by_cases hb : b < 256
  · rw [cellIn_get _ _ _ hb, cellIn_get _ _ _ hb]
    cases hp : ps[b]? with
    | none => rfl
    | some p =>
      have := h b p hb hp
      simp only [this]
  · rw [List.getElem?_eq_none (by rw [cellIn_len]; omega), List.getElem?_eq_none (by rw [cellIn_len]; omega)]
theorem cellIn_yes {ps : List Nat} {i n : Nat} (hn : n < 256) (h : ps[255 - n]? = some i) : (cellIn ps i n).set (255 - n) (i : Int) = cellIn ps i (n + 1) := by
  apply List.ext_getElem?
  intro b
  by_cases hb : b < 256
  · rw [cellIn_get _ _ _ hb, List.getElem?_set, cellIn_len]
    by_cases hbn : 255 - n = b
    · subst hbn
      rw [if_pos rfl, if_pos (by omega), h]
      simp only
      rw [if_pos (.inr ⟨trivial, by omega⟩)]
    · rw [if_neg hbn, cellIn_get _ _ _ hb]
      cases hp : ps[b]? with
      | none => rfl
      | some p =>
        have : (256 ≤ b + n) ↔ (256 ≤ b + (n + 1)) := by omega
        simp only [this]
  · rw [List.getElem?_eq_none (by rw [List.length_set, cellIn_len]; omega), List.getElem?_eq_none (by rw [cellIn_len]; omega)]
theorem cellIn_no {ps : List Nat} {i n : Nat} (hn : n < 256) (h : ps[255 - n]? ≠ some i) : cellIn ps i n = cellIn ps i (n + 1) := by
  refine cellIn_ext fun b p hb hp => ?_
  by_cases hbn : b = 255 - n
  · subst hbn
    rw [hp] at h
    have : p ≠ i := fun e => h (by rw [e])
    simp [this]
  · have : (256 ≤ b + n) ↔ (256 ≤ b + (n + 1)) := by omega
    rw [this]
theorem cellIn_next (ps : List Nat) (i : Nat) : cellIn ps i 256 = cellIn ps (i + 1) 0 := by
  refine cellIn_ext fun b p hb hp => ?_
  omega
theorem cellIn_zero (ps : List Nat) : cellIn ps 0 0 = List.replicate 256 0 := by
  apply List.ext_getElem?
  intro b
  by_cases hb : b < 256
  · rw [cellIn_get _ _ _ hb, List.getElem?_replicate, if_pos hb]
    cases hp : ps[b]? with
    | none => rfl
    | some p => simp only; rw [if_neg (by omega)]
  · rw [List.getElem?_eq_none (by rw [cellIn_len]; omega), List.getElem?_eq_none (by simp; omega)]
theorem cellIn_end {ps : List Nat} {n : Nat} (hl : ps.length = 256) (h : ∀ p ∈ ps, p < n) : cellIn ps n 0 = asI ps := by
  apply List.ext_getElem?
  intro b
  by_cases hb : b < 256
  · obtain ⟨p, hp⟩ := get_some (l := ps) (k := b) (by omega)
    rw [cellIn_get _ _ _ hb, asI_get hp, hp]
    simp only
    rw [if_pos (.inl (h p (List.mem_of_getElem? hp)))]
  · rw [List.getElem?_eq_none (by rw [cellIn_len]; omega), List.getElem?_eq_none (by rw [asI_len]; omega)]
theorem lstAt_first {ps : List Nat} {i g : Nat} (hg : g < 256) (h : ps[g]? = some i) (hno : ∀ b, b < g → ps[b]? ≠ some i) : ∀ m, m ≤ g → lstAt ps i (256 - g + m) = (g : Int)
  | 0, _ => by
    rw [Nat.add_zero, show 256 - g = (255 - g) + 1 by omega, lstAt, show 255 - (255 - g) = g by omega, if_pos h]
  | m + 1, hm => by
    have ih := lstAt_first hg h hno m (by omega)
    rw [show 256 - g + (m + 1) = (256 - g + m) + 1 by omega, lstAt, if_neg (hno _ (by omega)), ih]
theorem first_no {cells : List (BitVec 256)} {b : Nat} {f ps : List Nat} (h : AtOk cells b f ps) {i g : Nat} (hg : f[i]? = some g) : ∀ j, j < g → ps[j]? ≠ some i := by
  intro j hj hji
  have := (h.sig j i g hji hg).2
  omega

set_option maxHeartbeats 4000000 in
theorem parted_c (ca : Option Addr) (cc : Nat) (cells : List (BitVec 256)) (S : Nat → Prop) (H : Heap) (hS : ∀ k, S k → k < H.size) (hc : SlD tB S H ca cc cells) (hn : cells.length ≤ 4194304) :
    FnOk Tryz.prog 61 #[.slice ca cells.length cc] H fun v H' => Agr (Old H) H H' ∧ H.size ≤ H'.size ∧ ∃ ra rc, v = .agg (dfaL (asI (atRun cells 256).2) (.slice ra (atRun cells 256).1.length rc) (.slice none 0 0) (.slice none 0 0)).toArray ∧
      SlD tI (Fresh H H') H' ra rc (asI (atRun cells 256).1) := by
  have hok := atRun_ok cells 256
  have hfl := hok.flen
  refine FnOk.of_vc Tryz.func61 rfl (Tryz.call61 _) ?_
  (conv => whnf); refine valloc _ (dfaL (List.replicate 256 0) (.slice none 0 0) (.slice none 0 0) (.slice none 0 0)) rfl (by kernel_rfl) ?_
  intro p1 H1 hp1 hs1 hb1 ha1
  (conv => whnf); refine valloc _ (dfaL (List.replicate 256 0) (.slice none 0 0) (.slice none 0 0) (.slice none 0 0)) rfl (by kernel_rfl) ?_
  intro p2 H2 hp2 hs2 hb2 ha2
  have hA2 : Agr (Old H) H H2 := (ha1.mono fun j hj => by unfold Old at hj; omega).trans (ha2.mono fun j hj => by unfold Old at hj; omega)
  (conv => whnf); refine VCall.mk (atoms_c ca cc cells S H2 (fun k hk => old_lt hA2 (hS k hk)) (hc.frame (hA2.mono hS)) hn) ?_
  rintro v3 H3 ⟨ha3, hs3, aa, ac, rfl, hat⟩
  have hA3 := hA2.trans (ha3.mono fun k hk => old_lt hA2 hk)
  have hb13 := (hb1.agr ha2 (show p1 < p2 by omega)).agr ha3 (show p1 < H2.size by omega)
  have hb23 := hb2.agr ha3 (show p2 < H2.size by omega)
  generalize hfeq : (atRun cells 256).1 = f at *
  generalize hpeq : (atRun cells 256).2 = ps at *
  (conv => whnf)
  refine VLoop.mk [5] (fun i : Nat => [.int .i64 i]) (fun i H4 => i ≤ f.length ∧ Agr (fun j => j < H3.size ∧ j ≠ p2) H3 H4 ∧ H3.size ≤ H4.size ∧ ∃ vr, Blk H4 p2 43 (dfaL (cellIn ps i 0) vr (.slice none 0 0) (.slice none 0 0)) ∧ SlO tI (fun _ => False) H4 H3.size 3 vr (asI (f.take i))) (fun i _ => f.length - i) ?_ ?_
  · (conv => whnf)
    exact ⟨0, rfl, by omega, Agr.refl _ _, Nat.le_refl _, .slice none 0 0, by rw [cellIn_zero]; exact hb23, by rw [List.take_zero]; exact SlO.nil⟩
  · rintro i H4 junk ⟨hi, ha4, hs4, vr, hb4, hr4⟩
    (conv => whnf); refine VIte.mk (fun h => ?_) (fun h => ?_) <;> simp only [decide_eq_true_eq, decide_eq_false_iff_not] at h
    · have hil : i < f.length := by omega
      obtain ⟨g, hg⟩ := get_some hil
      have hati : ∀ {H' : Heap}, Agr (fun j => j < H3.size ∧ j ≠ p2) H3 H' → SlD tF (Fresh H2 H3) H' aa ac (atSets ps f.length) := fun h => hat.frame (h.mono fun k hk => by have := hk.1; exact ⟨hk.2, by omega⟩)
      (conv => whnf)
      refine VLoop.mk [6, 7] (fun n : Nat => [.int .i64 (lstAt ps i n), .int .i64 (255 - (n : Int))]) (fun n H5 => n ≤ 256 ∧ Agr (fun j => j ≠ p2) H4 H5 ∧ H4.size = H5.size ∧ Blk H5 p2 43 (dfaL (cellIn ps i n) vr (.slice none 0 0) (.slice none 0 0))) (fun n _ => 256 - n) ?_ ?_
      · (conv => whnf); exact ⟨0, rfl, by omega, Agr.refl _ _, rfl, hb4⟩
      · rintro n H5 junk5 ⟨hn5, ha5, hs5, hb5⟩
        (conv => whnf); refine VIte.mk (fun h => ?_) (fun h => ?_) <;> simp only [decide_eq_true_eq, decide_eq_false_iff_not] at h
        · have hn256 : n < 256 := by omega
          (conv => whnf); refine VSeq.run ?_
          (conv => whnf); refine ixrn slF_ (hati (ha4.trans (ha5.mono fun j hj => hj.2))) (atSets_len _ _).symm (atSets_get hil) rfl ?_
          rintro b6 o6 cs6 hSb6 hcells6 rfl
          (conv => whnf); refine ixa ar157 (by omega) (by omega) ?_
          (conv => whnf); refine ld1 (v := .bool (atSet ps i (255 - n))) ct4 (by rw [show o6 + (255 - (n : Int)).toNat * 1 = o6 + (255 - n) by omega]; exact hcells6 (255 - n) _ (funL_get _ (by omega))) trivial ?_
          (conv => whnf); refine VIte.mk (fun hbit => ?_) (fun hbit => ?_)
          · have hpi : ps[255 - n]? = some i := by simpa [atSet] using hbit
            (conv => whnf); refine VC.fa fl43_0 ?_
            (conv => whnf); refine ixa ar40 (by omega) (by omega) ?_
            (conv => whnf); refine st1 ct3 hb5 (by rw [dfaL_len (cellIn_len _ _ _)]; omega) rfl ?_
            intro H6 hb6 ha6 hs6
            rw [show 0 + 0 + (255 - (n : Int)).toNat * 1 = 255 - n by omega, dfaL_put (by rw [cellIn_len]; omega), cellIn_yes hn256 hpi] at hb6
            (conv => whnf); rw [w64 (x := 255 - (n : Int) - 1) (by omega) (by omega)]
            refine ⟨rfl, n + 1, ?_, ⟨by omega, ha5.trans (ha6.mono fun j hj => hj), by omega, hb6⟩, by omega⟩
            rw [lstAt, if_pos hpi, show ((255 - n : Nat) : Int) = 255 - (n : Int) by omega, show 255 - ((n + 1 : Nat) : Int) = 255 - (n : Int) - 1 by omega]
          · have hpi : ps[255 - n]? ≠ some i := by simpa [atSet] using hbit
            rw [cellIn_no hn256 hpi] at hb5
            (conv => whnf); rw [w64 (x := 255 - (n : Int) - 1) (by omega) (by omega)]
            refine ⟨rfl, n + 1, ?_, ⟨by omega, ha5, by omega, hb5⟩, by omega⟩
            rw [lstAt, if_neg hpi, show 255 - ((n + 1 : Nat) : Int) = 255 - (n : Int) - 1 by omega]
        · obtain rfl : n = 256 := by omega
          have hg256 := (hok.first i g hg).1
          have hlst : lstAt ps i 256 = (g : Int) := by
            have := lstAt_first hg256 (hok.first i g hg).2 (first_no hok hg) g (Nat.le_refl _)
            rwa [show 256 - g + g = 256 by omega] at this
          rw [hlst, cellIn_next] at *
          have hr5 := hr4.agr ha5 (fun j hj => by have := (hr4.lt hj).1; omega) (fun _ f => f.elim)
          (conv => whnf); refine VC.fa fl43_1 ?_
          (conv => whnf); refine ld1 ct41 (by rw [hb5.cell, Nat.zero_add]; exact dfaL_256 (cellIn_len _ _ _)) trivial ?_
          (conv => whnf); refine vbuild1 sl41 [.int .i64 (g : Int)] rfl rfl (by decide) (by decide) ?_
          intro q6 H6 hq6 hs6 hb6 ha6
          have hr6 := hr5.agr ha6 (fun j hj => by have := (hr5.lt hj).2; omega) (fun _ f => f.elim)
          have hb56 := hb5.agr ha6 (show p2 < q6 by have := hb5.lt; omega)
          have hp2 := hb56.lt
          (conv => whnf); refine vappendO (T := tI) (S := fun _ => False) (ys := [(g : Int)]) (ds := [.int .i64 (g : Int)]) (lo := H3.size) (xs := asI (f.take i)) sl41 hr6 (by omega) (fun j hj => hj.elim)
              (hb6.cells (fun j v hv => by simpa using hv)) (Ty.reps_one ⟨rfl, inI64 (by omega)⟩) rfl (by intro u hu; cases List.mem_singleton.1 hu; rfl) (by rw [asI_len]; simp only [maxLen, List.length_singleton, List.length_take]; omega) (by rw [asI_len]; simp only [List.length_singleton, List.length_take]; omega) ?_
          intro v7 H7 hr7 ha7 hs7 hfr7
          have hb7 := hb56.agr ha7 ⟨hp2, fun hb => by have := (hr6.lt hb).1; omega⟩
          (conv => whnf); refine VC.fa fl43_1 ?_
          (conv => whnf); refine st1 ct41 hb7 (by rw [dfaL_len (cellIn_len _ _ _)]; omega) hr7.one ?_
          intro H8 hb8 ha8 hs8
          rw [Nat.zero_add, dfaL_put256 (cellIn_len _ _ _)] at hb8
          have hr8 := hr7.agr ha8 (fun j hj => by have := (hr7.lt hj).1; omega) (fun _ f => f.elim)
          (conv => whnf); rw [w64 (x := (i : Int) + 1) (by omega) (by omega)]
          refine ⟨rfl, i + 1, by simp, ⟨by omega, ?_, by omega, v7, hb8, ?_⟩, by omega⟩
          · exact (((ha4.trans (ha5.mono fun j hj => hj.2)).trans (ha6.mono fun j hj => by omega)).trans (ha7.mono fun j hj => ⟨by omega, fun hb => by have := (hr6.lt hb).1; omega⟩)).trans (ha8.mono fun j hj => hj.2)
          · rw [take_succ_snoc hg]
            unfold asI at hr8 ⊢
            rw [List.map_append]; exact hr8
    · obtain rfl : i = f.length := by omega
      rw [cellIn_end hok.plen hok.lt] at hb4
      rw [List.take_length] at hr4
      have hA4 : Agr (Old H) H H4 := hA3.trans (ha4.mono fun j hj => by have := old_lt hA3 hj; unfold Old at hj; omega)
      obtain ⟨ra, rc, rfl, hrv, -⟩ := hr4.view (S' := fun j => H3.size ≤ j ∧ j < H4.size) (fun j hj => hr4.lt hj) (fun _ f => f.elim)
      rw [asI_len] at hb4
      have hpl : (asI ps).length = 256 := by rw [asI_len, hok.plen]
      have hl259 : (dfaL (asI ps) (.slice ra f.length rc) (.slice none 0 0) (.slice none 0 0)).length = 259 := dfaL_len hpl
      (conv => whnf); refine ldN (cs := dfaL (asI ps) (.slice ra f.length rc) (.slice none 0 0) (.slice none 0 0)) (by rw [hl259]; exact ag43) (hb4.cells fun j v hv => by rw [Nat.zero_add]; exact hv) trivial ?_
      (conv => whnf); refine VC.stN (cs := dfaL (asI ps) (.slice ra f.length rc) (.slice none 0 0) (.slice none 0 0)) (by rw [hl259]; rfl) (hb13.agr ha4 ⟨by omega, by omega⟩) (Nat.le_of_eq (by rw [hl259, dfaL_len (by simp)])) (dfaL_ones rfl rfl rfl) ?_
      intro H6 hb6 ha6 hs6
      rw [splice_all (by rw [hl259, dfaL_len (by simp)])] at hb6
      (conv => whnf); refine ldN (cs := dfaL (asI ps) (.slice ra f.length rc) (.slice none 0 0) (.slice none 0 0)) (by rw [hl259]; exact ag43) (hb6.cells fun j v hv => by rw [Nat.zero_add]; exact hv) trivial ?_
      exact ⟨hA4.trans (ha6.mono fun j hj => by unfold Old at hj; omega), by omega, ra, rc, rfl, (hrv.frame (ha6.mono fun j hj => by omega)).mono fun j hj => by unfold Fresh at *; omega⟩

end Go.Proofs.YtfbghcpdinlmcaaGreatDoor
/- The law DfaLives: its walk. -/
set_option linter.unusedVariables false
set_option linter.unusedSimpArgs false
set_option maxRecDepth 100000
namespace Go.Proofs.YtfbghcpdinlmcaaGreatDoor
open Go.VC
attribute [local irreducible] mRun

def autoOf (cells : List (BitVec 256)) (next : List (List Int)) (final : List Bool) : Option AM := if soundB cells next final.length then some (madeM cells next final) else none
/-- What a table that is handed in says of memory. -/
structure TabIn (S : Nat → Prop) (H : Heap) (v : Value) (cells : List (BitVec 256)) (next : List (List Int)) (final : List Bool) : Prop where
  lt : ∀ k, S k → k < H.size
  rep : ∃ ca na fa cc nc fc, v = .agg #[.slice ca cells.length cc, .slice na next.length nc, .slice fa final.length fc] ∧ SlD tSet S H ca cc cells ∧ SlD tRows S H na nc next ∧ SlD tBool S H fa fc final
  cn : cells.length ≤ 1048576
  nn : next.length ≤ 1048576
  rn : ∀ row ∈ next, row.length ≤ 1048576
  fn : final.length ≤ 1048576
theorem vcall_new {cells : List (BitVec 256)} {next : List (List Int)} {final : List Bool} {S : Nat → Prop} {H : Heap} {K : Value → Heap → Prop} {ca na fa : Option Addr} {cc nc fc : Nat} (hS : ∀ k, S k → k < H.size)
    (hc : SlD tSet S H ca cc cells) (hn : SlD tRows S H na nc next) (hf : SlD tBool S H fa fc final)
    (h : ∀ v H', Agr (Old H) H H' → H.size ≤ H'.size → AutoV (Fresh H H') H' v (autoOf cells next final) → K v H') :
    VCall Tryz.prog 51 #[.slice ca cells.length cc, .slice na next.length nc, .slice fa final.length fc] H K :=
  VCall.mk (new_c ca na fa cc nc fc cells next final S H hS hc hn hf) fun v H' ⟨h1, h2, h3⟩ => h v H' h1 h2 h3
theorem vcall_newO {cells : List (BitVec 256)} {next : List (List Int)} {final : List Bool} {H : Heap} {K : Value → Heap → Prop} {nb lo1 lo2 : Nat} {v1 v3 : Value} {vs : List Value}
    (h1 : SlO tSet (fun _ => False) H lo1 101 v1 cells) (h2 : Tab tI (fun _ => False) H (nb + 1) 3 nb 41 vs next) (h3 : SlO tBool (fun _ => False) H lo2 4 v3 final)
    (hm : next.length ≤ maxLen)
    (h : ∀ v H', Agr (Old H) H H' → H.size ≤ H'.size → AutoV (Fresh H H') H' v (autoOf cells next final) → K v H') :
    VCall Tryz.prog 51 #[v1, .slice (some ⟨nb, 0, none⟩) next.length next.length, v3] H K := by
  obtain ⟨ca, cc, rfl, hc, -⟩ := h1.view (S' := Old H) (fun k hk => (h1.lt hk).2) (fun k hk => hk.elim)
  obtain ⟨fa, fc, rfl, hf, -⟩ := h3.view (S' := Old H) (fun k hk => (h3.lt hk).2) (fun k hk => hk.elim)
  exact vcall_new (S := Old H) (fun k hk => hk) hc (h2.view rfl hm (fun k _ hk => hk) (fun k hk => hk.elim)) hf h
theorem ends_c {fa : Option Addr} {fc : Nat} {final : List Bool} {S : Nat → Prop} {H : Heap} {K : Value → Heap → Prop} {q : Nat} (hq : Blk H q 4 []) (hS : ∀ k, S k → k < H.size ∧ k ≠ q) (hf : SlD tBool S H fa fc final) (hn : final.length ≤ 4194304)
    (h : ∀ v H', SlO tBool (fun _ => False) H' q 4 v final → Agr (fun k => k < H.size ∧ k ≠ q) H H' → H.size ≤ H'.size → K v H') :
    VEff Tryz.prog (Builtin.append_ #[36, 36] 36 [.slice (some ⟨q, 0, none⟩) 0 0, .slice fa final.length fc].toArray) H K := by
  have hqb : ∀ j, slB (.slice (some ⟨q, 0, none⟩) 0 0) j → j = q := by rintro j ⟨o, n, c, e⟩; cases e; rfl
  refine vappendD (T := tBool) (S := S) (lo := q) (xs := []) sl36 tBool_ones (SlO.empty (Nat.le_refl _) hq) (Nat.le_of_lt hq.lt) (fun j hj => ⟨(hS j hj).1, fun hb => (hS j hj).2 (hqb j hb)⟩) hf (by simp only [maxLen, List.length_nil]; omega) (by simp only [List.length_nil]; omega) ?_
  intro v H' h1 h2 h3 h4
  rw [List.nil_append] at h1
  exact h v H' (h1.free tBool_free) (h2.mono fun j hj => ⟨hj.1, fun hb => hj.2 (hqb j hb)⟩) h3

/-! ### the plain law -/
section
open Classical
end
end Go.Proofs.YtfbghcpdinlmcaaGreatDoor
/- The document's automata as data; its New. -/
set_option linter.unusedVariables false
set_option linter.unusedSimpArgs false
set_option maxRecDepth 100000
namespace Go.Proofs.YtfbghcpdinlmcaaGreatDoor
open Go.VC
attribute [local irreducible] mRun atRun

structure DM where
  cell : List Int
  reps : List Int
  next : List (List Int)
  final : List Bool
structure DfaV (S : Nat → Prop) (H : Heap) (v : Value) (D : DM) : Prop where
  len : D.cell.length = 256
  rep : ∃ ra rc na nc fa fc, v = .agg (dfaL D.cell (.slice ra D.reps.length rc) (.slice na D.next.length nc) (.slice fa D.final.length fc)).toArray ∧ SlD tI S H ra rc D.reps ∧ SlD tRows S H na nc D.next ∧ SlD tBool S H fa fc D.final
theorem DfaV.frame {S : Nat → Prop} {H H' : Heap} {v : Value} {D : DM} (h : DfaV S H v D) (k : Agr S H H') : DfaV S H' v D := by
  obtain ⟨hl, ra, rc, na, nc, fa, fc, e, h1, h2, h3⟩ := h
  exact ⟨hl, ra, rc, na, nc, fa, fc, e, h1.frame k, h2.frame k, h3.frame k⟩
theorem DfaV.mono {S S' : Nat → Prop} {H : Heap} {v : Value} {D : DM} (h : DfaV S H v D) (k : ∀ i, S i → S' i) : DfaV S' H v D := by
  obtain ⟨hl, ra, rc, na, nc, fa, fc, e, h1, h2, h3⟩ := h
  exact ⟨hl, ra, rc, na, nc, fa, fc, e, h1.mono k, h2.mono k, h3.mono k⟩
def rowR (cells : List (BitVec 256)) (f : List Nat) (row : List Int) : List Int := f.map fun r => row.getD (cellOf cells r) 0
def madeD (cells : List (BitVec 256)) (next : List (List Int)) (final : List Bool) : DM :=
  ⟨asI (atRun cells 256).2, asI (atRun cells 256).1, next.map (rowR cells (atRun cells 256).1), final⟩
def noneD : DM := ⟨List.replicate 256 0, [0], [[0]], [false]⟩

theorem set_same {α : Type} {l : List α} {k : Nat} {x : α} (h : l[k]? = some x) : l.set k x = l := by
  obtain ⟨h1, rfl⟩ := List.getElem?_eq_some_iff.1 h
  exact List.set_getElem_self h1
theorem cntTo_mono (cells : List (BitVec 256)) (b : Nat) {c d : Nat} (h : c ≤ d) : cntTo cells c b ≤ cntTo cells d b := by
  unfold cntTo
  exact List.Sublist.length_le (List.Sublist.filter _ (List.take_sublist_take_left h))
theorem cell_unique {cells : List (BitVec 256)} {next : List (List Int)} {fl : Nat} (h : soundB cells next fl = true) {b c : Nat} {x : BitVec 256} (hb : b < 256) (hx : cells[c]? = some x) : x.getLsbD b = decide (cellOf cells b = c) := by
  have h1 := soundB_cells h hb
  have hcnt := (soundB_iff.1 h).2.1 b hb
  by_cases he : cellOf cells b = c
  · rw [decide_eq_true he]; exact h1.2 x (by rw [he]; exact hx)
  · rw [decide_eq_false he]
    rcases Nat.lt_or_ge c (cellOf cells b) with hlt | hge
    · exact cellOf_before hlt hx
    · cases hbit : x.getLsbD b with
      | false => rfl
      | true =>
        obtain ⟨y, hy⟩ := get_some h1.1
        have hyb := h1.2 y hy
        have e1 := cntTo_succ (b := b) hy
        have e2 := cntTo_succ (b := b) hx
        have e3 := cntTo_mono cells b (show cellOf cells b + 1 ≤ c by omega)
        have e4 := cntTo_mono cells b (show c + 1 ≤ cells.length by have := (List.getElem?_eq_some_iff.1 hx).1; omega)
        rw [cntTo_all] at e4
        unfold ind at e1 e2
        rw [hyb, if_pos rfl] at e1
        rw [hbit, if_pos rfl] at e2
        omega
theorem rowR_len (cells : List (BitVec 256)) (f : List Nat) (row : List Int) : (rowR cells f row).length = f.length := by simp [rowR]

set_option maxHeartbeats 8000000 in
theorem refnew_c (ca na fa : Option Addr) (cc nc fc : Nat) (cells : List (BitVec 256)) (next : List (List Int)) (final : List Bool) (S : Nat → Prop) (H : Heap) (hS : ∀ k, S k → k < H.size) (hc : SlD tB S H ca cc cells) (hn : SlD tRows S H na nc next) (hf : SlD tBool S H fa fc final)
    (hcn : cells.length ≤ 4194304) (hsound : soundB cells next final.length = true) :
    FnOk Tryz.prog 55 #[.slice ca cells.length cc, .slice na next.length nc, .slice fa final.length fc] H fun v H' => Agr (Old H) H H' ∧ H.size ≤ H'.size ∧ DfaV (Fresh H H') H' v (madeD cells next final) := by
  have hok := atRun_ok cells 256
  have hfl := hok.flen
  obtain ⟨hn1, hn2, hn3, hrows⟩ := soundB_rows hsound
  refine FnOk.of_vc Tryz.func55 rfl (Tryz.call55 _) ?_
  (conv => whnf); refine valloc _ (dfaL (List.replicate 256 0) (.slice none 0 0) (.slice none 0 0) (.slice none 0 0)) rfl (by kernel_rfl) ?_
  intro p1 H1 hp1 hs1 hb1 ha1
  have hA1 : Agr (Old H) H H1 := ha1.mono fun j hj => by unfold Old at hj; omega
  (conv => whnf); refine VCall.mk (parted_c ca cc cells S H1 (fun k hk => old_lt hA1 (hS k hk)) (hc.frame (hA1.mono hS)) hcn) ?_
  rintro v2 H2 ⟨ha2, hs2, ra, rc, rfl, hr⟩
  have hA2 := hA1.trans (ha2.mono fun k hk => old_lt hA1 hk)
  have hb12 := hb1.agr ha2 (show p1 < H1.size by omega)
  have hok2 : ∀ g ∈ (atRun cells 256).1, g < 256 := fun g hg => by obtain ⟨i, hi⟩ := List.getElem?_of_mem hg; exact (hok.first i g hi).1
  generalize hfeq : (atRun cells 256).1 = f at *
  have hpl : (asI (atRun cells 256).2).length = 256 := by rw [asI_len, hok.plen]
  generalize hpeq : asI (atRun cells 256).2 = ps at *
  have hl259 : ∀ nv fv, (dfaL ps (.slice ra f.length rc) nv fv).length = 259 := fun nv fv => dfaL_len hpl
  (conv => whnf); refine valloc _ (dfaL (List.replicate 256 0) (.slice none 0 0) (.slice none 0 0) (.slice none 0 0)) rfl (by kernel_rfl) ?_
  intro p3 H3 hp3 hs3 hb3 ha3
  (conv => whnf); refine VC.stN (cs := dfaL ps (.slice ra f.length rc) (.slice none 0 0) (.slice none 0 0)) (by rw [hl259]; rfl) hb3 (Nat.le_of_eq (by rw [hl259, dfaL_len (by simp)])) (dfaL_ones rfl rfl rfl) ?_
  intro H4 hb4 ha4 hs4
  rw [splice_all (by rw [hl259, dfaL_len (by simp)])] at hb4
  have hA4 : Agr (Old H) H H4 := (hA2.trans (ha3.mono fun k hk => by have := old_lt hA2 hk; omega)).trans (ha4.mono fun k hk => by have := old_lt hA2 hk; omega)
  have h24 : Agr (fun j => j < H2.size) H2 H4 := (ha3.mono fun j hj => by omega).trans (ha4.mono fun j hj => by omega)
  have hb14 := hb12.agr h24 (show p1 < H2.size by omega)
  have hr4 : SlD tI (fun j => H1.size ≤ j ∧ j < H2.size) H4 ra rc (asI f) := hr.frame (h24.mono fun j hj => hj.2)
  have hnn : next.length ≤ 65536 := hn2
  (conv => whnf)
  refine VLoop.mk [8] (fun q : Nat => [.int .i64 q]) (fun q H5 => q ≤ next.length ∧ Agr (fun j => j < H4.size ∧ j ≠ p3) H4 H5 ∧ H4.size ≤ H5.size ∧ ∃ vn vf Sr, Blk H5 p3 43 (dfaL ps (.slice ra f.length rc) vn vf) ∧
    SlO tRows Sr H5 H4.size 41 vn ((next.map (rowR cells f)).take q) ∧ SlO tBool (fun _ => False) H5 H4.size 4 vf (final.take q) ∧ (∀ j, Sr j → H4.size ≤ j ∧ j < H5.size ∧ ¬ slB vn j ∧ ¬ slB vf j) ∧ (∀ j, slB vn j → ¬ slB vf j)) (fun q _ => next.length - q) ?_ ?_
  · (conv => whnf)
    exact ⟨0, rfl, by omega, Agr.refl _ _, Nat.le_refl _, .slice none 0 0, .slice none 0 0, fun _ => False, hb4, by rw [List.take_zero]; exact SlO.nil, by rw [List.take_zero]; exact SlO.nil, fun _ f => f.elim, fun j hj => by obtain ⟨o, n, c, h⟩ := hj; cases h⟩
  · rintro q H5 junk ⟨hq, ha5, hs5, vn, vf, Sr, hb5, hvn, hvf, hSr, hap⟩
    have hp34 : p3 < H4.size := hb4.lt
    have hA5 : Agr (Old H) H H5 := hA4.trans (ha5.mono fun j hj => ⟨old_lt hA4 hj, by have := old_lt hA2 hj; omega⟩)
    (conv => whnf); refine VIte.mk (fun h => ?_) (fun h => ?_) <;> simp only [decide_eq_true_eq, decide_eq_false_iff_not] at h
    · obtain ⟨row, hrow⟩ := get_some (l := next) (k := q) (by omega)
      obtain ⟨fin, hfin⟩ := get_some (l := final) (k := q) (by omega)
      have hrl := (hrows row (List.mem_of_getElem? hrow)).1
      have hin : ∀ {r : Nat}, r ∈ f → (∃ t, row[cellOf cells r]? = some t ∧ row.getD (cellOf cells r) 0 = t ∧ 0 ≤ t ∧ t < 65536) := fun {r} hr => by
        have h1 := (soundB_cells hsound (hok2 r hr)).1
        obtain ⟨t, ht⟩ := get_some (l := row) (k := cellOf cells r) (by omega)
        have h2 := (hrows row (List.mem_of_getElem? hrow)).2 t (List.mem_of_getElem? ht)
        exact ⟨t, ht, by rw [List.getD_eq_getElem?_getD, ht]; rfl, h2.1, by omega⟩
      (conv => whnf); refine VC.fa fl43_1 ?_
      (conv => whnf); refine ld1 (v := .slice ra f.length rc) ct41 (by rw [hb5.cell, Nat.zero_add]; exact dfaL_256 hpl) trivial ?_
      (conv => whnf); refine vmake1 sl41 rfl (by omega) (by omega) (by omega) (by omega) ?_
      intro rb H6 hrb hs6 hb6 ha6
      rw [Int.toNat_natCast] at hb6
      have hrow0 : SlO tI (fun _ => False) H6 H5.size 3 (.slice (some ⟨rb, 0, none⟩) f.length f.length) ((rowR cells f row).take 0 ++ List.replicate ((rowR cells f row).length - 0) 0) := by
        rw [fill_beg, rowR_len]
        exact SlO.made (T := tI) (v := (0 : Int)) (c := [.int .i64 0]) (by omega) (by simpa using hb6) ⟨rfl, inI64 (x := 0) (by decide)⟩ (by unfold maxLen; omega)
      have hb56 := hb5.agr ha6 (show p3 < rb by omega)
      (conv => whnf)
      refine VLoop.mk [10] (fun k : Nat => [.int .i64 k]) (fun k H7 => k ≤ f.length ∧ Agr (fun j => j ≠ rb) H6 H7 ∧ H7.size = H6.size ∧ SlO tI (fun _ => False) H7 H5.size 3 (.slice (some ⟨rb, 0, none⟩) f.length f.length) ((rowR cells f row).take k ++ List.replicate ((rowR cells f row).length - k) 0)) (fun k _ => f.length - k) ?_ ?_
      · (conv => whnf); exact ⟨0, rfl, by omega, Agr.refl _ _, rfl, hrow0⟩
      · rintro k H7 junk7 ⟨hk, ha7, hs7, hrow7⟩
        have hb57 := hb56.agr ha7 (show p3 ≠ rb by omega)
        have hA7 : Agr (Old H) H H7 := (hA5.trans (ha6.mono fun j hj => by have := old_lt hA5 hj; omega)).trans (ha7.mono fun j hj => by have := old_lt hA5 hj; omega)
        have h47 : Agr (fun j => j < H4.size ∧ j ≠ p3) H4 H7 := (ha5.trans (ha6.mono fun j hj => by omega)).trans (ha7.mono fun j hj => by omega)
        have hrl' := rowR_len cells f row
        (conv => whnf); refine VC.fa fl43_1 ?_
        (conv => whnf); refine ld1 (v := .slice ra f.length rc) ct41 (by rw [hb57.cell, Nat.zero_add]; exact dfaL_256 hpl) trivial ?_
        (conv => whnf); refine VIte.mk (fun h => ?_) (fun h => ?_) <;> simp only [decide_eq_true_eq, decide_eq_false_iff_not] at h
        · obtain ⟨r, hrk⟩ := get_some (l := f) (k := k) (by omega)
          have hr256 := hok2 r (List.mem_of_getElem? hrk)
          obtain ⟨t, ht, htD, ht0, ht1⟩ := hin (List.mem_of_getElem? hrk)
          have hgetR : (rowR cells f row)[k]? = some t := by unfold rowR; rw [List.getElem?_map, hrk]; exact congrArg some htD
          have hcl := (soundB_cells hsound hr256).1
          (conv => whnf)
          refine VLoop.mk [11] (fun c : Nat => [.int .i64 c]) (fun c H8 => c ≤ cells.length ∧ Agr (fun j => j ≠ rb) H7 H8 ∧ H8.size = H7.size ∧ SlO tI (fun _ => False) H8 H5.size 3 (.slice (some ⟨rb, 0, none⟩) f.length f.length)
            (((rowR cells f row).take k ++ List.replicate ((rowR cells f row).length - k) 0).set k (if cellOf cells r < c then t else 0))) (fun c _ => cells.length - c) ?_ ?_
          · (conv => whnf)
            refine ⟨0, rfl, by omega, Agr.refl _ _, rfl, ?_⟩
            rw [if_neg (by omega)]
            have hself := set_same (fill_get (l := rowR cells f row) (z := (0 : Int)) (show k < (rowR cells f row).length by omega))
            rw [hself]; exact hrow7
          · rintro c H8 junk8 ⟨hcn8, ha8, hs8, hrow8⟩
            have hb58 := hb57.agr ha8 (show p3 ≠ rb by omega)
            have hA8 : Agr (Old H) H H8 := hA7.trans (ha8.mono fun j hj => by have := old_lt hA5 hj; omega)
            have hr8 : SlD tI (fun j => H1.size ≤ j ∧ j < H2.size) H8 ra rc (asI f) := hr4.frame ((h47.trans (ha8.mono fun j hj => by omega)).mono fun j hj => by omega)
            (conv => whnf); refine VIte.mk (fun h => ?_) (fun h => ?_) <;> simp only [decide_eq_true_eq, decide_eq_false_iff_not] at h
            · obtain ⟨x, hx⟩ := get_some (l := cells) (k := c) (by omega)
              have huniq := cell_unique hsound hr256 hx
              (conv => whnf); refine VSeq.run ?_
              (conv => whnf); refine VDraw.lex rfl (by kernel_rfl) ?_
              (conv => whnf); refine VC.fa fl43_1 ?_
              (conv => whnf); refine ld1 (v := .slice ra f.length rc) ct41 (by rw [hb58.cell, Nat.zero_add]; exact dfaL_256 hpl) trivial ?_
              (conv => whnf); refine ixrn sl41 hr8 (asI_len _).symm (asI_get hrk) rfl ?_
              rintro b6 o6 cs6 hSb6 hcells6 ⟨rfl, -⟩
              (conv => whnf); refine ld1 ct3 hcells6.one trivial ?_
              (conv => whnf); refine ixr slB_ (hc.frame (hA8.mono hS)) hx rfl ?_
              rintro b7 o7 cs7 hSb7 hcells7 rfl
              (conv => whnf); refine ixa ar157 (by omega) (by omega) ?_
              (conv => whnf); refine ld1 (v := .bool (x.getLsbD r)) ct4 (by rw [show o7 + ((r : Nat) : Int).toNat * 1 = o7 + r by omega]; exact hcells7 r _ (bitsL_get x hr256)) trivial ?_
              rw [huniq]
              (conv => whnf); refine VIte.mk (fun hbit => ?_) (fun hbit => ?_) <;> simp only [decide_eq_true_eq, decide_eq_false_iff_not] at hbit
              · subst hbit
                obtain ⟨-, -, -, l9, hblk9, hlen9, -, hput9⟩ := hrow8.placeS (i := k) (by rw [List.length_set, fill_len (by omega)]; omega)
                have hsz : k * tI.size = k := Nat.mul_one k
                have hsz1 : tI.size = 1 := rfl
                (conv => whnf); refine ixr sl35 (hn.frame (hA8.mono hS)) hrow rfl ?_
                rintro b9 o9 cs9 hSb9 hcells9 ⟨xa, xc, rfl, hxr⟩
                (conv => whnf); refine ld1 ct41 hcells9.one trivial ?_
                (conv => whnf); refine ixr sl41 hxr ht rfl ?_
                rintro b10 o10 cs10 hSb10 hcells10 ⟨rfl, -⟩
                (conv => whnf); refine ld1 ct3 hcells10.one trivial ?_
                (conv => whnf); refine ix sl41 (by omega) (by omega) ?_
                (conv => whnf); refine st1 ct3 hblk9 (by omega) rfl ?_
                intro H10 hb10 ha10 hs10
                rw [show 0 + ((k : Nat) : Int).toNat * 1 = k * tI.size by show 0 + ((k : Nat) : Int).toNat * 1 = k * 1; omega] at hb10
                have hrow10 := hput9 H10 [.int .i64 t] t (by rw [← splice_one (show k * tI.size < l9.length by omega)] at hb10; exact hb10) (fun j hj => hj.elim) ⟨rfl, by show (-9223372036854775808 : Int) ≤ t; omega, by show t ≤ (9223372036854775807 : Int); omega⟩
                rw [List.set_set] at hrow10
                (conv => whnf); rw [w64 (x := (cellOf cells r : Int) + 1) (by omega) (by omega)]
                exact ⟨rfl, cellOf cells r + 1, by simp, ⟨by omega, ha8.trans (ha10.mono fun j hj => hj), by omega, by rw [if_pos (by omega)]; exact hrow10⟩, by omega⟩
              · (conv => whnf); rw [w64 (x := (c : Int) + 1) (by omega) (by omega)]
                refine ⟨rfl, c + 1, by simp, ⟨by omega, ha8, by omega, ?_⟩, by omega⟩
                have : (cellOf cells r < c + 1) ↔ (cellOf cells r < c) := by omega
                simp only [this]
                exact hrow8
            · rw [if_pos (by omega), fill_set hgetR] at hrow8
              (conv => whnf); rw [w64 (x := (k : Int) + 1) (by omega) (by omega)]
              exact ⟨rfl, k + 1, by simp, ⟨by omega, ha7.trans ha8, by omega, hrow8⟩, by omega⟩
        · obtain rfl : k = f.length := by omega
          have hfe := fill_end (l := rowR cells f row) (z := (0 : Int))
          rw [hrl'] at hfe hrow7
          rw [hfe] at hrow7
          have hvn7 : SlO tRows Sr H7 H4.size 41 vn ((next.map (rowR cells f)).take q) := (hvn.agr ha6 (S' := fun j => j < rb) (fun j hj => by have := (hvn.lt hj).2; omega) (fun j hj => by have := hSr j hj; omega)).agr (S' := fun j => j ≠ rb) ha7 (fun j hj => by have := (hvn.lt hj).2; omega) (fun j hj => by have := hSr j hj; omega)
          have hvf7 := (hvf.agr ha6 (fun j hj => by have := (hvf.lt hj).2; omega) (fun _ f => f.elim)).agr ha7 (fun j hj => by have := (hvf.lt hj).2; omega) (fun _ f => f.elim)
          obtain ⟨xa, xcap, e1, hxd, -⟩ := hrow7.view (S' := fun j => j = rb) (fun j hj => by obtain ⟨o, n, c, e⟩ := hj; cases e; rfl) (fun _ f => f.elim)
          injection e1 with e2 e3 e4
          subst e2; subst e4
          (conv => whnf); refine VC.fa fl43_2 ?_
          (conv => whnf); refine ld1 (v := vn) ct35 (by rw [hb57.cell, Nat.zero_add]; exact dfaL_257 hpl) trivial ?_
          (conv => whnf); refine vbuild1 sl35 [.slice (some ⟨rb, 0, none⟩) f.length f.length] rfl rfl (by decide) (by decide) ?_
          intro q8 H8 hq8 hs8 hb8 ha8
          have hnewS : ∀ j, (Sr j ∨ j = rb) → j < H8.size ∧ ¬ slB vn j := fun j hj => by
            rcases hj with hj | rfl
            · have := hSr j hj; exact ⟨by omega, this.2.2.1⟩
            · exact ⟨by omega, fun hb => by have := (hvn.lt hb).2; omega⟩
          have hvn8 : SlO tRows (fun j => Sr j ∨ j = rb) H8 H4.size 41 vn ((next.map (rowR cells f)).take q) := (hvn7.agr ha8 (fun j hj => by have := (hvn.lt hj).2; omega) (fun j hj => by have := hSr j hj; omega)).mono fun j hj => .inl hj
          have hqn : ((next.map (rowR cells f)).take q).length = q := by rw [List.length_take, List.length_map]; omega
          (conv => whnf); refine vappendO (T := tRows) (S := fun j => Sr j ∨ j = rb) (ys := [rowR cells f row]) (ds := [.slice (some ⟨rb, 0, none⟩) f.length f.length]) (lo := H4.size) (xs := (next.map (rowR cells f)).take q) sl35 hvn8 (by omega) hnewS
              (hb8.cells (fun j v hv => by simpa using hv)) (Ty.reps_one ⟨some ⟨rb, 0, none⟩, f.length, by rw [hrl'], (hxd.frame (ha8.mono fun j hj => by omega)).mono fun j hj => .inr hj⟩) rfl (by intro u hu; cases List.mem_singleton.1 hu; rfl) (by rw [hqn]; simp only [maxLen, List.length_singleton]; omega) (by rw [hqn]; simp only [List.length_singleton]; omega) ?_
          intro v9 H9 hvn9 ha9 hs9 hfr9
          have hb59 : Blk H9 p3 43 (dfaL ps (.slice ra f.length rc) vn vf) := (hb57.agr ha8 (show p3 < q8 by omega)).agr ha9 ⟨by omega, fun hb => by have := (hvn.lt hb).1; omega⟩
          (conv => whnf); refine VC.fa fl43_2 ?_
          (conv => whnf); refine st1 ct35 hb59 (by rw [hl259]; omega) hvn9.one ?_
          intro H10 hb10 ha10 hs10
          rw [Nat.zero_add, dfaL_put257 hpl] at hb10
          have hrb_ne : ∀ j, slB vn j → j ≠ rb := fun j hj => by have := (hvn.lt hj).2; omega
          have hvn10 : SlO tRows (fun j => Sr j ∨ j = rb) H10 H4.size 41 v9 ((next.map (rowR cells f)).take q ++ [rowR cells f row]) := hvn9.agr ha10 (fun j hj => by have := (hvn9.lt hj).1; omega) (fun j hj => by
            rcases hj with hj | rfl
            · have := hSr j hj; omega
            · omega)
          have hvf8 := hvf7.agr ha8 (fun j hj => by have := (hvf.lt hj).2; omega) (fun _ f => f.elim)
          have hvf9 := hvf8.agr ha9 (fun j hj => ⟨(hvf8.lt hj).2, fun hb => hap j hb hj⟩) (fun _ f => f.elim)
          have hvf10 := hvf9.agr ha10 (fun j hj => by have := (hvf9.lt hj).1; omega) (fun _ f => f.elim)
          have hap9 : ∀ j, slB v9 j → ¬ slB vf j := fun j hj hj' => by
            rcases hfr9 j hj with h | h
            · exact hap j h hj'
            · have := (hvf8.lt hj').2; omega
          have hSr9 : ∀ j, Sr j ∨ j = rb → H4.size ≤ j ∧ j < H10.size ∧ ¬ slB v9 j ∧ ¬ slB vf j := fun j hj => by
            have h1 := hnewS j hj
            refine ⟨?_, by omega, fun hb => ?_, fun hb => ?_⟩
            · rcases hj with hj | rfl
              · exact (hSr j hj).1
              · omega
            · rcases hfr9 j hb with h | h
              · exact h1.2 h
              · omega
            · rcases hj with hj | rfl
              · exact (hSr j hj).2.2.2 hb
              · have := (hvf.lt hb).2; omega
          have hA10 : Agr (Old H) H H10 := ((hA7.trans (ha8.mono fun j hj => by have := old_lt hA7 hj; omega)).trans (ha9.mono fun j hj => ⟨by have := old_lt hA7 hj; omega, fun hb => by have := (hvn.lt hb).1; have := old_lt hA4 hj; omega⟩)).trans (ha10.mono fun j hj => by have := old_lt hA2 hj; omega)
          have h410 : Agr (fun j => j < H4.size ∧ j ≠ p3) H4 H10 := ((h47.trans (ha8.mono fun j hj => by omega)).trans (ha9.mono fun j hj => ⟨by omega, fun hb => by have := (hvn.lt hb).1; omega⟩)).trans (ha10.mono fun j hj => hj.2)
          (conv => whnf)
          have hnof : ∀ j, j < H4.size → ¬ slB vf j := fun j hj hb => by have := (hvf.lt hb).1; omega
          refine VDraw.held (fun j => j < H10.size ∧ ¬ slB vf j) 9 (sq [0,1,2,3,4,5] (.f 6 (.f 7 (sq [8] (.f 9 .e))))) rfl (by kernel_rfl) ?_
          (conv => whnf); refine VC.fa fl43_3 ?_
          (conv => whnf); refine ld1 (v := vf) ct36 (by rw [hb10.cell, Nat.zero_add]; exact dfaL_258 hpl) ⟨hb10.lt, hnof _ hp34⟩ ?_
          (conv => whnf); refine ixr sl36 (hf.frame (hA10.mono hS)) hfin rfl ?_
          rintro b11 o11 cs11 hSb11 hcells11 rfl
          (conv => whnf); refine ld1 ct4 hcells11.one ⟨old_lt hA10 (hS _ hSb11), hnof _ (old_lt hA4 (hS _ hSb11))⟩ ?_
          (conv => whnf); refine vbuild1 sl36 [.bool fin] rfl rfl (by decide) (by decide) ?_
          intro q12 H12 hq12 hs12 hb12' ha12
          refine ⟨ha12.mono fun j hj => by omega, ?_⟩
          have hvf12 := hvf10.agr ha12 (fun j hj => by have := (hvf10.lt hj).2; omega) (fun _ f => f.elim)
          have hfq : (final.take q).length = q := by rw [List.length_take]; omega
          (conv => whnf); refine vappendO (T := tBool) (S := fun _ => False) (ys := [fin]) (ds := [.bool fin]) (lo := H4.size) (xs := final.take q) sl36 hvf12 (by omega) (fun j hj => hj.elim)
              (hb12'.cells (fun j v hv => by simpa using hv)) (Ty.reps_one rfl) rfl (by intro u hu; cases List.mem_singleton.1 hu; rfl) (by rw [hfq]; simp only [maxLen, List.length_singleton]; omega) (by rw [hfq]; simp only [List.length_singleton]; omega) ?_
          intro v13 H13 hvf13 ha13 hs13 hfr13
          refine ⟨(ha12.mono fun j hj => by omega).trans (ha13.mono fun j hj => ⟨by omega, hj.2⟩), ?_⟩
          have hb13 : Blk H13 p3 43 (dfaL ps (.slice ra f.length rc) v9 vf) := (hb10.agr ha12 (show p3 < q12 by omega)).agr ha13 ⟨by omega, hnof _ hp34⟩
          (conv => whnf); refine VC.fa fl43_3 ?_
          (conv => whnf); refine st1 ct36 hb13 (by rw [hl259]; omega) hvf13.one ?_
          intro H14 hb14 ha14 hs14
          rw [Nat.zero_add, dfaL_put258 hpl] at hb14
          have hvf14 := hvf13.agr ha14 (fun j hj => by have := (hvf13.lt hj).1; omega) (fun _ f => f.elim)
          have hvn12 := hvn10.agr ha12 (fun j hj => by have := (hvn10.lt hj).2; omega) (fun j hj => by have := hSr9 j hj; omega)
          have hvn13 := hvn12.agr ha13 (fun j hj => ⟨(hvn12.lt hj).2, hap9 j hj⟩) (fun j hj => by have := hSr9 j hj; exact ⟨by omega, this.2.2.2⟩)
          have hvn14 := hvn13.agr ha14 (fun j hj => by have := (hvn13.lt hj).1; omega) (fun j hj => by have := hSr9 j hj; omega)
          (conv => whnf); rw [w64 (x := (q : Int) + 1) (by omega) (by omega)]
          refine ⟨rfl, q + 1, by simp, ⟨by omega, ?_, by omega, v9, v13, fun j => Sr j ∨ j = rb, hb14, ?_, ?_, fun j hj => ?_, fun j hj hj' => ?_⟩, by omega⟩
          · exact ((h410.trans (ha12.mono fun j hj => by omega)).trans (ha13.mono fun j hj => ⟨by omega, hnof j hj.1⟩)).trans (ha14.mono fun j hj => hj.2)
          · rw [take_succ_snoc (x := rowR cells f row) (by rw [List.getElem?_map, hrow]; rfl)]; exact hvn14
          · rw [take_succ_snoc hfin]; exact hvf14
          · have h1 := hSr9 j hj
            refine ⟨h1.1, by omega, h1.2.2.1, fun hb => ?_⟩
            rcases hfr13 j hb with h | h
            · exact h1.2.2.2 h
            · omega
          · rcases hfr13 j hj' with h | h
            · exact hap9 j hj h
            · have := (hvn12.lt hj).2; omega
    · obtain rfl : q = next.length := by omega
      have hml : (next.map (rowR cells f)).length = next.length := List.length_map _
      rw [show (next.map (rowR cells f)).take next.length = next.map (rowR cells f) by rw [← hml, List.take_length]] at hvn
      rw [show final.take next.length = final by rw [hn3, List.take_length]] at hvf
      have hnS : ∀ j, slB vn j → H4.size ≤ j ∧ j < H5.size := fun j hj => hvn.lt hj
      obtain ⟨xa, xcap, rfl, hxd, -⟩ := hvn.view (S' := fun j => H4.size ≤ j ∧ j < H5.size) hnS (fun j hj => by have := hSr j hj; omega)
      obtain ⟨ya, ycap, rfl, hyd, -⟩ := hvf.view (S' := fun j => H4.size ≤ j ∧ j < H5.size) (fun j hj => hvf.lt hj) (fun _ f => f.elim)
      have hb15 := hb14.agr ha5 ⟨by omega, by omega⟩
      have hr5 : SlD tI (fun j => H1.size ≤ j ∧ j < H2.size) H5 ra rc (asI f) := hr4.frame (ha5.mono fun j hj => by omega)
      (conv => whnf); refine ldN (cs := dfaL ps (.slice ra f.length rc) (.slice xa (next.map (rowR cells f)).length xcap) (.slice ya final.length ycap)) (by rw [hl259]; exact ag43) (hb5.cells fun j v hv => by rw [Nat.zero_add]; exact hv) trivial ?_
      (conv => whnf); refine VC.stN (cs := dfaL ps (.slice ra f.length rc) (.slice xa (next.map (rowR cells f)).length xcap) (.slice ya final.length ycap)) (by rw [hl259]; rfl) hb15 (Nat.le_of_eq (by rw [hl259, dfaL_len (by simp)])) (dfaL_ones rfl rfl rfl) ?_
      intro H6 hb6 ha6 hs6
      rw [splice_all (by rw [hl259, dfaL_len (by simp)])] at hb6
      (conv => whnf); refine ldN (cs := dfaL ps (.slice ra f.length rc) (.slice xa (next.map (rowR cells f)).length xcap) (.slice ya final.length ycap)) (by rw [hl259]; exact ag43) (hb6.cells fun j v hv => by rw [Nat.zero_add]; exact hv) trivial ?_
      have hup : ∀ j, H4.size ≤ j ∧ j < H5.size → Fresh H H6 j := fun j hj => by unfold Fresh; have := old_size hA2; omega
      refine ⟨hA5.trans (ha6.mono fun j hj => by unfold Old at hj; omega), by omega, ⟨by simp only [madeD]; rw [hpeq]; exact hpl, ra, rc, xa, xcap, ya, ycap, ?_, ?_, ?_, ?_⟩⟩
      · simp only [madeD, hfeq, hpeq, asI_len]
      · simp only [madeD, hfeq]
        exact (hr5.frame (ha6.mono fun j hj => by omega)).mono fun j hj => by unfold Fresh; omega
      · simp only [madeD, hfeq]
        exact (hxd.frame (ha6.mono fun j hj => by omega)).mono hup
      · exact (hyd.frame (ha6.mono fun j hj => by omega)).mono hup

end Go.Proofs.YtfbghcpdinlmcaaGreatDoor

/- The document's None, Whole, Made, Step, IsFinal, Accepts. -/
set_option linter.unusedVariables false
set_option linter.unusedSimpArgs false
set_option maxRecDepth 100000
namespace Go.Proofs.YtfbghcpdinlmcaaGreatDoor
open Go.VC
attribute [local irreducible] mRun atRun

theorem none_c (H : Heap) : FnOk Tryz.prog 54 #[] H fun v H' => Agr (Old H) H H' ∧ H.size ≤ H'.size ∧ DfaV (Fresh H H') H' v noneD := by
  refine FnOk.of_vc Tryz.func54 rfl (Tryz.call54 _) ?_
  (conv => whnf); refine valloc _ (dfaL (List.replicate 256 0) (.slice none 0 0) (.slice none 0 0) (.slice none 0 0)) rfl (by kernel_rfl) ?_
  intro p1 H1 hp1 hs1 hb1 ha1
  (conv => whnf); refine vbuild1 sl41 [.int .i64 0] rfl rfl (by decide) (by decide) ?_
  intro b2 H2 hb2 hs2 hk2 ha2
  (conv => whnf); refine vbuild1 sl41 [.int .i64 0] rfl rfl (by decide) (by decide) ?_
  intro b3 H3 hb3 hs3 hk3 ha3
  (conv => whnf); refine vbuild1 sl35 [.slice (some ⟨b3, 0, none⟩) 1 1] rfl rfl (by decide) (by decide) ?_
  intro b4 H4 hb4 hs4 hk4 ha4
  (conv => whnf); refine vbuild1 sl36 [.bool false] rfl rfl (by decide) (by decide) ?_
  intro b5 H5 hb5 hs5 hk5 ha5
  (conv => whnf); refine vbuildS rfl rfl _ rfl (dfaL (List.replicate 256 0) (.slice (some ⟨b2, 0, none⟩) 1 1) (.slice (some ⟨b4, 0, none⟩) 1 1) (.slice (some ⟨b5, 0, none⟩) 1 1)) (by kernel_rfl) ?_
  have hb15 := (((hb1.agr ha2 (show p1 < b2 by omega)).agr ha3 (show p1 < b3 by omega)).agr ha4 (show p1 < b4 by omega)).agr ha5 (show p1 < b5 by omega)
  have hk25 := ((hk2.agr ha3 (show b2 < b3 by omega)).agr ha4 (show b2 < b4 by omega)).agr ha5 (show b2 < b5 by omega)
  have hk35 := (hk3.agr ha4 (show b3 < b4 by omega)).agr ha5 (show b3 < b5 by omega)
  have hk45 := hk4.agr ha5 (show b4 < b5 by omega)
  have hl259 : (dfaL (List.replicate 256 0) (.slice (some ⟨b2, 0, none⟩) 1 1) (.slice (some ⟨b4, 0, none⟩) 1 1) (.slice (some ⟨b5, 0, none⟩) 1 1)).length = 259 := dfaL_len (by simp)
  (conv => whnf); refine VC.stN (cs := dfaL (List.replicate 256 0) (.slice (some ⟨b2, 0, none⟩) 1 1) (.slice (some ⟨b4, 0, none⟩) 1 1) (.slice (some ⟨b5, 0, none⟩) 1 1)) (by rw [hl259]; rfl) hb15 (Nat.le_of_eq (by rw [hl259, dfaL_len (by simp)])) (dfaL_ones rfl rfl rfl) ?_
  intro H6 hb6 ha6 hs6
  rw [splice_all (by rw [hl259, dfaL_len (by simp)])] at hb6
  (conv => whnf); refine ldN (cs := dfaL (List.replicate 256 0) (.slice (some ⟨b2, 0, none⟩) 1 1) (.slice (some ⟨b4, 0, none⟩) 1 1) (.slice (some ⟨b5, 0, none⟩) 1 1)) (by rw [hl259]; exact ag43) (hb6.cells fun j v hv => by rw [Nat.zero_add]; exact hv) trivial ?_
  have z : ∀ {b : Nat}, Blk H6 b 3 [.int .i64 0] → Fresh H H6 b → SlD tI (Fresh H H6) H6 (some ⟨b, 0, none⟩) 1 [0] := fun h hf => SlD.ofBlk h hf (Ty.reps_one ⟨rfl, inI64 (x := 0) (by decide)⟩) rfl (by decide)
  refine ⟨((((((ha1.mono fun j hj => by unfold Old at hj; omega).trans (ha2.mono fun j hj => by unfold Old at hj; omega)).trans (ha3.mono fun j hj => by unfold Old at hj; omega)).trans (ha4.mono fun j hj => by unfold Old at hj; omega)).trans (ha5.mono fun j hj => by unfold Old at hj; omega)).trans (ha6.mono fun j hj => by unfold Old at hj; omega)), by omega, by simp [noneD], _, _, _, _, _, _, rfl, ?_, ?_, ?_⟩
  · exact z (hk25.agr ha6 (show b2 ≠ p1 by omega)) ⟨by omega, by omega⟩
  · exact SlD.ofBlk (hk45.agr ha6 (show b4 ≠ p1 by omega)) ⟨by omega, by omega⟩ (Ty.reps_one ⟨_, _, rfl, z (hk35.agr ha6 (show b3 ≠ p1 by omega)) ⟨by omega, by omega⟩⟩) rfl (by decide)
  · exact SlD.ofBlk (hk5.agr ha6 (show b5 ≠ p1 by omega)) ⟨by omega, by omega⟩ (Ty.reps_one rfl) rfl (by decide)

theorem whole_p (v : Value) (cells : List (BitVec 256)) (next : List (List Int)) (final : List Bool) (S : Nat → Prop) (H : Heap) (ht : TabIn S H v cells next final) :
    Pure Tryz.prog 53 #[v] H (.bool (soundB cells next final.length)) := by
  obtain ⟨hS, ⟨ca, na, fa, cc, nc, fc, rfl, hc, hn, hf⟩, cn, nn, rn, fn⟩ := ht
  refine FnOk.of_vc Tryz.func53 rfl (Tryz.call53 _) ?_
  (conv => whnf); refine vbox [.slice ca cells.length cc, .slice na next.length nc, .slice fa final.length fc] rfl ?_
  intro pb H1 hpb hs1 hb1 ha1
  have hA1 : Agr (Old H) H H1 := ha1.mono fun j hj => by unfold Old at hj; omega
  (conv => whnf); refine VDraw.held (Old H1) 7 (sq [0,2,3,4,5] (.f 1 (.f 6 (.f 7 .e)))) rfl (by kernel_rfl) ?_
  (conv => whnf); refine ldN (cs := [.slice ca cells.length cc, .slice na next.length nc, .slice fa final.length fc]) ag38 (hb1.cells (fun j v hv => by rw [Nat.zero_add]; exact hv)) hb1.lt ?_
  (conv => whnf); refine VC.fa fl38_1 ?_
  (conv => whnf); refine ld1 ct35 (by rw [hb1.cell]; rfl) hb1.lt ?_
  (conv => whnf); refine VC.fa fl38_2 ?_
  (conv => whnf); refine ld1 ct36 (by rw [hb1.cell]; rfl) hb1.lt ?_
  (conv => whnf); refine VCall.mk (sets_l _ _ ca cc cells S H1 (fun k hk => old_lt hA1 (hS k hk)) (hc.frame (hA1.mono hS)) (by omega)) ?_
  rintro v3 H3 ⟨ha3, hs3, bc, rfl, hbc, own1⟩
  have hA3 := hA1.trans (ha3.mono fun k hk => old_lt hA1 hk)
  refine ⟨ha3, ?_⟩
  obtain ⟨xa, xc, e1, hx, -⟩ := own1.view (S' := Old H3) (fun j hj => (own1.lt hj).2) (fun _ f => f.elim)
  injection e1 with e2 e3 e4
  subst e2; subst e4
  have hn3 : SlD tRows (Old H3) H3 na nc next := (hn.frame (hA3.mono hS)).mono fun k hk => old_lt hA3 (hS k hk)
  (conv => whnf); refine pures (refsound_p (some ⟨bc, 0, none⟩) na fa cells.length nc final.length fc cells next (Old H3) H3 (fun k hk => hk) hx hn3 (by omega) (by omega) (by omega)) fun H4 ha4 => ?_
  refine ⟨ha3.trans (ha4.mono fun k hk => old_lt ha3 hk), ?_⟩
  (conv => whnf)
  exact ⟨rfl, hA3.trans (ha4.mono fun k hk => old_lt hA3 hk)⟩

def dfaOf (cells : List (BitVec 256)) (next : List (List Int)) (final : List Bool) : DM := if soundB cells next final.length then madeD cells next final else noneD
theorem made_c (v : Value) (cells : List (BitVec 256)) (next : List (List Int)) (final : List Bool) (S : Nat → Prop) (H : Heap) (ht : TabIn S H v cells next final) :
    FnOk Tryz.prog 20 #[v] H fun v H' => Agr (Old H) H H' ∧ H.size ≤ H'.size ∧ DfaV (Fresh H H') H' v (dfaOf cells next final) := by
  have ht' := ht
  obtain ⟨hS, ⟨ca, na, fa, cc, nc, fc, rfl, hc, hn, hf⟩, cn, nn, rn, fn⟩ := ht
  refine FnOk.of_vc Tryz.func20 rfl (Tryz.call20 _) ?_
  (conv => whnf); refine vbox [.slice ca cells.length cc, .slice na next.length nc, .slice fa final.length fc] rfl ?_
  intro pb H1 hpb hs1 hb1 ha1
  (conv => whnf); refine valloc _ (dfaL (List.replicate 256 0) (.slice none 0 0) (.slice none 0 0) (.slice none 0 0)) rfl (by kernel_rfl) ?_
  intro p2 H2 hp2 hs2 hb2 ha2
  have hA2 : Agr (Old H) H H2 := (ha1.mono fun j hj => by unfold Old at hj; omega).trans (ha2.mono fun j hj => by unfold Old at hj; omega)
  have hb12 := hb1.agr ha2 (show pb < p2 by omega)
  have htab : ∀ {H' : Heap}, Agr (Old H) H H' → TabIn S H' (.agg #[.slice ca cells.length cc, .slice na next.length nc, .slice fa final.length fc]) cells next final := fun h =>
    ⟨fun k hk => old_lt h (hS k hk), ⟨ca, na, fa, cc, nc, fc, rfl, hc.frame (h.mono hS), hn.frame (h.mono hS), hf.frame (h.mono hS)⟩, cn, nn, rn, fn⟩
  (conv => whnf); refine ldN (cs := [.slice ca cells.length cc, .slice na next.length nc, .slice fa final.length fc]) ag38 (hb12.cells (fun j v hv => by rw [Nat.zero_add]; exact hv)) trivial ?_
  (conv => whnf); refine pures (whole_p _ cells next final S H2 (htab hA2)) fun H3 ha3 => ?_
  have hA3 := hA2.trans (ha3.mono fun k hk => old_lt hA2 hk)
  have hb13 := hb12.agr ha3 hb12.lt
  have hb23 := hb2.agr ha3 hb2.lt
  have hs3 := old_size ha3
  -- the result in its cell
  have fin : ∀ {H5 H6 : Heap} {v : Value} {D : DM} {r : Value → Heap → Prop}, Agr (Old H) H H5 → H3.size ≤ H5.size → DfaV (Fresh H3 H5) H5 v D → Agr (fun k => k ≠ p2) H5 H6 → H6.size = H5.size →
      Agr (Old H) H H6 ∧ H.size ≤ H6.size ∧ DfaV (Fresh H H6) H6 v D := fun h1 h2 h3 h4 h5 =>
    ⟨h1.trans (h4.mono fun j hj => by unfold Old at hj; omega), by omega, (h3.frame (h4.mono fun j hj => by have := hj.1; omega)).mono fun j hj => ⟨by have := hj.1; omega, by have := hj.2; omega⟩⟩
  unfold dfaOf
  cases hso : soundB cells next final.length with
  | false =>
    (conv => whnf); refine VCall.mk (none_c H3) ?_
    rintro v5 H5 ⟨ha5, hs5, hd⟩
    have hd' := hd
    obtain ⟨hl, ra, rc, xa, xc, ya, yc, rfl, -⟩ := hd'
    have hl259 := dfaL_len (rv := .slice ra noneD.reps.length rc) (nv := .slice xa noneD.next.length xc) (fv := .slice ya noneD.final.length yc) hl
    (conv => whnf); refine VC.stN (cs := dfaL noneD.cell (.slice ra noneD.reps.length rc) (.slice xa noneD.next.length xc) (.slice ya noneD.final.length yc)) (by rw [hl259]; rfl) (hb23.agr ha5 hb23.lt) (Nat.le_of_eq (by rw [hl259, dfaL_len (by simp)])) (dfaL_ones rfl rfl rfl) ?_
    intro H6 hb6 ha6 hs6
    rw [splice_all (by rw [hl259, dfaL_len (by simp)])] at hb6
    (conv => whnf); refine ldN (cs := dfaL noneD.cell (.slice ra noneD.reps.length rc) (.slice xa noneD.next.length xc) (.slice ya noneD.final.length yc)) (by rw [hl259]; exact ag43) (hb6.cells fun j v hv => by rw [Nat.zero_add]; exact hv) trivial ?_
    exact fin (r := fun _ _ => True) (hA3.trans (ha5.mono fun k hk => old_lt hA3 hk)) hs5 hd ha6 hs6
  | true =>
    (conv => whnf); refine VDraw.held (Old H3) 7 (sq [0,2,3,4,5] (.f 1 (.f 6 (.f 7 .e)))) rfl (by kernel_rfl) ?_
    (conv => whnf); refine ldN (cs := [.slice ca cells.length cc, .slice na next.length nc, .slice fa final.length fc]) ag38 (hb13.cells (fun j v hv => by rw [Nat.zero_add]; exact hv)) hb13.lt ?_
    (conv => whnf); refine VC.fa fl38_1 ?_
    (conv => whnf); refine ld1 ct35 (by rw [hb13.cell]; rfl) hb13.lt ?_
    (conv => whnf); refine VC.fa fl38_2 ?_
    (conv => whnf); refine ld1 ct36 (by rw [hb13.cell]; rfl) hb13.lt ?_
    (conv => whnf); refine VCall.mk (sets_l _ _ ca cc cells S H3 (fun k hk => old_lt hA3 (hS k hk)) (hc.frame (hA3.mono hS)) (by omega)) ?_
    rintro v4 H4 ⟨ha4, hs4, bc, rfl, hbc, own1⟩
    have hA4 := hA3.trans (ha4.mono fun k hk => old_lt hA3 hk)
    refine ⟨ha4, ?_⟩
    obtain ⟨xa, xc, e1, hx, -⟩ := own1.view (S' := Old H4) (fun j hj => (own1.lt hj).2) (fun _ f => f.elim)
    injection e1 with e2 e3 e4
    subst e2; subst e4
    have up : ∀ k, S k → Old H4 k := fun k hk => old_lt hA4 (hS k hk)
    (conv => whnf); refine VCall.mk (refnew_c (some ⟨bc, 0, none⟩) na fa cells.length nc fc cells next final (Old H4) H4 (fun k hk => hk) hx ((hn.frame (hA4.mono hS)).mono up) ((hf.frame (hA4.mono hS)).mono up) (by omega) hso) ?_
    rintro v5 H5 ⟨ha5, hs5, hd⟩
    refine ⟨ha4.trans (ha5.mono fun k hk => old_lt ha4 hk), ?_⟩
    have hd' := hd
    obtain ⟨hl, ra, rc, xa, xc, ya, yc, rfl, -⟩ := hd'
    have hl259 := dfaL_len (rv := .slice ra (madeD cells next final).reps.length rc) (nv := .slice xa (madeD cells next final).next.length xc) (fv := .slice ya (madeD cells next final).final.length yc) hl
    (conv => whnf); refine VC.stN (cs := dfaL (madeD cells next final).cell (.slice ra (madeD cells next final).reps.length rc) (.slice xa (madeD cells next final).next.length xc) (.slice ya (madeD cells next final).final.length yc)) (by rw [hl259]; rfl) ((hb23.agr ha4 hb23.lt).agr ha5 (old_lt ha4 hb23.lt)) (Nat.le_of_eq (by rw [hl259, dfaL_len (by simp)])) (dfaL_ones rfl rfl rfl) ?_
    intro H6 hb6 ha6 hs6
    rw [splice_all (by rw [hl259, dfaL_len (by simp)])] at hb6
    (conv => whnf); refine ldN (cs := dfaL (madeD cells next final).cell (.slice ra (madeD cells next final).reps.length rc) (.slice xa (madeD cells next final).next.length xc) (.slice ya (madeD cells next final).final.length yc)) (by rw [hl259]; exact ag43) (hb6.cells fun j v hv => by rw [Nat.zero_add]; exact hv) trivial ?_
    exact fin (r := fun _ _ => True) (hA4.trans (ha5.mono fun k hk => old_lt hA4 hk)) (by omega) (hd.mono fun j hj => ⟨by have := hj.1; omega, hj.2⟩) ha6 hs6

end Go.Proofs.YtfbghcpdinlmcaaGreatDoor

/- The document's Step, IsFinal, Accepts, Useful, Live. -/
set_option linter.unusedVariables false
set_option linter.unusedSimpArgs false
set_option maxRecDepth 100000
namespace Go.Proofs.YtfbghcpdinlmcaaGreatDoor
open Go.VC
attribute [local irreducible] mRun atRun

structure DM.Ok (D : DM) : Prop where
  n1 : 1 ≤ D.next.length
  n2 : D.next.length ≤ 65536
  fl : D.final.length = D.next.length
  cell : D.cell.length = 256
  rows : ∀ row ∈ D.next, row.length ≤ 256 ∧ (∀ c ∈ D.cell, 0 ≤ c ∧ c < (row.length : Int)) ∧ ∀ t ∈ row, 0 ≤ t ∧ t < (D.next.length : Int)
def stepD (D : DM) (q : Int) (b : Nat) : Int := if q < 0 ∨ (D.next.length : Int) ≤ q then -1 else ((D.next[q.toNat]?).getD []).getD (D.cell.getD b 0).toNat 0
def finD (D : DM) (q : Int) : Bool := decide (0 ≤ q) && (D.final[q.toNat]?).getD false
theorem dfa_box {S : Nat → Prop} {H : Heap} {v : Value} {D : DM} {K : Value → Heap → Prop} {t : TypeId} (h : DfaV S H v D)
    (k : ∀ ra rc na nc fa fc, v = .agg (dfaL D.cell (.slice ra D.reps.length rc) (.slice na D.next.length nc) (.slice fa D.final.length fc)).toArray → SlD tI S H ra rc D.reps → SlD tRows S H na nc D.next → SlD tBool S H fa fc D.final →
      New H (fun b H' => K (.pointer (some ⟨b, 0, none⟩)) H') t (dfaL D.cell (.slice ra D.reps.length rc) (.slice na D.next.length nc) (.slice fa D.final.length fc))) : VEff Tryz.prog (Instr.box t v) H K := by
  obtain ⟨hl, ra, rc, na, nc, fa, fc, rfl, h1, h2, h3⟩ := h
  exact vbox (dfaL D.cell (.slice ra D.reps.length rc) (.slice na D.next.length nc) (.slice fa D.final.length fc)) rfl (k ra rc na nc fa fc rfl h1 h2 h3)
theorem stepD_at {D : DM} {q b : Nat} {row : List Int} {c : Nat} {t : Int} (hr : D.next[q]? = some row) (hc : D.cell[b]? = some (c : Int)) (ht : row[c]? = some t) : stepD D (q : Int) b = t := by
  have := (List.getElem?_eq_some_iff.1 hr).1
  unfold stepD
  rw [if_neg (by omega)]
  simp only [Int.toNat_natCast, hr, List.getD_eq_getElem?_getD, hc, Option.getD_some, ht]
theorem DM.Ok.at {D : DM} (h : D.Ok) {q b : Nat} (hq : q < D.next.length) (hb : b < 256) : ∃ row c t, D.next[q]? = some row ∧ D.cell[b]? = some ((c : Nat) : Int) ∧ row[c]? = some t ∧ c < 256 ∧ 0 ≤ t ∧ t < (D.next.length : Int) ∧ t ∈ row := by
  obtain ⟨row, hr⟩ := get_some hq
  obtain ⟨ci, hc⟩ := get_some (l := D.cell) (k := b) (by rw [h.cell]; exact hb)
  obtain ⟨h1, h2, h3⟩ := h.rows row (List.mem_of_getElem? hr)
  obtain ⟨h4, h5⟩ := h2 ci (List.mem_of_getElem? hc)
  obtain ⟨c, rfl⟩ := Int.eq_ofNat_of_zero_le h4
  obtain ⟨t, ht⟩ := get_some (l := row) (k := c) (by omega)
  have := h3 t (List.mem_of_getElem? ht)
  exact ⟨row, c, t, hr, hc, ht, by omega, this.1, this.2, List.mem_of_getElem? ht⟩
theorem refstep_p {S : Nat → Prop} {H : Heap} {v : Value} {D : DM} {q : Int} {b : Nat} (hS : ∀ k, S k → k < H.size) (h : DfaV S H v D) (hok : D.Ok) (hb8 : b < 256) :
    Pure Tryz.prog 64 #[v, .int .i64 q, .int .u8 (b : Int)] H (.int .i64 (stepD D q b)) := by
  have hlen := h.len
  refine FnOk.of_vc Tryz.func64 rfl (Tryz.call64 _) ?_
  (conv => whnf); refine dfa_box h fun ra rc na nc fa fc he h1 h2 h3 => ?_
  subst he
  intro pb H1 hpb hs1 hb1 ha1
  have hA1 : Agr (Old H) H H1 := ha1.mono fun j hj => by unfold Old at hj; omega
  cases q with
  | negSucc n =>
    have hd : decide (Int.negSucc n < 0) = true := decide_eq_true (Int.negSucc_lt_zero n)
    (conv => whnf); rw [hd]
    (conv => whnf); exact ⟨by simp [stepD, Int.negSucc_lt_zero], hA1⟩
  | ofNat n =>
    (conv => whnf); refine VC.fa fl43_2 ?_
    (conv => whnf); refine ld1 ct35 (by rw [hb1.cell, Nat.zero_add]; exact dfaL_257 hlen) trivial ?_
    by_cases hn : D.next.length ≤ n
    · have hd : decide ((D.next.length : Int) ≤ Int.ofNat n) = true := decide_eq_true (by simpa using hn)
      (conv => whnf); rw [hd]
      (conv => whnf); exact ⟨by simp [stepD, hn], hA1⟩
    · have hd : decide ((D.next.length : Int) ≤ Int.ofNat n) = false := decide_eq_false (by simpa using hn)
      obtain ⟨row, c, t, hr, hc, ht, hc256, _⟩ := hok.at (q := n) (b := b) (by omega) hb8
      (conv => whnf); rw [hd]
      (conv => whnf); refine VDraw.lex rfl (by kernel_rfl) ?_
      (conv => whnf); refine VC.fa fl43_2 ?_
      (conv => whnf); refine ld1 ct35 (by rw [hb1.cell, Nat.zero_add]; exact dfaL_257 hlen) trivial ?_
      (conv => whnf); refine ixr sl35 (h2.frame (hA1.mono hS)) hr rfl ?_
      rintro b2 o2 cs2 hSb2 hcells2 ⟨xa, xc, rfl, hx⟩
      (conv => whnf); refine ld1 ct41 hcells2.one trivial ?_
      (conv => whnf); rw [w64 (x := (b : Int)) (by omega) (by omega)]
      (conv => whnf); refine VC.fa fl43_0 ?_
      (conv => whnf); refine ixa ar40 (by omega) (by omega) ?_
      (conv => whnf); refine ld1 (v := .int .i64 (c : Int)) ct3 (by rw [hb1.cell, show 0 + 0 + ((b : Nat) : Int).toNat * 1 = b by omega]; exact dfaL_at hc) trivial ?_
      (conv => whnf); refine ixr sl41 hx ht rfl ?_
      rintro b3 o3 cs3 hSb3 hcells3 ⟨rfl, -⟩
      (conv => whnf); refine ld1 ct3 hcells3.one trivial ?_
      (conv => whnf); exact ⟨by rw [show Int.ofNat n = (n : Int) from rfl, stepD_at hr hc ht], hA1⟩
theorem dfa_load {S S0 : Nat → Prop} {H : Heap} {D : DM} {pb : Nat} {ra na fa : Option Addr} {rc nc fc : Nat} {K : Value → Prop} (hb : Blk H pb 43 (dfaL D.cell (.slice ra D.reps.length rc) (.slice na D.next.length nc) (.slice fa D.final.length fc))) (hl : D.cell.length = 256) (hS : S0 pb)
    (h1 : SlD tI S H ra rc D.reps) (h2 : SlD tRows S H na nc D.next) (h3 : SlD tBool S H fa fc D.final) (k : ∀ v, DfaV S H v D → K v) : VDet Tryz.prog (Instr.loadAt 43 (.pointer (some ⟨pb, 0, none⟩))) S0 H K :=
  ldN (cs := dfaL D.cell (.slice ra D.reps.length rc) (.slice na D.next.length nc) (.slice fa D.final.length fc)) (by rw [dfaL_len hl]; exact ag43) (hb.cells fun j v hv => by rw [Nat.zero_add]; exact hv) hS (k _ ⟨hl, ra, rc, na, nc, fa, fc, rfl, h1, h2, h3⟩)
end Go.Proofs.YtfbghcpdinlmcaaGreatDoor

/- The document's Useful and Live. -/
set_option linter.unusedVariables false
set_option linter.unusedSimpArgs false
set_option maxRecDepth 100000
namespace Go.Proofs.YtfbghcpdinlmcaaGreatDoor
open Go.VC
attribute [local irreducible] mRun atRun

/-- What is marked so far. -/
structure MkOk (D : DM) (u : List Bool) : Prop where
  len : u.length = D.next.length
  live : ∀ q : Nat, u[q]? = some true → LiveT D.next D.final q
  fin : ∀ q : Nat, D.final[q]? = some true → u[q]? = some true
def Shut (D : DM) (u : List Bool) (q : Nat) : Prop := u[q]? = some true ∨ ∀ (row : List Int) (t : Nat), D.next[q]? = some row → (t : Int) ∈ row → u[t]? ≠ some true
end Go.Proofs.YtfbghcpdinlmcaaGreatDoor

/- The document's Live; both automata of a table step alike. -/
set_option linter.unusedVariables false
set_option linter.unusedSimpArgs false
set_option maxRecDepth 100000
namespace Go.Proofs.YtfbghcpdinlmcaaGreatDoor
open Go.VC
attribute [local irreducible] mRun atRun

open Classical in
noncomputable def aliveD (D : DM) (q : Int) : Bool := decide (LiveT D.next D.final q.toNat)
theorem stepD_range {D : DM} (hok : D.Ok) {q : Int} {b : Nat} (h0 : 0 ≤ q) (h1 : q < D.next.length) (hb : b < 256) : 0 ≤ stepD D q b ∧ stepD D q b < D.next.length := by
  obtain ⟨n, rfl⟩ := Int.eq_ofNat_of_zero_le h0
  obtain ⟨row, c, t, hr, hc, ht, _, h2, h3, _⟩ := hok.at (q := n) (b := b) (by omega) hb
  rw [stepD_at hr hc ht]
  exact ⟨h2, h3⟩
end Go.Proofs.YtfbghcpdinlmcaaGreatDoor

/- Tables in memory: boxed and loaded again. -/
set_option linter.unusedVariables false
set_option linter.unusedSimpArgs false
namespace Go.Proofs.YtfbghcpdinlmcaaGreatDoor
open Go.VC
section
variable {S : Nat → Prop} {H : Heap} {v : Value} {cells : List (BitVec 256)} {next : List (List Int)} {final : List Bool}
theorem TabIn.frame (h : TabIn S H v cells next final) {H' : Heap} (k : Agr (Old H) H H') : TabIn S H' v cells next final := by
  obtain ⟨hS, ⟨ca, na, fa, cc, nc, fc, rfl, hc, hn, hf⟩, r1, r2, r3, r4⟩ := h
  exact ⟨fun j hj => old_lt k (hS j hj), ⟨ca, na, fa, cc, nc, fc, rfl, hc.frame (k.mono hS), hn.frame (k.mono hS), hf.frame (k.mono hS)⟩, r1, r2, r3, r4⟩
theorem tab_box {t : TypeId} {K : Value → Heap → Prop} (h : TabIn S H v cells next final) (k : ∀ l : List Value, l.length = 3 → v = .agg l.toArray → New H (fun b H' => K (.pointer (some ⟨b, 0, none⟩)) H') t l) : VEff Tryz.prog (Instr.box t v) H K := by
  obtain ⟨hS, ⟨ca, na, fa, cc, nc, fc, rfl, hc, hn, hf⟩, r1, r2, r3, r4⟩ := h
  exact vbox _ rfl (k [_, _, _] rfl rfl)
theorem tab_load {pb : Nat} {S0 : Nat → Prop} {K : Value → Prop} {l : List Value} (hl : l.length = 3) (hv : v = .agg l.toArray) (hb : Blk H pb 38 l) (hS : S0 pb) (k : K v) : VDet Tryz.prog (Instr.loadAt 38 (.pointer (some ⟨pb, 0, none⟩))) S0 H K := by
  subst hv
  exact ldN (cs := l) (by rw [hl]; exact ag38) (hb.cells fun j v hv => by rw [Nat.zero_add]; exact hv) hS k
end
end Go.Proofs.YtfbghcpdinlmcaaGreatDoor
/- Both automata of a table step alike. -/
set_option linter.unusedVariables false
set_option linter.unusedSimpArgs false
set_option maxRecDepth 100000
namespace Go.Proofs.YtfbghcpdinlmcaaGreatDoor
open Go.VC

/-! ### merging, once more -/
structure MOk2 (next : List (List Int)) (cells : List (BitVec 256)) (b : Nat) (st : MS) : Prop where
  at_ : ∀ (i p : Nat), st.cell[i]? = some p → ∃ c, st.cols[p]? = some c ∧ alikeB next c (cellOf cells i) = true
  some_ : ∀ p, p < st.cols.length → ∃ i, i < b ∧ st.cell[i]? = some p
theorem alikeB_refl (next : List (List Int)) (c : Nat) : alikeB next c c = true := by simp [alikeB]
theorem mRun_ok2 {next : List (List Int)} {cells : List (BitVec 256)} {sp : Nat → BitVec 256} (hc : ∀ b, b < 256 → cellOf cells b < cells.length) : ∀ b, b ≤ 256 → MOk2 next cells b (mRun next cells sp b)
  | 0, _ => ⟨(fun i p h => by simp [mRun] at h), (fun p h => by simp [mRun] at h)⟩
  | b + 1, hb => by
    have ih := mRun_ok2 (next := next) (sp := sp) hc b (by omega)
    have ho := mRun_ok (next := next) (sp := sp) hc b (by omega)
    unfold mRun mStep mNew
    cases hf : mFind next (mRun next cells sp b).cols (cellOf cells b) with
    | some k =>
      unfold mFind at hf
      obtain ⟨hk, hal, _⟩ := List.findIdx?_eq_some_iff_getElem.1 hf
      refine ⟨fun i p h => ?_, fun p hp => ?_⟩
      · simp only at h ⊢
        by_cases hib : i < b
        · rw [List.getElem?_append_left (by rw [ho.cell]; exact hib)] at h
          exact ih.at_ i p h
        · rw [List.getElem?_append_right (by rw [ho.cell]; omega), ho.cell] at h
          have h0 := (List.getElem?_eq_some_iff.1 h).1
          simp only [List.length_singleton] at h0
          rw [show i - b = 0 by omega, List.getElem?_cons_zero] at h
          cases h
          rw [show i = b by omega]
          exact ⟨_, List.getElem?_eq_getElem hk, hal⟩
      · simp only at hp ⊢
        obtain ⟨i, h1, h2⟩ := ih.some_ p hp
        exact ⟨i, by omega, by rw [List.getElem?_append_left (by rw [ho.cell]; exact h1)]; exact h2⟩
    | none =>
      refine ⟨fun i p h => ?_, fun p hp => ?_⟩
      · simp only at h ⊢
        by_cases hib : i < b
        · rw [List.getElem?_append_left (by rw [ho.cell]; exact hib)] at h
          obtain ⟨c, h1, h2⟩ := ih.at_ i p h
          exact ⟨c, by rw [List.getElem?_append_left (List.getElem?_eq_some_iff.1 h1).1]; exact h1, h2⟩
        · rw [List.getElem?_append_right (by rw [ho.cell]; omega), ho.cell] at h
          have h0 := (List.getElem?_eq_some_iff.1 h).1
          simp only [List.length_singleton] at h0
          rw [show i - b = 0 by omega, List.getElem?_cons_zero] at h
          cases h
          rw [show i = b by omega]
          exact ⟨cellOf cells b, by simp, alikeB_refl _ _⟩
      · simp only [List.length_append, List.length_singleton] at hp ⊢
        by_cases hpl : p < (mRun next cells sp b).cols.length
        · obtain ⟨i, h1, h2⟩ := ih.some_ p hpl
          exact ⟨i, by omega, by rw [List.getElem?_append_left (by rw [ho.cell]; exact h1)]; exact h2⟩
        · exact ⟨b, by omega, by rw [List.getElem?_append_right (by rw [ho.cell]; omega), ho.cell, Nat.sub_self, List.getElem?_cons_zero]; congr 1; omega⟩
attribute [local irreducible] mRun atRun
theorem alikeB_row {next : List (List Int)} {c d : Nat} {row : List Int} (h : alikeB next c d = true) (hr : row ∈ next) : row[c]? = row[d]? := by
  unfold alikeB at h
  simp only [Bool.or_eq_true, beq_iff_eq, List.all_eq_true] at h
  rcases h with h | h
  · rw [h]
  · exact h row hr
theorem sig_cell {cells : List (BitVec 256)} {a b : Nat} (h : sigEq cells a b = true) : cellOf cells a = cellOf cells b := by
  unfold cellOf
  unfold sigEq at h
  rw [List.all_eq_true] at h
  induction cells with
  | nil => rfl
  | cons c cs ih =>
    have h1 : c.getLsbD a = c.getLsbD b := by simpa using h c List.mem_cons_self
    rw [List.findIdx_cons, List.findIdx_cons, h1, ih fun x hx => h x (List.mem_cons_of_mem _ hx)]

theorem madeD_step {cells : List (BitVec 256)} {next : List (List Int)} {final : List Bool} {q b : Nat} {row : List Int} (hq : next[q]? = some row) (hb : b < 256) : stepD (madeD cells next final) (q : Int) b = row.getD (cellOf cells b) 0 := by
  have hok := atRun_ok cells 256
  obtain ⟨p, hp⟩ := get_some (l := (atRun cells 256).2) (k := b) (by rw [hok.plen]; exact hb)
  have hpl := hok.lt p (List.mem_of_getElem? hp)
  obtain ⟨g, hg⟩ := get_some hpl
  have hsig := (hok.sig b p g hp hg).1
  refine stepD_at (row := rowR cells (atRun cells 256).1 row) (c := p) (by simp only [madeD]; rw [List.getElem?_map, hq]; rfl) (by simp only [madeD]; exact asI_get hp) ?_
  unfold rowR
  rw [List.getElem?_map, hg]
  simp only [Option.map_some, sig_cell hsig]

/-! ### one step -/
section
variable {cells : List (BitVec 256)} {next : List (List Int)} {final : List Bool} (hs : soundB cells next final.length = true)
include hs
theorem madeM_row {q b : Nat} {row : List Int} (hq : next[q]? = some row) (hb : b < 256) : ∃ rA p, (madeM cells next final).next[q]? = some rA ∧ (madeM cells next final).cell[b]? = some p ∧ rA[p]? = some (row.getD (cellOf cells b) 0) := by
  have hc := fun b hb => (soundB_cells hs (b := b) hb).1
  have ho := mRun_ok (next := next) (sp := fun b => spanS b b) hc 256 (Nat.le_refl _)
  have h2 := mRun_ok2 (next := next) (sp := fun b => spanS b b) hc 256 (Nat.le_refl _)
  obtain ⟨p, hp⟩ := get_some (l := (mRun next cells (fun b => spanS b b) 256).cell) (k := b) (by rw [ho.cell]; exact hb)
  obtain ⟨c, hcol, hal⟩ := h2.at_ b p hp
  refine ⟨rowOf (mRun next cells (fun b => spanS b b) 256).cols row, p, by simp only [madeM]; rw [List.getElem?_map, hq]; rfl, hp, ?_⟩
  unfold rowOf
  rw [List.getElem?_map, hcol]
  simp only [Option.map_some, Option.some.injEq]
  rw [List.getD_eq_getElem?_getD, List.getD_eq_getElem?_getD, alikeB_row hal (List.mem_of_getElem? hq)]
theorem madeM_step {q b : Nat} {row : List Int} (hq : next[q]? = some row) (hb : b < 256) : stepM (some (madeM cells next final)) (q : Int) b = row.getD (cellOf cells b) 0 := by
  obtain ⟨rA, p, h1, h2, h3⟩ := madeM_row hs hq hb
  have := (List.getElem?_eq_some_iff.1 h1).1
  unfold stepM
  rw [if_neg (by simp [stN]; omega)]
  simp only [Int.toNat_natCast, h1, List.getD_eq_getElem?_getD, h2, Option.getD_some, h3]
theorem madeD_ok : (madeD cells next final).Ok := by
  obtain ⟨n1, n2, n3, hrows⟩ := soundB_rows hs
  have hok := atRun_ok cells 256
  refine ⟨by simpa [madeD] using n1, by simpa [madeD] using n2, by simp [madeD, n3], by simp [madeD, asI_len, hok.plen], fun row hr => ?_⟩
  simp only [madeD, List.mem_map] at hr
  obtain ⟨r, hr, rfl⟩ := hr
  obtain ⟨h1, h2⟩ := hrows r hr
  have hfl := hok.flen
  refine ⟨by rw [rowR_len]; exact hfl, fun c hc => ?_, fun t ht => ?_⟩
  · simp only [madeD, asI, List.mem_map] at hc
    obtain ⟨p, hp, rfl⟩ := hc
    have := hok.lt p hp
    rw [rowR_len]; omega
  · unfold rowR at ht
    obtain ⟨g, hg, rfl⟩ := List.mem_map.1 ht
    obtain ⟨i, hi⟩ := List.getElem?_of_mem hg
    have hc := (soundB_cells hs (hok.first i g hi).1).1
    simp only [madeD, List.length_map]
    rw [List.getD_eq_getElem?_getD, List.getElem?_eq_getElem (by omega), Option.getD_some]
    exact h2 _ (List.getElem_mem _)
end
theorem LiveT.sub {n1 n2 : List (List Int)} {final : List Bool} (h : ∀ (q : Nat) row (t : Nat), n1[q]? = some row → (t : Int) ∈ row → ∃ row', n2[q]? = some row' ∧ (t : Int) ∈ row') {q : Nat} (hl : LiveT n1 final q) : LiveT n2 final q := by
  induction hl with
  | fin hf => exact .fin hf
  | step hr ht _ ih =>
    obtain ⟨row', h1, h2⟩ := h _ _ _ hr ht
    exact .step h1 h2 ih
theorem made_live {cells : List (BitVec 256)} {next : List (List Int)} {final : List Bool} (hs : soundB cells next final.length = true) (q : Nat) : LiveT (madeM cells next final).next final q ↔ LiveT (madeD cells next final).next final q := by
  have hok := atRun_ok cells 256
  have hM := madeM_ok hs
  have hc := fun b hb => (soundB_cells hs (b := b) hb).1
  have h2 := mRun_ok2 (next := next) (sp := fun b => spanS b b) hc 256 (Nat.le_refl _)
  constructor
  · refine LiveT.sub fun q rA t hr ht => ?_
    have hq : q < next.length := by have := (List.getElem?_eq_some_iff.1 hr).1; simpa [madeM] using this
    obtain ⟨row, hrow⟩ := get_some hq
    obtain ⟨p, hp⟩ := List.getElem?_of_mem ht
    have hrl := (hM.rows rA (List.mem_of_getElem? hr)).1
    have hpl : p < (mRun next cells (fun b => spanS b b) 256).cols.length := by
      have h3 := (List.getElem?_eq_some_iff.1 hp).1
      have ho := mRun_ok (next := next) (sp := fun b => spanS b b) hc 256 (Nat.le_refl _)
      rw [hrl] at h3
      rw [ho.len]; exact h3
    obtain ⟨b, hb, hcell⟩ := h2.some_ p hpl
    have e1 := madeM_step hs hrow hb
    obtain ⟨rA', p', g1, g2, g3⟩ := madeM_row hs hrow hb
    rw [hr] at g1; cases g1
    have : p' = p := by
      have : (madeM cells next final).cell[b]? = some p := hcell
      rw [this] at g2; exact (Option.some.inj g2).symm
    subst this
    rw [hp] at g3
    have e2 := madeD_step (cells := cells) (final := final) hrow hb
    obtain ⟨row', c, t', k1, k2, k3, _, _, _, k4⟩ := (madeD_ok hs).at (q := q) (b := b) (by simpa [madeD] using hq) hb
    rw [stepD_at k1 k2 k3] at e2
    refine ⟨row', k1, ?_⟩
    rw [Option.some.inj g3, ← e2]; exact k4
  · refine LiveT.sub fun q rD t hr ht => ?_
    have hq : q < next.length := by have := (List.getElem?_eq_some_iff.1 hr).1; simpa [madeD] using this
    obtain ⟨row, hrow⟩ := get_some hq
    have hrD : rD = rowR cells (atRun cells 256).1 row := by
      simp only [madeD] at hr
      rw [List.getElem?_map, hrow] at hr
      exact (Option.some.inj hr).symm
    subst hrD
    unfold rowR at ht
    obtain ⟨g, hg, hgt⟩ := List.mem_map.1 ht
    obtain ⟨i, hi⟩ := List.getElem?_of_mem hg
    have hg256 := (hok.first i g hi).1
    obtain ⟨rA, p, g1, g2, g3⟩ := madeM_row hs hrow hg256
    exact ⟨rA, g1, by rw [← hgt]; exact List.mem_of_getElem? g3⟩

/-! ### both -/
section
variable (cells : List (BitVec 256)) (next : List (List Int)) (final : List Bool)
theorem dfaOf_ok : (dfaOf cells next final).Ok := by
  unfold dfaOf
  split
  · rename_i h; exact madeD_ok h
  · refine ⟨by decide, by decide, rfl, by simp [noneD], fun row hr => ?_⟩
    simp only [noneD, List.mem_singleton] at hr
    subst hr
    refine ⟨by decide, fun c hc => ?_, fun t ht => ?_⟩
    · simp only [noneD] at hc
      rw [List.eq_of_mem_replicate hc]; decide
    · rw [List.mem_singleton.1 ht]; decide
theorem both_n : (stN (autoOf cells next final) : Nat) = (dfaOf cells next final).next.length := by
  unfold autoOf dfaOf
  split
  · simp [stN, madeM, madeD]
  · rfl
theorem both_step (q : Int) {b : Nat} (hb : b < 256) : stepM (autoOf cells next final) q b = stepD (dfaOf cells next final) q b := by
  have hn := both_n cells next final
  by_cases hq : q < 0 ∨ ((dfaOf cells next final).next.length : Int) ≤ q
  · unfold stepM stepD
    rw [if_pos hq, if_pos (by rw [hn]; exact hq)]
  · obtain ⟨n, rfl⟩ := Int.eq_ofNat_of_zero_le (show 0 ≤ q by omega)
    unfold autoOf dfaOf at *
    split
    · rename_i hs
      rw [if_pos hs] at hq
      obtain ⟨row, hrow⟩ := get_some (l := next) (k := n) (by simp only [madeD, List.length_map] at hq; omega)
      rw [madeM_step hs hrow hb, madeD_step (cells := cells) (final := final) hrow hb]
    · rename_i hs
      rw [if_neg hs] at hq
      have hn0 : n = 0 := by
        have : noneD.next.length = 1 := rfl
        omega
      subst hn0
      rw [stepD_at (row := [0]) (c := 0) (t := 0) rfl (by simp only [noneD]; rw [List.getElem?_replicate, if_pos hb]; rfl) rfl]
      rfl
theorem both_final (q : Int) : finM (autoOf cells next final) q = finD (dfaOf cells next final) q := by
  unfold autoOf dfaOf
  split
  · rfl
  · unfold finM finD
    by_cases h : q.toNat = 0
    · rw [h]; simp [noneD]
    · have : noneD.final[q.toNat]? = none := List.getElem?_eq_none (by show 1 ≤ _; omega)
      rw [this]; simp
open Classical in
theorem both_alive (q : Int) : aliveM (autoOf cells next final) q = aliveD (dfaOf cells next final) q := by
  unfold autoOf dfaOf
  split
  · rename_i hs
    unfold aliveM aliveD
    exact decide_eq_decide.2 (made_live hs q.toNat)
  · unfold aliveM aliveD
    have : ∀ q, ¬ LiveT noneD.next noneD.final q := fun q hl => by
      induction hl with
      | @fin q hf =>
        have : q < 1 := (List.getElem?_eq_some_iff.1 hf).1
        have : q = 0 := by omega
        subst this
        simp [noneD] at hf
      | step _ _ _ ih => exact ih
    exact (decide_eq_false (this _)).symm
end

end Go.Proofs.YtfbghcpdinlmcaaGreatDoor
/- The law DfaTables: its walk. -/
set_option linter.unusedVariables false
set_option linter.unusedSimpArgs false
set_option maxRecDepth 100000
namespace Go.Proofs.YtfbghcpdinlmcaaGreatDoor
open Go.VC
attribute [local irreducible] mRun atRun

end Go.Proofs.YtfbghcpdinlmcaaGreatDoor
/- same: is the automaton the document's? -/
set_option linter.unusedVariables false
set_option linter.unusedSimpArgs false
set_option maxRecDepth 100000
namespace Go.Proofs.YtfbghcpdinlmcaaGreatDoor
open Go.VC
attribute [local irreducible] mRun atRun

end Go.Proofs.YtfbghcpdinlmcaaGreatDoor
