/- nfa.Reach, nfa.Accepts: the walks. -/
import Derived.Test.YtlnmhfhdjnenoaaPNfa3
set_option linter.unusedVariables false
set_option linter.unusedSimpArgs false
set_option maxRecDepth 100000
namespace Go.Proofs.Ytlnmhfhdjnenoaa
open Go.VC
def byN (s : ByteArray) : List Nat := s.data.toList.map UInt8.toNat
theorem byN_len (s : ByteArray) : (byN s).length = s.size := by unfold byN; rw [List.length_map]; exact Array.length_toList
theorem byN_get {s : ByteArray} {i : Nat} {b : UInt8} (h : s.data[i]? = some b) : (byN s)[i]? = some b.toNat := by
  unfold byN
  rw [List.getElem?_map, Array.getElem?_toList, h]; rfl
theorem getB {s : ByteArray} {k : Nat} (h : k < s.size) : ∃ b, s.data[k]? = some b := ⟨s.data[k]'h, Array.getElem?_eq_getElem h⟩
theorem stl_shut {a : NfM} {X Y : PS} {q : Int} (h : StlR a X q Y) (hX : Shut_ a X) : Shut_ a Y := fun e h1 h2 h3 h4 => by
  by_cases hx : X e.fr
  · exact h.sub _ (hX e h1 h2 h3 hx)
  · exact h.shut _ h4 hx e h1 h2 rfl h3
theorem keys_v {B : Nat → Prop} {H0 H : Heap} {nb : Nat} {ps : List Pc} {K : Value → Heap → Prop} (st : StB B H0 H ps)
    (k : ∀ bx H', StB B H0 H' (ps ++ [pB 90 bx [.map (some nb)]]) → K (.func (.func 46) #[] #[.pointer (some ⟨bx, 0, none⟩)]) H') :
    VCall Try.prog 36 #[.map (some nb)] H K := by
  refine VCall.mk (R := fun v H' => ∃ bx, v = .func (.func 46) #[] #[.pointer (some ⟨bx, 0, none⟩)] ∧ StB B H0 H' (ps ++ [pB 90 bx [.map (some nb)]])) ?_ ?_
  · refine FnOk.of_vc Try.func36 rfl (Try.call36 _) ?_
    (conv => whnf); refine vbox [.map (some nb)] rfl ?_
    intro b1 H1 hb1 hs1 hk1 ha1
    have st1 := st.box hb1 hs1 hk1 ha1
    (conv => whnf)
    exact ⟨b1, rfl, st1⟩
  · rintro _ H' ⟨b1, rfl, st'⟩
    exact k b1 H' st'
set_option maxHeartbeats 8000000 in
theorem reach_n {S : Nat → Prop} {H : Heap} {v : Value} {a : NfM} {s : ByteArray} (hS : ∀ k, S k → k < H.size) (h : NfV S H v a) (hs : s.size ≤ maxLen) :
    FnOk Try.prog 16 #[v, .string s] H fun r H' => Agr (Old H) H H' ∧ ∃ ra rc, r = .slice ra (rchL a (byN s)).length rc ∧ SlO tIk none_ H' H.size 3 (.slice ra (rchL a (byN s)).length rc) (rchL a (byN s)) := by
  have hr := h.1
  have hl := h.2.1
  unfold maxLen at hs
  refine FnOk.of_vc Try.func16 rfl (Try.call16 _) ?_
  (conv => whnf); refine nf_box h fun ea ec he h1 => ?_
  subst he
  intro p H1 hp hs1 hb1 ha1
  have st1 := (St.nil H).box hp hs1 hb1 ha1
  (conv => whnf); refine nf_load hr hl (st1.blk 0 rfl) ag25 trivial (h1.frame (st1.old.mono hS)) fun v1 hv1 => ?_
  (conv => whnf); refine VCall.mk (ways_c (fun k hk => st1.up (hS k hk)) hv1) ?_
  rintro _ H2 ⟨mb, m0, rfl, stw⟩
  have st2 := st1.addSt stw
  have hf : FromV (Old H2) H2 mb a := FromV.ofSt st2 1 rfl
  have h02 := st2.old
  have hb2 := st2.blk 0 rfl
  have hbp : p < H2.size := hb2.lt
  have h12 := h1.frame (h02.mono hS)
  have hS2 : ∀ k, S k → k < H2.size := fun k hk => old_lt h02 (hS k hk)
  have hcl : ∀ {X : PS} {q : Int}, (∀ q, X q → a.has q = true) → X q → 0 ≤ q ∧ q < 65536 := fun hX hq => has_rng hX _ hq
  (conv => whnf); refine mmakeW (Ok := anyK) (enc := kI) fun nb H3 hb3 hs3 hm3 ha3 => ?_
  have st3 : St H2 H3 [pMW anyK kI nb fun _ => none] := (St.nil H2).mapNewW hb3 hs3 hm3 ha3
  have hb3' := hb2.agr st3.old hbp
  (conv => whnf); refine VSeq.cut (α := Nat) [6] (fun nb => [.map (some nb)]) (fun nb H4 => ∃ mm, St H2 H4 [pMW anyK kI nb mm] ∧ ∀ q, Dom mm q ↔ begS a q) ?_ fun nb H4 junk4 hI4 => ?_
  · (conv => whnf); refine nf_load hr hl hb3' ag25 trivial (h12.frame (st3.old.mono hS2)) fun v4 hv4 => ?_
    (conv => whnf); refine fa fl25_1 ?_
    (conv => whnf); refine ld1 (v := .int .i64 a.start) ct3 (by rw [hb3'.cell]; rfl) trivial ?_
    (conv => whnf); refine pures (has_p hv4) fun H4 ha4 => ?_
    have st4 := st3.call ha4
    have hb4 := hb2.agr st4.old hbp
    cases hst : a.has a.start with
    | false =>
      (conv => whnf)
      refine ⟨rfl, nb, rfl, _, st4, fun q => ⟨fun hq => (by cases hq), fun hq => ?_⟩⟩
      obtain ⟨r, ⟨-, h2⟩, -⟩ := hq
      rw [hst] at h2; cases h2
    | true =>
      (conv => whnf); refine fa fl25_1 ?_
      (conv => whnf); refine ld1 (v := .int .i64 a.start) ct3 (by rw [hb4.cell]; rfl) trivial ?_
      (conv => whnf); refine VCall.mk (settle_c hf (NfM.has_iff.1 hst).2.2 _ st4 hst (Nat.lt_succ_self _)) ?_
      rintro _ H5 ⟨mm, st5, hstl⟩
      (conv => whnf)
      refine ⟨rfl, nb, rfl, mm, st5, fun q => ⟨fun hq => ?_, fun hq => ?_⟩⟩
      · rcases hstl.new q hq with h | h
        · cases h
        · exact ⟨a.start, ⟨rfl, hst⟩, h⟩
      · exact clS_least (Y := Dom mm) (fun r hr => by rw [hr.1]; exact hstl.own) (stl_shut hstl fun e _ _ _ h => by cases h) q hq
  obtain ⟨mm4, st4, hmm4⟩ := hI4
  (conv => whnf)
  refine VLoop.mk [6, 26] (fun x : Nat × Nat => match x with | (i, nb) => [.map (some nb), .int .i64 (i : Int)]) (fun x H5 => x.1 ≤ s.size ∧ ∃ mm, St H2 H5 [pMW anyK kI x.2 mm] ∧ ∀ q, Dom mm q ↔ rchS a ((byN s).take x.1) q) (fun x _ => s.size - x.1) ?_ ?_
  · (conv => whnf)
    exact ⟨(0, nb), rfl, Nat.zero_le _, mm4, st4, hmm4⟩
  · rintro ⟨i, nb5⟩ H5 junk5 ⟨hi, mm5, st5, hmm5⟩
    simp only at hi st5 hmm5
    (conv => whnf); refine VIte.mk (fun hz => ?_) (fun hz => ?_) <;> simp only [decide_eq_true_eq, decide_eq_false_iff_not] at hz
    · obtain ⟨b, hb⟩ := getB (s := s) (k := i) (by omega)
      have hX : ∀ q, Dom mm5 q → a.has q = true := fun q hq => rchS_has a _ q ((hmm5 q).1 hq)
      (conv => whnf); refine mmakeW (Ok := anyK) (enc := kI) fun nx H6 hb6 hs6 hm6 ha6 => ?_
      have st6 := st5.mapNewW hb6 hs6 hm6 ha6
      (conv => whnf); refine mrangeP st6 0 mapII rfl fun r n H7 st7 => ?_
      (conv => whnf)
      refine VLoop.mk [] (fun _ : Nat => []) (fun n H8 => ∃ D last my, St H2 H8 [pIW anyK kI nb5 r mm5 D last n, pMW anyK kI nx my] ∧ (∀ q, D q → Dom mm5 q) ∧ (∀ q, Dom my q → goS a (Dom mm5) b.toNat q) ∧ Shut_ a (Dom my) ∧
        ∀ q, D q → ∀ e ∈ outE a q, e.sil = false → e.set.getLsbD b.toNat = true → Dom my e.to) (fun n _ => n) ?_ ?_
      · (conv => whnf)
        exact ⟨n, rfl, _, none, _, st7, fun q h => h.elim, (fun q h => by cases h), (fun e _ _ _ h => by cases h), fun q h => h.elim⟩
      · rintro n8 H8 junk8 ⟨D, last, my, st8, hD, hgo, hsh, hall⟩
        (conv => whnf); refine mnextP st8 0 keyIW.inj rfl (fun hend => ?_) fun q vq H9 n9 hq hnD hlt st9 => ?_
        · (conv => whnf); rw [w64 (x := (i : Int) + 1) (by omega) (by omega)]
          refine ⟨rfl, (i + 1, nx), by simp, ⟨by simp only; omega, my, (st8.pick [1] (by decide)), fun q => ?_⟩, by simp only; omega⟩
          simp only
          rw [take_succ_snoc (byN_get hb), rchS_snoc, ← goS_ext hmm5]
          refine ⟨hgo q, fun hq => clS_least (Y := Dom my) (fun t ht => ?_) hsh q hq⟩
          obtain ⟨e, h1, h2, h3, h4, h5, rfl⟩ := ht
          exact hall e.fr (hend _ h4) e (outE_mem.2 ⟨h1, hX _ h4, h5, rfl⟩) h2 h3
        · have hdq : Dom mm5 q := by unfold Dom; rw [hq]; rfl
          obtain ⟨m, hmap, hview⟩ := hf.ex
          obtain ⟨ad, cap, hsl, hd⟩ := hview q
          (conv => whnf); refine mhere (st9.iterW 0 rfl) keyIW.inj hq ?_
          (conv => whnf); refine mlookW (a := q) (m := m) mapEd keyIW trivial (hmap.agr st9.old hf.at_) trivial ?_
          have e1 : (m q).getD (.slice none 0 0) = .slice ad (outE a q).length cap := hsl
          rw [e1]
          (conv => whnf)
          refine VLoop.mk [40] (fun k : Nat => [.int .i64 (k : Int)]) (fun k H10 => k ≤ (outE a q).length ∧ ∃ my, St H2 H10 [pIW anyK kI nb5 r mm5 (fun x => D x ∨ x = q) (some q) n9, pMW anyK kI nx my] ∧ (∀ q, Dom my q → goS a (Dom mm5) b.toNat q) ∧ Shut_ a (Dom my) ∧
            (∀ q, D q → ∀ e ∈ outE a q, e.sil = false → e.set.getLsbD b.toNat = true → Dom my e.to) ∧ ∀ e ∈ (outE a q).take k, e.sil = false → e.set.getLsbD b.toNat = true → Dom my e.to) (fun k _ => (outE a q).length - k) ?_ ?_
          · (conv => whnf)
            exact ⟨0, rfl, Nat.zero_le _, my, st9, hgo, hsh, hall, fun e he => by cases he⟩
          · rintro k H10 junk10 ⟨hk, my, st10, hgo, hsh, hall, hdone⟩
            have hd10 := hd.frame st10.old
            (conv => whnf); refine VIte.mk (fun hz2 => ?_) (fun hz2 => ?_) <;> simp only [decide_eq_true_eq, decide_eq_false_iff_not] at hz2
            · obtain ⟨e, he⟩ := get_some (l := outE a q) (k := k) (by omega)
              obtain ⟨he1, he2, he3, he4⟩ := outE_mem.1 (List.mem_of_getElem? he)
              have hlen := hd10.le
              unfold maxLen at hlen
              (conv => whnf); refine VSeq.run ?_
              (conv => whnf); refine ixr (i := k) sl23 hd10 he rfl ?_
              rintro b6 o6 c6 hS6 hc6 ⟨rfl, hok⟩
              (conv => whnf); refine ldN (cs := edL e) ag81 hc6 trivial ?_
              (conv => whnf); refine valloc _ [.int .i64 0, .int .i64 0, .bool false, .int .u64 0, .int .u64 0, .int .u64 0, .int .u64 0] edge_z rfl ?_
              intro x H11 hx hs11 hb11 ha11
              have st11 := st10.box hx hs11 hb11 ha11
              (conv => whnf); refine stNB (cs := edL e) st11 2 rfl rfl (Nat.le_refl _) rfl fun H12 st12 => ?_
              rw [splice_all (show (edL e).length = 7 from rfl)] at st12
              have hbx := st12.blk 2 rfl
              have hxl := (st12.in_ 2 rfl rfl).2
              have fin : ∀ {H' : Heap} {mz : Int → Option Value}, St H2 H' [pIW anyK kI nb5 r mm5 (fun x => D x ∨ x = q) (some q) n9, pMW anyK kI nx mz] → (∀ q, Dom my q → Dom mz q) → (∀ q, Dom mz q → goS a (Dom mm5) b.toNat q) → Shut_ a (Dom mz) → (e.sil = false → e.set.getLsbD b.toNat = true → Dom mz e.to) →
                  ∃ y : Nat, [Value.int .i64 ((k : Int) + 1)] = [Value.int .i64 (y : Int)] ∧ (y ≤ (outE a q).length ∧ ∃ my, St H2 H' [pIW anyK kI nb5 r mm5 (fun x => D x ∨ x = q) (some q) n9, pMW anyK kI nx my] ∧ (∀ q, Dom my q → goS a (Dom mm5) b.toNat q) ∧ Shut_ a (Dom my) ∧
                    (∀ q, D q → ∀ e ∈ outE a q, e.sil = false → e.set.getLsbD b.toNat = true → Dom my e.to) ∧ ∀ e ∈ (outE a q).take y, e.sil = false → e.set.getLsbD b.toNat = true → Dom my e.to) ∧ (outE a q).length - y < (outE a q).length - k := fun {H' mz} t1 t2 t3 t4 t5 => by
                refine ⟨k + 1, by simp, ⟨by omega, mz, t1, t3, t4, fun q' h1 e' h2 h3 h4 => t2 _ (hall q' h1 e' h2 h3 h4), fun e' he' h3 h4 => ?_⟩, by omega⟩
                rw [take_succ_snoc he, List.mem_append, List.mem_singleton] at he'
                rcases he' with he' | rfl
                · exact t2 _ (hdone e' he' h3 h4)
                · exact t5 h3 h4
              have w1 : IntKind.wrap .i64 ((k : Int) + 1) = (k : Int) + 1 := w64 (by omega) (by omega)
              (conv => whnf); refine VDraw.quiet (Old H12) rfl (by kernel_rfl) ?_
              (conv => whnf); refine fa fl81_2 ?_
              (conv => whnf); refine ld1 (v := .bool e.sil) ct4 (by rw [hbx.cell]; rfl) hxl ?_
              cases hes : e.sil with
              | true =>
                (conv => whnf)
                intro H13 ha13
                have st13 := st12.call ha13
                (conv => whnf); rw [w1]
                exact ⟨rfl, fin (st13.pick [0, 1] (by decide)) (fun _ h => h) hgo hsh fun h => by rw [hes] at h; cases h⟩
              | false =>
                (conv => whnf); refine fa fl81_3 ?_
                (conv => whnf); refine ldN (cs := setL e.set) ag65 (hbx.cells fun j v hv => edL_set e j v hv) hxl ?_
                (conv => whnf); refine vidxs Try.underlying9 rfl hb ?_
                (conv => whnf); refine pureq (fun H' ha' => has_c e.set b.toNat (UInt8.toNat_lt b) H') ?_
                cases hbit : e.set.getLsbD b.toNat with
                | false =>
                  (conv => whnf)
                  intro H13 ha13
                  have st13 := st12.call ha13
                  (conv => whnf); rw [w1]
                  exact ⟨rfl, fin (st13.pick [0, 1] (by decide)) (fun _ h => h) hgo hsh fun _ h => by rw [hbit] at h; cases h⟩
                | true =>
                  (conv => whnf)
                  intro H13 ha13
                  have st13 := st12.call ha13
                  (conv => whnf); refine fa fl81_1 ?_
                  (conv => whnf); refine ld1 (v := .int .i64 e.to) ct3 (by rw [(st13.blk 2 rfl).cell]; rfl) trivial ?_
                  (conv => whnf); refine VCall.mk (settle_c hf (NfM.has_iff.1 he3).2.2 _ (st13.pick [1, 0] (by decide) : St H2 H13 [pMW anyK kI nx my, pIW anyK kI nb5 r mm5 (fun x => D x ∨ x = q) (some q) n9]) he3 (Nat.lt_succ_self _)) ?_
                  rintro _ H14 ⟨mz, st14, hstl⟩
                  (conv => whnf); rw [w1]
                  refine ⟨rfl, fin (st14.pick [1, 0] (by decide)) hstl.sub (fun t ht => ?_) (stl_shut hstl hsh) fun _ _ => hstl.own⟩
                  rcases hstl.new t ht with h | h
                  · exact hgo t h
                  · exact ⟨e.to, ⟨e, he1, hes, hbit, by rw [he4]; exact hdq, he3, rfl⟩, h⟩
            · obtain rfl : k = (outE a q).length := by omega
              rw [List.take_length] at hdone
              (conv => whnf)
              refine ⟨rfl, n9, rfl, ⟨_, _, my, st10, fun t ht => ?_, hgo, hsh, fun t ht => ?_⟩, hlt⟩
              · rcases ht with h | rfl
                · exact hD t h
                · exact hdq
              · rcases ht with h | rfl
                · exact hall t h
                · exact hdone
    · obtain rfl : i = s.size := by omega
      rw [List.take_of_length_le (by rw [byN_len]; exact Nat.le_refl _)] at hmm5
      have hX : ∀ q, Dom mm5 q → a.has q = true := fun q hq => rchS_has a _ q ((hmm5 q).1 hq)
      (conv => whnf); refine keys_v st5 fun bx H6 st6 => ?_
      (conv => whnf); refine VCall.mk (sortedKeys_c (fun q hq => has_rng hX q hq) st6) ?_
      rintro _ H7 ⟨ks, ra, rc, rfl, hsrt, hin, st7⟩
      (conv => whnf)
      have hks : ks = rchL a (byN s) := lstS_uniq (has_rng (rchS_has a (byN s))) hsrt fun q => (hin q).trans (hmm5 q)
      subst hks
      exact ⟨h02.trans (st7.old.mono fun k hk => old_lt h02 hk), ra, rc, rfl, (St.own st7 0 rfl).lower (old_size h02)⟩
end Go.Proofs.Ytlnmhfhdjnenoaa
