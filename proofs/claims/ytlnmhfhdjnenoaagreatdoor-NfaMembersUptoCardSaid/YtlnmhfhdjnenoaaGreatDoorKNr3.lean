/- Parts of the proof: PNfa4, PNfa5, PNfa6, PTxt, PTre, PIdx, PShw1, PShw2, VPan, VDef, VList, PRd1, PPa1, PDp1, PDBl, PSpk04, PNfa7, PDTx, VElem -/
import Derived.Test.YtlnmhfhdjnenoaaGreatDoorKNr2
import Derived.Test.YtlnmhfhdjnenoaaGreatDoorKNr1
import Derived.Shelf.Small.Strs
import Derived.Shelf.LaysM
import Derived.Recover
/- nfa.Reach, nfa.Accepts: the walks. -/
set_option linter.unusedVariables false
set_option linter.unusedSimpArgs false
set_option maxRecDepth 100000
namespace Go.Proofs.YtlnmhfhdjnenoaaGreatDoor
open Go.VC
theorem stl_shut {a : NfM} {X Y : PS} {q : Int} (h : StlR a X q Y) (hX : Shut_ a X) : Shut_ a Y := fun e h1 h2 h3 h4 => by
  by_cases hx : X e.fr
  · exact h.sub _ (hX e h1 h2 h3 hx)
  · exact h.shut _ h4 hx e h1 h2 rfl h3
theorem keys_v {B : Nat → Prop} {H0 H : Heap} {nb : Nat} {ps : List Pc} {K : Value → Heap → Prop} (st : StB B H0 H ps)
    (k : ∀ bx H', StB B H0 H' (ps ++ [pB 149 bx [.map (some nb)]]) → K (.func (.func 90) #[] #[.pointer (some ⟨bx, 0, none⟩)]) H') :
    VCall Tryz.prog 68 #[.map (some nb)] H K := by
  refine VCall.mk (R := fun v H' => ∃ bx, v = .func (.func 90) #[] #[.pointer (some ⟨bx, 0, none⟩)] ∧ StB B H0 H' (ps ++ [pB 149 bx [.map (some nb)]])) ?_ ?_
  · refine FnOk.of_vc Tryz.func68 rfl (Tryz.call68 _) ?_
    (conv => whnf); refine vbox [.map (some nb)] rfl ?_
    intro b1 H1 hb1 hs1 hk1 ha1
    have st1 := st.box hb1 hs1 hk1 ha1
    (conv => whnf)
    exact ⟨b1, rfl, st1⟩
  · rintro _ H' ⟨b1, rfl, st'⟩
    exact k b1 H' st'
set_option maxHeartbeats 8000000 in
theorem reach_n {S : Nat → Prop} {H : Heap} {v : Value} {a : NfM} {s : ByteArray} (hS : ∀ k, S k → k < H.size) (h : NfV S H v a) (hs : s.size ≤ maxLen) :
    FnOk Tryz.prog 41 #[v, .string s] H fun r H' => Agr (Old H) H H' ∧ ∃ ra rc, r = .slice ra (rchL a (byN s)).length rc ∧ SlO tIk none_ H' H.size 3 (.slice ra (rchL a (byN s)).length rc) (rchL a (byN s)) := by
  have hr := h.1
  have hl := h.2.1
  unfold maxLen at hs
  refine FnOk.of_vc Tryz.func41 rfl (Tryz.call41 _) ?_
  (conv => whnf); refine nf_box h fun ea ec he h1 => ?_
  subst he
  intro p H1 hp hs1 hb1 ha1
  have st1 := (St.nil H).box hp hs1 hb1 ha1
  (conv => whnf); refine nf_load hr hl (st1.blk 0 rfl) ag37 trivial (h1.frame (st1.old.mono hS)) fun v1 hv1 => ?_
  (conv => whnf); refine VCall.mk (ways_c (fun k hk => st1.up (hS k hk)) hv1) ?_
  rintro _ H2 ⟨mb, m0, rfl, stw⟩
  have st2 := st1.addSt stw
  have hf : FromV (Old H2) H2 mb a := FromV.ofSt st2 1 rfl
  have h02 := st2.old
  have hb2 := st2.blk 0 rfl
  have hbp : p < H2.size := hb2.lt
  have h12 := h1.frame (h02.mono hS)
  have hS2 : ∀ k, S k → k < H2.size := fun k hk => old_lt h02 (hS k hk)
  have hcl : ∀ {X : PS} {q : Int}, (∀ q, X q → a.has q = true) → X q → 0 ≤ q ∧ q < 65536 := fun hX hq => has_rng hX _ hq
  (conv => whnf); refine mmakeW (Ok := anyK) (enc := kI) fun nb H3 hb3 hs3 hm3 ha3 => ?_
  have st3 : St H2 H3 [pMW anyK kI nb fun _ => none] := (St.nil H2).mapNewW hb3 hs3 hm3 ha3
  have hb3' := hb2.agr st3.old hbp
  (conv => whnf); refine VSeq.cut (α := Nat) [6] (fun nb => [.map (some nb)]) (fun nb H4 => ∃ mm, St H2 H4 [pMW anyK kI nb mm] ∧ ∀ q, Dom mm q ↔ begS a q) ?_ fun nb H4 junk4 hI4 => ?_
  · (conv => whnf); refine nf_load hr hl hb3' ag37 trivial (h12.frame (st3.old.mono hS2)) fun v4 hv4 => ?_
    (conv => whnf); refine fa fl37_1 ?_
    (conv => whnf); refine ld1 (v := .int .i64 a.start) ct3 (by rw [hb3'.cell]; rfl) trivial ?_
    (conv => whnf); refine pures (has_p hv4) fun H4 ha4 => ?_
    have st4 := st3.call ha4
    have hb4 := hb2.agr st4.old hbp
    cases hst : a.has a.start with
    | false =>
      (conv => whnf)
      refine ⟨rfl, nb, rfl, _, st4, fun q => ⟨fun hq => (by cases hq), fun hq => ?_⟩⟩
      obtain ⟨r, ⟨-, h2⟩, -⟩ := hq
      rw [hst] at h2; cases h2
    | true =>
      (conv => whnf); refine fa fl37_1 ?_
      (conv => whnf); refine ld1 (v := .int .i64 a.start) ct3 (by rw [hb4.cell]; rfl) trivial ?_
      (conv => whnf); refine VCall.mk (settle_c hf (NfM.has_iff.1 hst).2.2 _ st4 hst (Nat.lt_succ_self _)) ?_
      rintro _ H5 ⟨mm, st5, hstl⟩
      (conv => whnf)
      refine ⟨rfl, nb, rfl, mm, st5, fun q => ⟨fun hq => ?_, fun hq => ?_⟩⟩
      · rcases hstl.new q hq with h | h
        · cases h
        · exact ⟨a.start, ⟨rfl, hst⟩, h⟩
      · exact clS_least (Y := Dom mm) (fun r hr => by rw [hr.1]; exact hstl.own) (stl_shut hstl fun e _ _ _ h => by cases h) q hq
  obtain ⟨mm4, st4, hmm4⟩ := hI4
  (conv => whnf)
  refine VLoop.mk [6, 26] (fun x : Nat × Nat => match x with | (i, nb) => [.map (some nb), .int .i64 (i : Int)]) (fun x H5 => x.1 ≤ s.size ∧ ∃ mm, St H2 H5 [pMW anyK kI x.2 mm] ∧ ∀ q, Dom mm q ↔ rchS a ((byN s).take x.1) q) (fun x _ => s.size - x.1) ?_ ?_
  · (conv => whnf)
    exact ⟨(0, nb), rfl, Nat.zero_le _, mm4, st4, hmm4⟩
  · rintro ⟨i, nb5⟩ H5 junk5 ⟨hi, mm5, st5, hmm5⟩
    simp only at hi st5 hmm5
    (conv => whnf); refine VIte.mk (fun hz => ?_) (fun hz => ?_) <;> simp only [decide_eq_true_eq, decide_eq_false_iff_not] at hz
    · obtain ⟨b, hb⟩ := getB (s := s) (k := i) (by omega)
      have hX : ∀ q, Dom mm5 q → a.has q = true := fun q hq => rchS_has a _ q ((hmm5 q).1 hq)
      (conv => whnf); refine mmakeW (Ok := anyK) (enc := kI) fun nx H6 hb6 hs6 hm6 ha6 => ?_
      have st6 := st5.mapNewW hb6 hs6 hm6 ha6
      (conv => whnf); refine mrangeP st6 0 mapII rfl fun r n H7 st7 => ?_
      (conv => whnf)
      refine VLoop.mk [] (fun _ : Nat => []) (fun n H8 => ∃ D last my, St H2 H8 [pIW anyK kI nb5 r mm5 D last n, pMW anyK kI nx my] ∧ (∀ q, D q → Dom mm5 q) ∧ (∀ q, Dom my q → goS a (Dom mm5) b.toNat q) ∧ Shut_ a (Dom my) ∧
        ∀ q, D q → ∀ e ∈ outE a q, e.sil = false → e.set.getLsbD b.toNat = true → Dom my e.to) (fun n _ => n) ?_ ?_
      · (conv => whnf)
        exact ⟨n, rfl, _, none, _, st7, fun q h => h.elim, (fun q h => by cases h), (fun e _ _ _ h => by cases h), fun q h => h.elim⟩
      · rintro n8 H8 junk8 ⟨D, last, my, st8, hD, hgo, hsh, hall⟩
        (conv => whnf); refine mnextP st8 0 keyIW.inj rfl (fun hend => ?_) fun q vq H9 n9 hq hnD hlt st9 => ?_
        · (conv => whnf); rw [w64 (x := (i : Int) + 1) (by omega) (by omega)]
          refine ⟨rfl, (i + 1, nx), by simp, ⟨by simp only; omega, my, (st8.pick [1] (by decide)), fun q => ?_⟩, by simp only; omega⟩
          simp only
          rw [take_succ_snoc (byN_get hb), rchS_snoc, ← goS_ext hmm5]
          refine ⟨hgo q, fun hq => clS_least (Y := Dom my) (fun t ht => ?_) hsh q hq⟩
          obtain ⟨e, h1, h2, h3, h4, h5, rfl⟩ := ht
          exact hall e.fr (hend _ h4) e (outE_mem.2 ⟨h1, hX _ h4, h5, rfl⟩) h2 h3
        · have hdq : Dom mm5 q := by unfold Dom; rw [hq]; rfl
          obtain ⟨m, hmap, hview⟩ := hf.ex
          obtain ⟨ad, cap, hsl, hd⟩ := hview q
          (conv => whnf); refine mhere (st9.iterW 0 rfl) keyIW.inj hq ?_
          (conv => whnf); refine mlookW (a := q) (m := m) mapEd keyIW trivial (hmap.agr st9.old hf.at_) trivial ?_
          have e1 : (m q).getD (.slice none 0 0) = .slice ad (outE a q).length cap := hsl
          rw [e1]
          (conv => whnf)
          refine VLoop.mk [40] (fun k : Nat => [.int .i64 (k : Int)]) (fun k H10 => k ≤ (outE a q).length ∧ ∃ my, St H2 H10 [pIW anyK kI nb5 r mm5 (fun x => D x ∨ x = q) (some q) n9, pMW anyK kI nx my] ∧ (∀ q, Dom my q → goS a (Dom mm5) b.toNat q) ∧ Shut_ a (Dom my) ∧
            (∀ q, D q → ∀ e ∈ outE a q, e.sil = false → e.set.getLsbD b.toNat = true → Dom my e.to) ∧ ∀ e ∈ (outE a q).take k, e.sil = false → e.set.getLsbD b.toNat = true → Dom my e.to) (fun k _ => (outE a q).length - k) ?_ ?_
          · (conv => whnf)
            exact ⟨0, rfl, Nat.zero_le _, my, st9, hgo, hsh, hall, fun e he => by cases he⟩
          · rintro k H10 junk10 ⟨hk, my, st10, hgo, hsh, hall, hdone⟩
            have hd10 := hd.frame st10.old
            (conv => whnf); refine VIte.mk (fun hz2 => ?_) (fun hz2 => ?_) <;> simp only [decide_eq_true_eq, decide_eq_false_iff_not] at hz2
            · obtain ⟨e, he⟩ := get_some (l := outE a q) (k := k) (by omega)
              obtain ⟨he1, he2, he3, he4⟩ := outE_mem.1 (List.mem_of_getElem? he)
              have hlen := hd10.le
              unfold maxLen at hlen
              (conv => whnf); refine VSeq.run ?_
              (conv => whnf); refine ixr (i := k) sl35 hd10 he rfl ?_
              rintro b6 o6 c6 hS6 hc6 ⟨rfl, hok⟩
              (conv => whnf); refine ldN (cs := edL e) ag104 hc6 trivial ?_
              (conv => whnf); refine valloc _ [.int .i64 0, .int .i64 0, .bool false, .int .u64 0, .int .u64 0, .int .u64 0, .int .u64 0] edge_z rfl ?_
              intro x H11 hx hs11 hb11 ha11
              have st11 := st10.box hx hs11 hb11 ha11
              (conv => whnf); refine stNB (cs := edL e) st11 2 rfl rfl (Nat.le_refl _) rfl fun H12 st12 => ?_
              rw [splice_all (show (edL e).length = 7 from rfl)] at st12
              have hbx := st12.blk 2 rfl
              have hxl := (st12.in_ 2 rfl rfl).2
              have fin : ∀ {H' : Heap} {mz : Int → Option Value}, St H2 H' [pIW anyK kI nb5 r mm5 (fun x => D x ∨ x = q) (some q) n9, pMW anyK kI nx mz] → (∀ q, Dom my q → Dom mz q) → (∀ q, Dom mz q → goS a (Dom mm5) b.toNat q) → Shut_ a (Dom mz) → (e.sil = false → e.set.getLsbD b.toNat = true → Dom mz e.to) →
                  ∃ y : Nat, [Value.int .i64 ((k : Int) + 1)] = [Value.int .i64 (y : Int)] ∧ (y ≤ (outE a q).length ∧ ∃ my, St H2 H' [pIW anyK kI nb5 r mm5 (fun x => D x ∨ x = q) (some q) n9, pMW anyK kI nx my] ∧ (∀ q, Dom my q → goS a (Dom mm5) b.toNat q) ∧ Shut_ a (Dom my) ∧
                    (∀ q, D q → ∀ e ∈ outE a q, e.sil = false → e.set.getLsbD b.toNat = true → Dom my e.to) ∧ ∀ e ∈ (outE a q).take y, e.sil = false → e.set.getLsbD b.toNat = true → Dom my e.to) ∧ (outE a q).length - y < (outE a q).length - k := fun {H' mz} t1 t2 t3 t4 t5 => by
                refine ⟨k + 1, by simp, ⟨by omega, mz, t1, t3, t4, fun q' h1 e' h2 h3 h4 => t2 _ (hall q' h1 e' h2 h3 h4), fun e' he' h3 h4 => ?_⟩, by omega⟩
                rw [take_succ_snoc he, List.mem_append, List.mem_singleton] at he'
                rcases he' with he' | rfl
                · exact t2 _ (hdone e' he' h3 h4)
                · exact t5 h3 h4
              have w1 : IntKind.wrap .i64 ((k : Int) + 1) = (k : Int) + 1 := w64 (by omega) (by omega)
              (conv => whnf); refine VDraw.quiet (Old H12) rfl (by kernel_rfl) ?_
              (conv => whnf); refine fa fl104_2 ?_
              (conv => whnf); refine ld1 (v := .bool e.sil) ct4 (by rw [hbx.cell]; rfl) hxl ?_
              cases hes : e.sil with
              | true =>
                (conv => whnf)
                intro H13 ha13
                have st13 := st12.call ha13
                (conv => whnf); rw [w1]
                exact ⟨rfl, fin (st13.pick [0, 1] (by decide)) (fun _ h => h) hgo hsh fun h => by rw [hes] at h; cases h⟩
              | false =>
                (conv => whnf); refine fa fl104_3 ?_
                (conv => whnf); refine ldN (cs := setL e.set) ag102 (hbx.cells fun j v hv => edL_set e j v hv) hxl ?_
                (conv => whnf); refine vidxs Tryz.underlying9 rfl hb ?_
                (conv => whnf); refine pureq (fun H' ha' => has_c e.set b.toNat (UInt8.toNat_lt b) H') ?_
                cases hbit : e.set.getLsbD b.toNat with
                | false =>
                  (conv => whnf)
                  intro H13 ha13
                  have st13 := st12.call ha13
                  (conv => whnf); rw [w1]
                  exact ⟨rfl, fin (st13.pick [0, 1] (by decide)) (fun _ h => h) hgo hsh fun _ h => by rw [hbit] at h; cases h⟩
                | true =>
                  (conv => whnf)
                  intro H13 ha13
                  have st13 := st12.call ha13
                  (conv => whnf); refine fa fl104_1 ?_
                  (conv => whnf); refine ld1 (v := .int .i64 e.to) ct3 (by rw [(st13.blk 2 rfl).cell]; rfl) trivial ?_
                  (conv => whnf); refine VCall.mk (settle_c hf (NfM.has_iff.1 he3).2.2 _ (st13.pick [1, 0] (by decide) : St H2 H13 [pMW anyK kI nx my, pIW anyK kI nb5 r mm5 (fun x => D x ∨ x = q) (some q) n9]) he3 (Nat.lt_succ_self _)) ?_
                  rintro _ H14 ⟨mz, st14, hstl⟩
                  (conv => whnf); rw [w1]
                  refine ⟨rfl, fin (st14.pick [1, 0] (by decide)) hstl.sub (fun t ht => ?_) (stl_shut hstl hsh) fun _ _ => hstl.own⟩
                  rcases hstl.new t ht with h | h
                  · exact hgo t h
                  · exact ⟨e.to, ⟨e, he1, hes, hbit, by rw [he4]; exact hdq, he3, rfl⟩, h⟩
            · obtain rfl : k = (outE a q).length := by omega
              rw [List.take_length] at hdone
              (conv => whnf)
              refine ⟨rfl, n9, rfl, ⟨_, _, my, st10, fun t ht => ?_, hgo, hsh, fun t ht => ?_⟩, hlt⟩
              · rcases ht with h | rfl
                · exact hD t h
                · exact hdq
              · rcases ht with h | rfl
                · exact hall t h
                · exact hdone
    · obtain rfl : i = s.size := by omega
      rw [List.take_of_length_le (by rw [byN_len]; exact Nat.le_refl _)] at hmm5
      have hX : ∀ q, Dom mm5 q → a.has q = true := fun q hq => rchS_has a _ q ((hmm5 q).1 hq)
      (conv => whnf); refine keys_v st5 fun bx H6 st6 => ?_
      (conv => whnf); refine VCall.mk (sortedKeys_c (fun q hq => has_rng hX q hq) st6) ?_
      rintro _ H7 ⟨ks, ra, rc, rfl, hsrt, hin, st7⟩
      (conv => whnf)
      have hks : ks = rchL a (byN s) := lstS_uniq (has_rng (rchS_has a (byN s))) hsrt fun q => (hin q).trans (hmm5 q)
      subst hks
      exact ⟨h02.trans (st7.old.mono fun k hk => old_lt h02 hk), ra, rc, rfl, (St.own st7 0 rfl).lower (old_size h02)⟩
end Go.Proofs.YtlnmhfhdjnenoaaGreatDoor
/- The document's Begin, Go, Reach, Accepts of nondeterministic automata: the walks. -/
set_option linter.unusedVariables false
set_option linter.unusedSimpArgs false
set_option maxRecDepth 100000
namespace Go.VC
section
variable {α : Type} {T : Ty α} {e : TypeId} {a : Option Addr} {n cap : Nat} {xs ys : List α} {B S : Nat → Prop} {H0 H : Heap} {ps : List Pc}
end
end Go.VC
namespace Go.Proofs.YtlnmhfhdjnenoaaGreatDoor
open Go.VC
/-! ### settled -/
/-- What has been gathered. -/
structure GthR (a : NfM) (L out : List Int) : Prop where
  nd : out.Nodup
  sub : ∀ q ∈ L, q ∈ out
  cl : ∀ q ∈ out, clS a (· ∈ L) q
end Go.Proofs.YtlnmhfhdjnenoaaGreatDoor
/- The document's Reach and Accepts, nfa.Accepts: the walks. -/
set_option linter.unusedVariables false
set_option linter.unusedSimpArgs false
set_option maxRecDepth 100000
namespace Go.Proofs.YtlnmhfhdjnenoaaGreatDoor
open Go.VC
theorem acc_mem4 {a : NfM} {s : List Nat} : decide (a.fin ∈ rchL a s) = accN a s := by
  have := accN_iff a s
  have h2 := rchL_mem a s a.fin
  cases h : accN a s with
  | true => exact decide_eq_true (h2.2 (this.1 h))
  | false => exact decide_eq_false fun hm => by rw [this.2 (h2.1 hm)] at h; cases h
/-! ### nfa.Accepts -/
theorem isNaN1_p (x : Int) (H : Heap) : Pure Tryz.prog 87 #[.int .i64 x] H (.bool false) := by
  refine FnOk.of_vc Tryz.func87 rfl (Tryz.call87 _) ?_
  have d : (x != x) = false := by simp
  (conv => whnf)
  exact ⟨by rw [d], Agr.refl _ _⟩
theorem isNaN2_p (x : Int) (H : Heap) : Pure Tryz.prog 62 #[.int .i64 x] H (.bool false) := by
  refine FnOk.of_vc Tryz.func62 rfl (Tryz.call62 _) ?_
  have d : (x != x) = false := by simp
  (conv => whnf)
  exact ⟨by rw [d], Agr.refl _ _⟩
theorem less_p (x y : Int) (H : Heap) : Pure Tryz.prog 61 #[.int .i64 x, .int .i64 y] H (.bool (decide (x < y))) := by
  refine FnOk.of_vc Tryz.func61 rfl (Tryz.call61 _) ?_
  (conv => whnf); refine pures (isNaN1_p x H) fun H1 ha1 => ?_
  (conv => whnf)
  exact ⟨rfl, ha1⟩
theorem srt_get {xs : List Int} (h : xs.Pairwise (· < ·)) {i j : Nat} {x y : Int} (hij : i < j) (hx : xs[i]? = some x) (hy : xs[j]? = some y) : x < y := by
  obtain ⟨h1, e1⟩ := List.getElem?_eq_some_iff.1 hx
  obtain ⟨h2, e2⟩ := List.getElem?_eq_some_iff.1 hy
  have := List.pairwise_iff_getElem.1 h i j h1 h2 hij
  rw [e1, e2] at this
  exact this
set_option maxHeartbeats 4000000 in
theorem bsearch_c {S : Nat → Prop} {H : Heap} {a : Option Addr} {c : Nat} {xs : List Int} {t : Int} (hS : ∀ k, S k → k < H.size) (h : SlD tIk S H a c xs) (hsrt : xs.Pairwise (· < ·)) (hlen : xs.length ≤ 65536) :
    FnOk Tryz.prog 40 #[.slice a xs.length c, .int .i64 t] H fun r H' => Agr (Old H) H H' ∧ ∃ i : Nat, r = .tuple #[.int .i64 (i : Int), .bool (decide (t ∈ xs))] := by
  refine FnOk.of_vc Tryz.func40 rfl (Tryz.call40 _) ?_
  (conv => whnf)
  refine VLoop.mk [7, 8] (fun x : Nat × Nat => match x with | (i, j) => [.int .i64 (i : Int), .int .i64 (j : Int)]) (fun x H2 => x.1 ≤ x.2 ∧ x.2 ≤ xs.length ∧ (∀ k y, k < x.1 → xs[k]? = some y → y < t) ∧ (∀ k y, x.2 ≤ k → xs[k]? = some y → t ≤ y) ∧ Agr (Old H) H H2) (fun x _ => x.2 - x.1) ?_ ?_
  · (conv => whnf)
    exact ⟨(0, xs.length), rfl, Nat.zero_le _, Nat.le_refl _, (fun k y h => by omega), (fun k y h1 h2 => by have := (List.getElem?_eq_some_iff.1 h2).1; omega), Agr.refl _ _⟩
  · rintro ⟨i, j⟩ H2 junk ⟨hij, hj, hlo, hhi, ha⟩
    simp only at hij hj hlo hhi ha
    have hd := h.frame (ha.mono hS)
    (conv => whnf); refine VIte.mk (fun hz => ?_) (fun hz => ?_) <;> simp only [decide_eq_true_eq, decide_eq_false_iff_not] at hz
    · obtain ⟨m, hm⟩ : ∃ m, m = (i + j) / 2 := ⟨_, rfl⟩
      have e1 : IntKind.wrap .i64 ((i : Int) + (j : Int)) = ((i + j : Nat) : Int) := by rw [w64 (by omega) (by omega)]; omega
      have e2 : IntKind.wrap .u64 (((i + j : Nat) : Int)) = ((i + j : Nat) : Int) := wrap_in (k := .u64) (inU64 (by omega))
      have e3 : IntKind.wrap .i64 (((i + j : Nat) / 2 ^ 1 : Nat) : Int) = (m : Int) := by rw [w64 (by omega) (by omega), hm]
      obtain ⟨y, hy⟩ := get_some (l := xs) (k := m) (by omega)
      (conv => whnf); rw [e1, e2]
      (conv => whnf); refine vshr (k := .u64) (b := 1) (by decide) ?_
      (conv => whnf); rw [e3]
      (conv => whnf); refine ixr (i := m) sl54 hd hy rfl ?_
      rintro b3 o3 c3 hS3 hc3 ⟨rfl, -⟩
      (conv => whnf); refine ld1 ct3 hc3.one trivial ?_
      (conv => whnf); refine pures (less_p y t H2) fun H3 ha3 => ?_
      have h3 := ha.trans (ha3.mono fun k hk => old_lt ha hk)
      by_cases hlt : y < t
      · have d1 : decide (y < t) = true := decide_eq_true hlt
        (conv => whnf); rw [d1]
        (conv => whnf); rw [w64 (x := (m : Int) + 1) (by omega) (by omega)]
        refine ⟨rfl, (m + 1, j), by simp, ⟨by simp only; omega, hj, fun k z hk hz => ?_, hhi, h3⟩, by simp only; omega⟩
        by_cases hkm : k = m
        · subst hkm; rw [hy] at hz; cases hz; exact hlt
        · have := srt_get hsrt (show k < m by omega) hz hy; omega
      · have d1 : decide (y < t) = false := decide_eq_false hlt
        (conv => whnf); rw [d1]
        (conv => whnf)
        refine ⟨rfl, (i, m), rfl, ⟨by simp only; omega, by simp only; omega, hlo, fun k z hk hz => ?_, h3⟩, by simp only; omega⟩
        by_cases hkm : k = m
        · subst hkm; rw [hy] at hz; cases hz; omega
        · have := srt_get hsrt (show m < k by omega) hy hz; omega
    · obtain rfl : i = j := by omega
      by_cases hin : i < xs.length
      · have d0 : decide ((i : Int) < (xs.length : Int)) = true := decide_eq_true (by omega)
        obtain ⟨y, hy⟩ := get_some (l := xs) (k := i) hin
        (conv => whnf); rw [d0]
        (conv => whnf); refine ixr (i := i) sl54 hd hy rfl ?_
        rintro b3 o3 c3 hS3 hc3 ⟨rfl, -⟩
        (conv => whnf); refine ld1 ct3 hc3.one trivial ?_
        by_cases he : y = t
        · have d1 : (y == t) = true := by rw [he]; simp
          (conv => whnf); rw [d1]
          (conv => whnf)
          exact ⟨ha, i, by rw [decide_eq_true (he ▸ List.mem_of_getElem? hy)]⟩
        · have d1 : (y == t) = false := beq_eq_false_iff_ne.2 he
          have hno : t ∉ xs := fun hm => by
            obtain ⟨k, hk⟩ := List.getElem?_of_mem hm
            rcases Nat.lt_trichotomy k i with h1 | h1 | h1
            · have := hlo k t h1 hk; omega
            · subst h1; rw [hy] at hk; cases hk; exact he rfl
            · have h5 := srt_get hsrt h1 hy hk
              have := hhi i y (Nat.le_refl _) hy
              omega
          (conv => whnf); rw [d1]
          (conv => whnf); refine ixr (i := i) sl54 hd hy rfl ?_
          rintro b4 o4 c4 hS4 hc4 ⟨rfl, -⟩
          (conv => whnf); refine ld1 ct3 hc4.one trivial ?_
          (conv => whnf); refine pures (isNaN2_p y H2) fun H3 ha3 => ?_
          (conv => whnf)
          exact ⟨ha.trans (ha3.mono fun k hk => old_lt ha hk), i, by rw [decide_eq_false hno]⟩
      · have d0 : decide ((i : Int) < (xs.length : Int)) = false := decide_eq_false (by omega)
        have hno : t ∉ xs := fun hm => by
          obtain ⟨k, hk⟩ := List.getElem?_of_mem hm
          have h2 := (List.getElem?_eq_some_iff.1 hk).1
          have := hlo k t (by omega) hk; omega
        (conv => whnf); rw [d0]
        (conv => whnf)
        exact ⟨ha, i, by rw [decide_eq_false hno]⟩
set_option maxHeartbeats 4000000 in
theorem accepts_n {S : Nat → Prop} {H : Heap} {v : Value} {a : NfM} {s : ByteArray} (hS : ∀ k, S k → k < H.size) (h : NfV S H v a) (hs : s.size ≤ maxLen) :
    Pure Tryz.prog 13 #[v, .string s] H (.bool (accN a (byN s))) := by
  have hr := h.1
  have hl := h.2.1
  refine FnOk.of_vc Tryz.func13 rfl (Tryz.call13 _) ?_
  (conv => whnf); refine nf_box h fun ea ec he h1 => ?_
  subst he
  intro p H1 hp hs1 hb1 ha1
  have st1 := (St.nil H).box hp hs1 hb1 ha1
  have hb := st1.blk 0 rfl
  have hpl := hb.lt
  (conv => whnf); refine VDraw.heldZ (Old H1) [] (sq [0,1,3,4] (.f 2 (.f 5 (sq [6,7,8,9] (.f 10 .e))))) rfl (by kernel_rfl) ?_
  (conv => whnf); refine nf_load hr hl hb ag37 hpl (h1.frame (st1.old.mono hS)) fun v2 hv2 => ?_
  (conv => whnf); refine fa fl37_2 ?_
  (conv => whnf); refine ld1 (v := .int .i64 a.fin) ct3 (by rw [hb.cell]; rfl) hpl ?_
  (conv => whnf); refine VCall.mk (reach_n (fun k hk => st1.up (hS k hk)) hv2 hs) ?_
  rintro _ H4 ⟨ha4, ra, rc, rfl, hown⟩
  obtain ⟨ra', rc', e4, st4⟩ := st1.got ha4 hown
  injection e4 with e41 e42 e43
  subst e41; subst e43
  refine ⟨ha4, ?_⟩
  (conv => whnf); refine VCall.mk (bsearch_c (S := Old H4) (t := a.fin) (fun k hk => hk) (st4.view 1 rfl) (lstS_srt _) (lstS_len _)) ?_
  rintro _ H5 ⟨ha5, i, rfl⟩
  have st5 := st4.call ha5
  have h15 : Agr (Old H1) H1 H5 := ha4.trans (ha5.mono fun k hk => old_lt ha4 hk)
  refine ⟨h15, ?_⟩
  (conv => whnf)
  refine ⟨h15, ?_⟩
  (conv => whnf)
  exact ⟨by rw [acc_mem4], st5.old⟩
end Go.Proofs.YtlnmhfhdjnenoaaGreatDoor
/- Trees of texts; Size, Text, Build over trees without signs: the walks. -/
set_option linter.unusedVariables false
set_option linter.unusedSimpArgs false
set_option maxRecDepth 100000
namespace Go.Proofs.YtlnmhfhdjnenoaaGreatDoor
open Go.VC
def nodeT : ReM → TypeId
  | .eps => 127
  | .cls _ => 130
  | .cat _ _ => 132
  | .alt _ _ => 163
  | .star _ => 165
  | .and_ _ _ => 166
  | .minus _ _ => 167
def nodeP : ReM → Value
  | .eps => .agg #[]
  | .cls s => setV s
  | .cat a b => .agg #[nodeV a, nodeV b]
  | .alt a b => .agg #[nodeV a, nodeV b]
  | .star a => .agg #[nodeV a]
  | .and_ a b => .agg #[nodeV a, nodeV b]
  | .minus a b => .agg #[nodeV a, nodeV b]
theorem nodeV_eq (r : ReM) : nodeV r = .iface (nodeT r) (nodeP r) := by cases r <;> rfl
def sizeF : ReM → FuncId
  | .eps => 161
  | .cls _ => 163
  | .cat _ _ => 165
  | .alt _ _ => 168
  | .star _ => 170
  | .and_ _ _ => 172
  | .minus _ _ => 174
theorem size_m (r : ReM) (w : World) : (callMethod (.iface (nodeT r) (nodeP r)) "Size" #[]).run Tryz.prog w = .ok (.enter (sizeF r) #[nodeP r]) w := by
  cases r with
  | eps => exact m_eps_size _ w
  | cls => exact m_cls_size _ w
  | cat => exact m_cat_size _ w
  | alt => exact m_alt_size _ w
  | star => exact m_star_size _ w
  | and_ => exact m_and_size _ w
  | minus => exact m_minus_size _ w
theorem sure_p (r : ReM) (H : Heap) : Pure Tryz.prog 166 #[nodeV r] H (.iface (nodeT r) (nodeP r)) := by
  rw [nodeV_eq]
  refine FnOk.of_vc Tryz.func166 rfl (Tryz.call166 _) ?_
  (conv => whnf); refine ifeq Tryz.underlying24 ?_
  (conv => whnf)
  exact ⟨rfl, Agr.refl _ _⟩
set_option maxHeartbeats 4000000 in
theorem size_p : ∀ (r : ReM), r.nodes ≤ 1000000000 → ∀ (H : Heap), Pure Tryz.prog (sizeF r) #[nodeP r] H (.int .i64 (r.nodes : Int)) := fun r => by
  induction r with
  | eps =>
    intro hn H
    refine FnOk.of_vc Tryz.func161 rfl (Tryz.call161 _) ?_
    (conv => whnf); refine vbox [] rfl ?_
    intro x H1 hx hs1 hb1 ha1
    have st1 := (St.nil H).box hx hs1 hb1 ha1
    (conv => whnf)
    exact ⟨rfl, st1.old⟩
  | cls s =>
    intro hn H
    refine FnOk.of_vc Tryz.func163 rfl (Tryz.call163 _) ?_
    (conv => whnf); refine vbox (setL s) rfl ?_
    intro x H1 hx hs1 hb1 ha1
    have st1 := (St.nil H).box hx hs1 hb1 ha1
    (conv => whnf)
    exact ⟨rfl, st1.old⟩
  | cat a b iha ihb =>
    intro hn H
    simp only [ReM.nodes] at hn
    refine FnOk.of_vc Tryz.func165 rfl (Tryz.call165 _) ?_
    (conv => whnf); refine vbox [nodeV a, nodeV b] rfl ?_
    intro x H1 hx hs1 hb1 ha1
    have st1 := (St.nil H).box hx hs1 hb1 ha1
    have hxl := hb1.lt
    (conv => whnf); refine VDraw.heldZ (Old H1) [] (sq [0,1,5,6] (.f 2 (.f 3 (sq [4] (.f 7 (.f 8 (sq [9] (.f 10 .e)))))))) rfl (by kernel_rfl) ?_
    (conv => whnf); refine fa fl132_0 ?_
    (conv => whnf); refine ld1 (v := nodeV a) ct24 (by rw [hb1.cell]; rfl) hxl ?_
    (conv => whnf); refine fa fl132_1 ?_
    (conv => whnf); refine ld1 (v := nodeV b) ct24 (by rw [hb1.cell]; rfl) hxl ?_
    (conv => whnf); refine pures (sure_p a H1) fun H2 ha2 => ?_
    refine ⟨ha2, ?_⟩
    (conv => whnf); refine VInv.mk (sizeF a) #[nodeP a] (size_m a) (iha (by omega) H2) ?_
    rintro _ H3 ⟨rfl, ha3⟩
    have h13 := ha2.trans (ha3.mono fun k hk => old_lt ha2 hk)
    refine ⟨h13, ?_⟩
    (conv => whnf); rw [w64 (x := 1 + (a.nodes : Int)) (by omega) (by omega)]
    (conv => whnf); refine pures (sure_p b H3) fun H4 ha4 => ?_
    have h14 := h13.trans (ha4.mono fun k hk => old_lt h13 hk)
    refine ⟨h14, ?_⟩
    (conv => whnf); refine VInv.mk (sizeF b) #[nodeP b] (size_m b) (ihb (by omega) H4) ?_
    rintro _ H5 ⟨rfl, ha5⟩
    have h15 := h14.trans (ha5.mono fun k hk => old_lt h14 hk)
    refine ⟨h15, ?_⟩
    (conv => whnf); rw [w64 (x := 1 + (a.nodes : Int) + (b.nodes : Int)) (by omega) (by omega)]
    refine ⟨h15, ?_⟩
    (conv => whnf)
    exact ⟨by simp only [ReM.nodes]; simp, st1.old.trans (h15.mono fun k hk => st1.up hk)⟩
  | alt a b iha ihb =>
    intro hn H
    simp only [ReM.nodes] at hn
    refine FnOk.of_vc Tryz.func168 rfl (Tryz.call168 _) ?_
    (conv => whnf); refine vbox [nodeV a, nodeV b] rfl ?_
    intro x H1 hx hs1 hb1 ha1
    have st1 := (St.nil H).box hx hs1 hb1 ha1
    have hxl := hb1.lt
    (conv => whnf); refine VDraw.heldZ (Old H1) [] (sq [0,1,5,6] (.f 2 (.f 3 (sq [4] (.f 7 (.f 8 (sq [9] (.f 10 .e)))))))) rfl (by kernel_rfl) ?_
    (conv => whnf); refine fa fl163_0 ?_
    (conv => whnf); refine ld1 (v := nodeV a) ct24 (by rw [hb1.cell]; rfl) hxl ?_
    (conv => whnf); refine fa fl163_1 ?_
    (conv => whnf); refine ld1 (v := nodeV b) ct24 (by rw [hb1.cell]; rfl) hxl ?_
    (conv => whnf); refine pures (sure_p a H1) fun H2 ha2 => ?_
    refine ⟨ha2, ?_⟩
    (conv => whnf); refine VInv.mk (sizeF a) #[nodeP a] (size_m a) (iha (by omega) H2) ?_
    rintro _ H3 ⟨rfl, ha3⟩
    have h13 := ha2.trans (ha3.mono fun k hk => old_lt ha2 hk)
    refine ⟨h13, ?_⟩
    (conv => whnf); rw [w64 (x := 1 + (a.nodes : Int)) (by omega) (by omega)]
    (conv => whnf); refine pures (sure_p b H3) fun H4 ha4 => ?_
    have h14 := h13.trans (ha4.mono fun k hk => old_lt h13 hk)
    refine ⟨h14, ?_⟩
    (conv => whnf); refine VInv.mk (sizeF b) #[nodeP b] (size_m b) (ihb (by omega) H4) ?_
    rintro _ H5 ⟨rfl, ha5⟩
    have h15 := h14.trans (ha5.mono fun k hk => old_lt h14 hk)
    refine ⟨h15, ?_⟩
    (conv => whnf); rw [w64 (x := 1 + (a.nodes : Int) + (b.nodes : Int)) (by omega) (by omega)]
    refine ⟨h15, ?_⟩
    (conv => whnf)
    exact ⟨by simp only [ReM.nodes]; simp, st1.old.trans (h15.mono fun k hk => st1.up hk)⟩
  | star a iha =>
    intro hn H
    simp only [ReM.nodes] at hn
    refine FnOk.of_vc Tryz.func170 rfl (Tryz.call170 _) ?_
    (conv => whnf); refine vbox [nodeV a] rfl ?_
    intro x H1 hx hs1 hb1 ha1
    have st1 := (St.nil H).box hx hs1 hb1 ha1
    (conv => whnf); refine fa fl165_0 ?_
    (conv => whnf); refine ld1 (v := nodeV a) ct24 (by rw [hb1.cell]; rfl) trivial ?_
    (conv => whnf); refine pures (sure_p a H1) fun H2 ha2 => ?_
    have st2 := st1.call ha2
    (conv => whnf); refine VInv.mk (sizeF a) #[nodeP a] (size_m a) (iha (by omega) H2) ?_
    rintro _ H3 ⟨rfl, ha3⟩
    have st3 := st2.call ha3
    (conv => whnf); rw [w64 (x := 1 + (a.nodes : Int)) (by omega) (by omega)]
    (conv => whnf)
    exact ⟨by simp only [ReM.nodes]; simp, st3.old⟩
  | and_ a b iha ihb =>
    intro hn H
    simp only [ReM.nodes] at hn
    refine FnOk.of_vc Tryz.func172 rfl (Tryz.call172 _) ?_
    (conv => whnf); refine vbox [nodeV a, nodeV b] rfl ?_
    intro x H1 hx hs1 hb1 ha1
    have st1 := (St.nil H).box hx hs1 hb1 ha1
    have hxl := hb1.lt
    (conv => whnf); refine VDraw.heldZ (Old H1) [] (sq [0,1,5,6] (.f 2 (.f 3 (sq [4] (.f 7 (.f 8 (sq [9] (.f 10 .e)))))))) rfl (by kernel_rfl) ?_
    (conv => whnf); refine fa fl166_0 ?_
    (conv => whnf); refine ld1 (v := nodeV a) ct24 (by rw [hb1.cell]; rfl) hxl ?_
    (conv => whnf); refine fa fl166_1 ?_
    (conv => whnf); refine ld1 (v := nodeV b) ct24 (by rw [hb1.cell]; rfl) hxl ?_
    (conv => whnf); refine pures (sure_p a H1) fun H2 ha2 => ?_
    refine ⟨ha2, ?_⟩
    (conv => whnf); refine VInv.mk (sizeF a) #[nodeP a] (size_m a) (iha (by omega) H2) ?_
    rintro _ H3 ⟨rfl, ha3⟩
    have h13 := ha2.trans (ha3.mono fun k hk => old_lt ha2 hk)
    refine ⟨h13, ?_⟩
    (conv => whnf); rw [w64 (x := 1 + (a.nodes : Int)) (by omega) (by omega)]
    (conv => whnf); refine pures (sure_p b H3) fun H4 ha4 => ?_
    have h14 := h13.trans (ha4.mono fun k hk => old_lt h13 hk)
    refine ⟨h14, ?_⟩
    (conv => whnf); refine VInv.mk (sizeF b) #[nodeP b] (size_m b) (ihb (by omega) H4) ?_
    rintro _ H5 ⟨rfl, ha5⟩
    have h15 := h14.trans (ha5.mono fun k hk => old_lt h14 hk)
    refine ⟨h15, ?_⟩
    (conv => whnf); rw [w64 (x := 1 + (a.nodes : Int) + (b.nodes : Int)) (by omega) (by omega)]
    refine ⟨h15, ?_⟩
    (conv => whnf)
    exact ⟨by simp only [ReM.nodes]; simp, st1.old.trans (h15.mono fun k hk => st1.up hk)⟩
  | minus a b iha ihb =>
    intro hn H
    simp only [ReM.nodes] at hn
    refine FnOk.of_vc Tryz.func174 rfl (Tryz.call174 _) ?_
    (conv => whnf); refine vbox [nodeV a, nodeV b] rfl ?_
    intro x H1 hx hs1 hb1 ha1
    have st1 := (St.nil H).box hx hs1 hb1 ha1
    have hxl := hb1.lt
    (conv => whnf); refine VDraw.heldZ (Old H1) [] (sq [0,1,5,6] (.f 2 (.f 3 (sq [4] (.f 7 (.f 8 (sq [9] (.f 10 .e)))))))) rfl (by kernel_rfl) ?_
    (conv => whnf); refine fa fl167_0 ?_
    (conv => whnf); refine ld1 (v := nodeV a) ct24 (by rw [hb1.cell]; rfl) hxl ?_
    (conv => whnf); refine fa fl167_1 ?_
    (conv => whnf); refine ld1 (v := nodeV b) ct24 (by rw [hb1.cell]; rfl) hxl ?_
    (conv => whnf); refine pures (sure_p a H1) fun H2 ha2 => ?_
    refine ⟨ha2, ?_⟩
    (conv => whnf); refine VInv.mk (sizeF a) #[nodeP a] (size_m a) (iha (by omega) H2) ?_
    rintro _ H3 ⟨rfl, ha3⟩
    have h13 := ha2.trans (ha3.mono fun k hk => old_lt ha2 hk)
    refine ⟨h13, ?_⟩
    (conv => whnf); rw [w64 (x := 1 + (a.nodes : Int)) (by omega) (by omega)]
    (conv => whnf); refine pures (sure_p b H3) fun H4 ha4 => ?_
    have h14 := h13.trans (ha4.mono fun k hk => old_lt h13 hk)
    refine ⟨h14, ?_⟩
    (conv => whnf); refine VInv.mk (sizeF b) #[nodeP b] (size_m b) (ihb (by omega) H4) ?_
    rintro _ H5 ⟨rfl, ha5⟩
    have h15 := h14.trans (ha5.mono fun k hk => old_lt h14 hk)
    refine ⟨h15, ?_⟩
    (conv => whnf); rw [w64 (x := 1 + (a.nodes : Int) + (b.nodes : Int)) (by omega) (by omega)]
    refine ⟨h15, ?_⟩
    (conv => whnf)
    exact ⟨by simp only [ReM.nodes]; simp, st1.old.trans (h15.mono fun k hk => st1.up hk)⟩
/-! ### Build -/
theorem stM_nodes : ∀ r : ReM, stM r ≤ 2 * r.nodes
  | .eps => by simp [stM, ReM.nodes]
  | .cls _ => by simp [stM, ReM.nodes]
  | .cat a b => by have := stM_nodes a; have := stM_nodes b; simp only [stM, ReM.nodes]; omega
  | .alt a b => by have := stM_nodes a; have := stM_nodes b; simp only [stM, ReM.nodes]; omega
  | .star a => by have := stM_nodes a; simp only [stM, ReM.nodes]; omega
  | .and_ a b => by simp [stM]
  | .minus a b => by simp [stM]
def nfaOf (r : ReM) : NfM := ⟨(stM r : Int), ((bldM r 0).1 : Int), ((bldM r 0).2.1 : Int), (bldM r 0).2.2⟩
def zeroNf : Value := .agg #[.int .i64 0, .int .i64 0, .int .i64 0, .slice none 0 0]
/-- What Build of a plain tree answers. -/
def BldR (H H' : Heap) (r : ReM) (v : Value) : Prop := Agr (Old H) H H' ∧ if 2000 < r.nodes then v = .tuple #[zeroNf, .int .i64 24] else
  ∃ ea ec, v = .tuple #[.agg (nfL (nfaOf r) (.slice ea (nfaOf r).edges.length ec)).toArray, .int .i64 0] ∧ SlO tEd none_ H' H.size 104 (.slice ea (nfaOf r).edges.length ec) (nfaOf r).edges
theorem bd_z : (Tryz.prog.info? 118).bind (·.zero) = some (.agg #[.int .i64 0, .int .i64 0, .int .i64 0, .slice none 0 0, .nilFunc, .int .i64 0]) := rfl
set_option maxHeartbeats 4000000 in
theorem buildWith_c (r : ReM) (hpl : r.plain = true) (hb : r.nodes ≤ 1000000000) (H : Heap) : FnOk Tryz.prog 16 #[nodeV r, .nilFunc] H fun v H' => BldR H H' r v := by
  rw [nodeV_eq]
  refine FnOk.of_vc Tryz.func16 rfl (Tryz.call16 _) ?_
  (conv => whnf); refine valloc _ [.int .i64 0, .int .i64 0, .int .i64 0, .slice none 0 0] nfa_z rfl ?_
  intro y H1 hy hs1 hb1 ha1
  have st1 := (St.nil H).box hy hs1 hb1 ha1
  (conv => whnf); refine ifneq Tryz.underlying24 ?_
  (conv => whnf); refine VInv.mk (sizeF r) #[nodeP r] (size_m r) (size_p r hb H1) ?_
  rintro _ H2 ⟨rfl, ha2⟩
  have st2 := st1.call ha2
  by_cases hbig : 2000 < r.nodes
  · have d1 : decide ((2000 : Int) < (r.nodes : Int)) = true := decide_eq_true (by omega)
    (conv => whnf); rw [d1]
    (conv => whnf); refine vbuildS Tryz.underlying37 rfl _ nfa_z [.int .i64 0, .int .i64 0, .int .i64 0, .slice none 0 0] rfl ?_
    (conv => whnf); refine stNB (cs := [.int .i64 0, .int .i64 0, .int .i64 0, .slice none 0 0]) st2 0 rfl rfl (Nat.le_refl _) rfl fun H3 st3 => ?_
    (conv => whnf); refine ldN (cs := [.int .i64 0, .int .i64 0, .int .i64 0, .slice none 0 0]) ag37 ((st3.blk 0 rfl).cells fun j v hv => by rw [Nat.zero_add]; exact hv) trivial ?_
    (conv => whnf)
    exact ⟨st3.old, by rw [if_pos hbig]; rfl⟩
  · have d1 : decide ((2000 : Int) < (r.nodes : Int)) = false := decide_eq_false (by omega)
    have hst := stM_nodes r
    have hin := bldM_in r hpl 0
    (conv => whnf); rw [d1]
    (conv => whnf); refine vbuildS Tryz.underlying118 rfl _ bd_z (bdL 0 (.slice none 0 0) .nilFunc) (by kernel_rfl) ?_
    (conv => whnf); refine vbox (bdL 0 (.slice none 0 0) .nilFunc) rfl ?_
    intro bb H3 hbb hs3 hb3 ha3
    have st3 : St H H3 (pB tBd bb (bdL 0 (.slice none 0 0) .nilFunc) :: pS tEd 104 none 0 0 [] :: [pB 37 y [.int .i64 0, .int .i64 0, .int .i64 0, .slice none 0 0]]) := ((st2.box hbb hs3 hb3 ha3).nils tEd 104).pick [1, 2, 0] (by decide)
    have hp := part_c (sub := .nilFunc) (n := 0) (es := []) r hpl st3 (by omega) (by simp only [List.length_nil]; omega)
    rw [nodeV_eq] at hp
    (conv => whnf); refine VCall.mk hp ?_
    rintro _ H4 ⟨rfl, a4, c4, st4⟩
    rw [List.nil_append, Nat.zero_add] at st4
    (conv => whnf); refine fa fl118_0 ?_
    (conv => whnf); refine fa fl37_1 ?_
    (conv => whnf); refine st1B st4 0 ct3 rfl (show 1 < 6 by decide) rfl fun H5 st5 => ?_
    (conv => whnf); refine fa fl118_0 ?_
    (conv => whnf); refine fa fl37_2 ?_
    (conv => whnf); refine st1B st5 0 ct3 rfl (show 2 < 6 by decide) rfl fun H6 st6 => ?_
    (conv => whnf); refine fa fl118_2 ?_
    (conv => whnf); refine ld1 (v := .int .i64 0) ct25 (by rw [(st6.blk 0 rfl).cell]; rfl) trivial ?_
    (conv => whnf); refine fa fl118_0 ?_
    (conv => whnf); refine fa fl37_0 ?_
    (conv => whnf); refine ld1 (v := .int .i64 (stM r : Int)) ct3 (by rw [(st6.blk 0 rfl).cell]; rfl) trivial ?_
    have d2 : decide ((65536 : Int) < (stM r : Int)) = false := decide_eq_false (by omega)
    (conv => whnf); rw [d2]
    (conv => whnf); refine fa fl118_0 ?_
    have hc6 : Cells H6 bb 0 (nfL (nfaOf r) (.slice a4 (nfaOf r).edges.length c4)) := (st6.blk 0 rfl).cells fun j v hv => by
      rw [Nat.zero_add]
      match j, hv with
      | 0, hv => exact hv
      | 1, hv => exact hv
      | 2, hv => exact hv
      | 3, hv => exact hv
    (conv => whnf); refine ldN (cs := nfL (nfaOf r) (.slice a4 (nfaOf r).edges.length c4)) ag37 hc6 trivial ?_
    (conv => whnf); refine stNB (cs := nfL (nfaOf r) (.slice a4 (nfaOf r).edges.length c4)) st6 2 rfl rfl (Nat.le_refl _) rfl fun H7 st7 => ?_
    rw [splice_all (show (nfL (nfaOf r) (.slice a4 (nfaOf r).edges.length c4)).length = 4 from rfl)] at st7
    (conv => whnf); refine ldN (cs := nfL (nfaOf r) (.slice a4 (nfaOf r).edges.length c4)) ag37 ((st7.blk 2 rfl).cells fun j v hv => by rw [Nat.zero_add]; exact hv) trivial ?_
    (conv => whnf)
    exact ⟨st7.old, by rw [if_neg hbig]; exact ⟨a4, c4, rfl, St.own st7 1 rfl⟩⟩
set_option maxHeartbeats 4000000 in
theorem build_c (r : ReM) (hpl : r.plain = true) (hb : r.nodes ≤ 1000000000) (H : Heap) : FnOk Tryz.prog 9 #[nodeV r] H fun v H' => BldR H H' r v := by
  refine FnOk.of_vc Tryz.func9 rfl (Tryz.call9 _) ?_
  (conv => whnf); refine valloc _ [.int .i64 0, .int .i64 0, .int .i64 0, .slice none 0 0] nfa_z rfl ?_
  intro y H1 hy hs1 hb1 ha1
  have st1 := (St.nil H).box hy hs1 hb1 ha1
  (conv => whnf); refine VCall.mk (buildWith_c r hpl hb H1) ?_
  rintro v H2 ⟨ha2, hv⟩
  have st2 := st1.call ha2
  by_cases hbig : 2000 < r.nodes
  · rw [if_pos hbig] at hv
    subst hv
    (conv => whnf); refine stNB (cs := [.int .i64 0, .int .i64 0, .int .i64 0, .slice none 0 0]) st2 0 rfl rfl (Nat.le_refl _) rfl fun H3 st3 => ?_
    (conv => whnf); refine ldN (cs := [.int .i64 0, .int .i64 0, .int .i64 0, .slice none 0 0]) ag37 ((st3.blk 0 rfl).cells fun j v hv => by rw [Nat.zero_add]; exact hv) trivial ?_
    (conv => whnf)
    exact ⟨st3.old, by rw [if_pos hbig]; rfl⟩
  · rw [if_neg hbig] at hv
    obtain ⟨ea, ec, rfl, hown⟩ := hv
    obtain ⟨ea', ec', e3, st3⟩ := st1.got ha2 hown
    injection e3 with e31 e32 e33
    subst e31; subst e33
    (conv => whnf); refine stNB (cs := nfL (nfaOf r) (.slice ea (nfaOf r).edges.length ec)) st3 0 rfl rfl (Nat.le_refl _) rfl fun H7 st7 => ?_
    rw [splice_all (show (nfL (nfaOf r) (.slice ea (nfaOf r).edges.length ec)).length = 4 from rfl)] at st7
    (conv => whnf); refine ldN (cs := nfL (nfaOf r) (.slice ea (nfaOf r).edges.length ec)) ag37 ((st7.blk 0 rfl).cells fun j v hv => by rw [Nat.zero_add]; exact hv) trivial ?_
    (conv => whnf)
    exact ⟨st7.old, by rw [if_neg hbig]; exact ⟨ea, ec, rfl, St.own st7 1 rfl⟩⟩
/-! ### texts -/
def oneS (b : Nat) : BitVec 256 := ofB 0#256 [b]
def textR : List Nat → ReM
  | [] => .eps
  | b :: l => l.foldl (fun r c => .cat r (.cls (oneS c))) (.cls (oneS b))
theorem textR_snoc {l : List Nat} (h : l ≠ []) (c : Nat) : textR (l ++ [c]) = .cat (textR l) (.cls (oneS c)) := by
  cases l with
  | nil => exact absurd rfl h
  | cons b l => simp [textR, List.foldl_append]
theorem textR_plain (l : List Nat) : (textR l).plain = true := by
  cases l with
  | nil => rfl
  | cons b l =>
    unfold textR
    have key : ∀ (l : List Nat) (r : ReM), r.plain = true → (l.foldl (fun r c => ReM.cat r (.cls (oneS c))) r).plain = true := by
      intro l
      induction l with
      | nil => exact fun r h => h
      | cons c l ih => exact fun r h => ih _ (by simp [ReM.plain, h])
    exact key l _ rfl
def textV (l : List Nat) : Value := match l with | [] => .nilIface | _ => nodeV (textR l)
theorem ext_one {s : ByteArray} {i : Nat} {c : UInt8} (h : s.data[i]? = some c) : byN (s.extract i (i + 1)) = [c.toNat] := by
  have hi := (Array.getElem?_eq_some_iff.1 h).1
  unfold byN
  rw [ByteArray.data_extract, Array.toList_extract, List.extract_eq_take_drop]
  have : (s.data.toList.drop i).take (i + 1 - i) = [c] := by
    rw [show i + 1 - i = 1 by omega]
    have h2 : s.data.toList[i]? = some c := by rw [Array.getElem?_toList]; exact h
    obtain ⟨h3, h4⟩ := List.getElem?_eq_some_iff.1 h2
    rw [List.drop_eq_getElem_cons h3, h4]
    rfl
  rw [this]
  rfl
set_option maxHeartbeats 8000000 in
theorem text_p (s : ByteArray) (hs : s.size ≤ 1048576) (H : Heap) : Pure Tryz.prog 23 #[.string s] H (nodeV (textR (byN s))) := by
  refine FnOk.of_vc Tryz.func23 rfl (Tryz.call23 _) ?_
  have hbl := byN_len s
  by_cases he : s.size = 0
  · have hnil : byN s = [] := List.eq_nil_of_length_eq_zero (by omega)
    have hse : s = ⟨#[]⟩ := text_inj (by
      have : s.data.toList = [] := List.eq_nil_of_length_eq_zero (by rw [Array.length_toList]; exact he)
      rw [this])
    have d0 : (s.toList == (⟨#[]⟩ : ByteArray).toList) = true := by rw [hse]; simp
    (conv => whnf); rw [d0]
    (conv => whnf); refine vbuildS Tryz.underlying127 rfl _ node_z1 [] rfl ?_
    (conv => whnf)
    exact ⟨by rw [hnil]; rfl, Agr.refl _ _⟩
  · have d0 : (s.toList == (⟨#[]⟩ : ByteArray).toList) = false := by
      cases h : (s.toList == (⟨#[]⟩ : ByteArray).toList) with
      | false => rfl
      | true =>
        rw [text_eq] at h
        rw [h] at he
        exact absurd rfl he
    (conv => whnf); rw [d0]
    (conv => whnf)
    refine VLoop.mk [3, 12] (fun i : Nat => [textV ((byN s).take i), .int .i64 (i : Int)]) (fun i H2 => i ≤ s.size ∧ St H H2 []) (fun i _ => s.size - i) ?_ ?_
    · (conv => whnf)
      exact ⟨0, rfl, Nat.zero_le _, St.nil H⟩
    · rintro i H2 junk ⟨hi, st2⟩
      (conv => whnf); refine VIte.mk (fun hz => ?_) (fun hz => ?_) <;> simp only [decide_eq_true_eq, decide_eq_false_iff_not] at hz
      · obtain ⟨c, hc⟩ := getB (s := s) (k := i) (by omega)
        have w1 : IntKind.wrap .i64 ((i : Int) + 1) = ((i + 1 : Nat) : Int) := by rw [w64 (by omega) (by omega)]; omega
        (conv => whnf); refine VSeq.run ?_
        (conv => whnf); rw [w1]
        (conv => whnf); refine vcutS (l := (i : Int)) (h := ((i + 1 : Nat) : Int)) Tryz.underlying9 (by omega) (by omega) (by omega) ?_
        rw [Int.toNat_natCast, Int.toNat_natCast]
        (conv => whnf); refine pures (of_p (s.extract i (i + 1)) (by simp; omega) H2) fun H3 ha3 => ?_
        have st3 := st2.call ha3
        rw [ext_one hc]
        (conv => whnf); refine vbuildS Tryz.underlying130 rfl _ node_z2 (setL (oneS c.toNat)) (by unfold setL; kernel_rfl) ?_
        (conv => whnf); refine valloc _ [.int .u64 0, .int .u64 0, .int .u64 0, .int .u64 0] node_z2 rfl ?_
        intro x H4 hx hs4 hb4 ha4
        have st4 := st3.box hx hs4 hb4 ha4
        (conv => whnf); refine stNB (cs := setL (oneS c.toNat)) st4 0 rfl rfl (Nat.le_refl _) rfl fun H5 st5 => ?_
        rw [splice_all (show (setL (oneS c.toNat)).length = 4 from rfl)] at st5
        have htk := take_succ_snoc (byN_get hc)
        have hb5 : Cells H5 x 0 (setL (oneS c.toNat)) := (st5.blk 0 rfl).cells fun j v hv => by rw [Nat.zero_add]; exact hv
        by_cases hi0 : i = 0
        · subst hi0
          (conv => whnf); refine ifeqN Tryz.underlying24 ?_
          (conv => whnf); refine ldN (cs := setL (oneS c.toNat)) ag130 hb5 trivial ?_
          (conv => whnf); rw [w1]
          refine ⟨rfl, 0 + 1, ?_, ⟨by omega, st5.pick [] (by decide)⟩, by omega⟩
          rw [htk]
          rfl
        · have hne : (byN s).take i ≠ [] := fun e => by
            have h := congrArg List.length e
            rw [List.length_take, hbl, List.length_nil] at h
            omega
          have htv : textV ((byN s).take i) = .iface (nodeT (textR ((byN s).take i))) (nodeP (textR ((byN s).take i))) := by
            rw [← nodeV_eq]
            cases h : (byN s).take i with
            | nil => exact absurd h hne
            | cons b l => rfl
          have htv2 : textV ((byN s).take (i + 1)) = .iface 132 (.agg #[.iface (nodeT (textR ((byN s).take i))) (nodeP (textR ((byN s).take i))), .iface 130 (setV (oneS c.toNat))]) := by
            have : textV ((byN s).take (i + 1)) = nodeV (textR ((byN s).take (i + 1))) := by
              cases h : (byN s).take (i + 1) with
              | nil =>
                have h9 := congrArg List.length h
                rw [List.length_take, hbl, List.length_nil] at h9
                omega
              | cons b l => rfl
            rw [this, htk, textR_snoc hne, ← nodeV_eq]
            rfl
          rw [htv]
          generalize nodeT (textR ((byN s).take i)) = NT at *
          generalize nodeP (textR ((byN s).take i)) = NP at *
          (conv => whnf); refine ifeq Tryz.underlying24 ?_
          (conv => whnf); refine ldN (cs := setL (oneS c.toNat)) ag130 hb5 trivial ?_
          (conv => whnf); refine vbuildS Tryz.underlying132 rfl _ node_z3 [.iface NT NP, .iface 130 (setV (oneS c.toNat))] rfl ?_
          (conv => whnf); rw [w1]
          refine ⟨rfl, i + 1, ?_, ⟨by omega, st5.pick [] (by decide)⟩, by omega⟩
          rw [htv2]
      · obtain rfl : i = s.size := by omega
        (conv => whnf)
        rw [List.take_of_length_le (by rw [hbl]; exact Nat.le_refl _)]
        refine ⟨?_, st2.old⟩
        cases h : byN s with
        | nil => rw [h] at hbl; simp at hbl; omega
        | cons b l => rfl
end Go.Proofs.YtlnmhfhdjnenoaaGreatDoor
/- The document's trees: a list of nodes, each behind its parts; Size, below. -/
set_option linter.unusedVariables false
set_option linter.unusedSimpArgs false
set_option maxRecDepth 100000
namespace Go.Proofs.YtlnmhfhdjnenoaaGreatDoor
open Go.VC
structure RnM where
  op : Int
  set : BitVec 256
  l : Int
  r : Int
  m : Int
  n : Int
def rnCells (op : Value) (bits : List Value) (a b m n : Value) : List Value := [op] ++ (bits ++ [a, b, m, n])
def rnL (d : RnM) : List Value := rnCells (.int .i64 d.op) (bitsL d.set) (.int .i64 d.l) (.int .i64 d.r) (.int .i64 d.m) (.int .i64 d.n)
theorem rnL_len (d : RnM) : (rnL d).length = 261 := by
  unfold rnL rnCells
  simp [bitsL_len]
theorem rn_op (d : RnM) : (rnL d)[0]? = some (.int .i64 d.op) := rfl
theorem rn_l (d : RnM) : (rnL d)[257]? = some (.int .i64 d.l) := by
  unfold rnL rnCells
  rw [List.getElem?_append_right (by simp), List.getElem?_append_right (by simp [bitsL_len])]
  simp [bitsL_len]
theorem rn_r (d : RnM) : (rnL d)[258]? = some (.int .i64 d.r) := by
  unfold rnL rnCells
  rw [List.getElem?_append_right (by simp), List.getElem?_append_right (by simp [bitsL_len])]
  simp [bitsL_len]
theorem rn_set (d : RnM) : ∀ (j : Nat) (v : Value), (bitsL d.set)[j]? = some v → (rnL d)[1 + j]? = some v := by
  intro j v h
  have hj : j < 256 := by have := (List.getElem?_eq_some_iff.1 h).1; rwa [bitsL_len] at this
  unfold rnL rnCells
  rw [List.getElem?_append_right (by simp), List.getElem?_append_left (by rw [bitsL_len]; simp; omega)]
  simpa using h
def RnM.Ok (d : RnM) : Prop := inK .i64 d.op ∧ inK .i64 d.l ∧ inK .i64 d.r ∧ inK .i64 d.m ∧ inK .i64 d.n
def tRn : Ty RnM where
  size := 261
  rep _ _ cs d := cs = rnL d ∧ d.Ok
  len h := by rw [h.1]; exact rnL_len _
  frame h _ := h
  mono h _ := h
theorem rn_ones (d : RnM) : (rnL d).all (·.oneCell') = true := by
  unfold rnL rnCells
  rw [List.all_append, List.all_append, bitsL, bits_ones]
  rfl
/-! ### building nodes -/
def rnZ : List Value := rnCells (.int .i64 0) (List.replicate 256 (.bool false)) (.int .i64 0) (.int .i64 0) (.int .i64 0) (.int .i64 0)
theorem rnZ_len : rnZ.length = 261 := by simp [rnZ, rnCells]
theorem rn_z : (Tryz.prog.info? 94).bind (·.zero) = some (.agg rnZ.toArray) := by kernel_rfl
theorem bitsL_zero : bitsL 0#256 = List.replicate 256 (.bool false) := by
  apply List.ext_getElem?
  intro i
  by_cases hi : i < 256
  · rw [bitsL_get _ hi, List.getElem?_replicate, if_pos hi]; simp
  · rw [List.getElem?_eq_none (by rw [bitsL_len]; omega), List.getElem?_eq_none (by simp; omega)]
section
variable {op op' a a' b b' m n : Value} {bits bits' : List Value}
theorem rs_op : splice (rnCells op bits a b m n) 0 [op'] = rnCells op' bits a b m n := rfl
theorem rs_set (h : bits.length = 256) (h' : bits'.length = 256) : splice (rnCells op bits a b m n) 1 bits' = rnCells op bits' a b m n := by
  unfold splice rnCells
  rw [show ([op] ++ (bits ++ [a, b, m, n])).take 1 = [op] from rfl, h', show 1 + 256 = 256 + 1 by omega, show ([op] ++ (bits ++ [a, b, m, n])).drop (256 + 1) = (bits ++ [a, b, m, n]).drop 256 from rfl, List.drop_left' h, List.append_assoc]
theorem rs_l (h : bits.length = 256) : splice (rnCells op bits a b m n) 257 [a'] = rnCells op bits a' b m n := by
  unfold splice rnCells
  have e1 : ([op] ++ (bits ++ [a, b, m, n])).take 257 = [op] ++ bits := by
    rw [show ([op] ++ (bits ++ [a, b, m, n])).take (256 + 1) = op :: (bits ++ [a, b, m, n]).take 256 from rfl, List.take_left' h]; rfl
  have e2 : ([op] ++ (bits ++ [a, b, m, n])).drop (257 + 1) = [b, m, n] := by
    rw [show ([op] ++ (bits ++ [a, b, m, n])).drop (257 + 1) = (bits ++ [a, b, m, n]).drop 257 from rfl, show (257 : Nat) = bits.length + 1 by omega, List.drop_length_add_append]; rfl
  rw [e1, show 257 + [a'].length = 257 + 1 from rfl, e2]
  simp
theorem rs_r (h : bits.length = 256) : splice (rnCells op bits a b m n) 258 [b'] = rnCells op bits a b' m n := by
  unfold splice rnCells
  have e1 : ([op] ++ (bits ++ [a, b, m, n])).take 258 = [op] ++ (bits ++ [a]) := by
    rw [show ([op] ++ (bits ++ [a, b, m, n])).take (257 + 1) = op :: (bits ++ [a, b, m, n]).take 257 from rfl, show (257 : Nat) = bits.length + 1 by omega, List.take_length_add_append]; rfl
  have e2 : ([op] ++ (bits ++ [a, b, m, n])).drop (258 + 1) = [m, n] := by
    rw [show ([op] ++ (bits ++ [a, b, m, n])).drop (258 + 1) = (bits ++ [a, b, m, n]).drop 258 from rfl, show (258 : Nat) = bits.length + 2 by omega, List.drop_length_add_append]; rfl
  rw [e1, show 258 + [b'].length = 258 + 1 from rfl, e2]
  simp
theorem rnCells_len (h : bits.length = 256) : (rnCells op bits a b m n).length = 261 := by unfold rnCells; simp [h]
end
theorem rn_build1 (x : Int) (s : BitVec 256) {S : Nat → Prop} {H : Heap} {K : Value → Prop} (k : K (.agg (rnL ⟨x, s, 0, 0, 0, 0⟩).toArray)) :
    VDet Tryz.prog (Instr.build 94 [(0, .int .i64 x), (1, .agg (bitsL s).toArray)].toArray) S H K := by
  refine vbuildS Tryz.underlying94 rfl (.agg rnZ.toArray) rn_z (rnL ⟨x, s, 0, 0, 0, 0⟩) ?_ k
  have hr : (List.replicate 256 (Value.bool false)).length = 256 := List.length_replicate
  refine (fill_cons (i := 0) (off := 0) (size := 1) (by kernel_rfl) rfl (by show _ ≤ rnZ.toArray.size; rw [List.size_toArray, rnZ_len]; decide)).trans ?_
  have e0 : splice (Value.agg rnZ.toArray).cells.toList 0 (Value.int .i64 x).cells.toList = rnCells (.int .i64 x) (List.replicate 256 (.bool false)) (.int .i64 0) (.int .i64 0) (.int .i64 0) (.int .i64 0) := rs_op
  rw [e0]
  have ec : (Value.agg (bitsL s).toArray).cells = (bitsL s).toArray := rfl
  refine (fill_cons (i := 1) (off := 1) (size := 256) (by kernel_rfl) (by rw [ec, List.size_toArray, bitsL_len]) (by rw [List.size_toArray, rnCells_len hr]; decide)).trans ?_
  rw [ec, List.toList_toArray, List.toList_toArray, rs_set hr (bitsL_len s)]
  rfl
theorem rn_build2 (x y z : Int) {S : Nat → Prop} {H : Heap} {K : Value → Prop} (k : K (.agg (rnL ⟨x, 0#256, y, z, 0, 0⟩).toArray)) :
    VDet Tryz.prog (Instr.build 94 [(0, .int .i64 x), (2, .int .i64 y), (3, .int .i64 z)].toArray) S H K := by
  refine vbuildS Tryz.underlying94 rfl (.agg rnZ.toArray) rn_z (rnL ⟨x, 0#256, y, z, 0, 0⟩) ?_ k
  have hr : (List.replicate 256 (Value.bool false)).length = 256 := List.length_replicate
  refine (fill_cons (i := 0) (off := 0) (size := 1) (by kernel_rfl) rfl (by show _ ≤ rnZ.toArray.size; rw [List.size_toArray, rnZ_len]; decide)).trans ?_
  have e0 : splice (Value.agg rnZ.toArray).cells.toList 0 (Value.int .i64 x).cells.toList = rnCells (.int .i64 x) (List.replicate 256 (.bool false)) (.int .i64 0) (.int .i64 0) (.int .i64 0) (.int .i64 0) := rs_op
  rw [e0]
  refine (fill_cons (i := 2) (off := 257) (size := 1) (by kernel_rfl) rfl (by rw [List.size_toArray, rnCells_len hr]; decide)).trans ?_
  rw [List.toList_toArray, show (Value.int IntKind.i64 y).cells.toList = [Value.int .i64 y] from rfl, rs_l hr]
  refine (fill_cons (i := 3) (off := 258) (size := 1) (by kernel_rfl) rfl (by rw [List.size_toArray, rnCells_len hr]; decide)).trans ?_
  rw [List.toList_toArray, show (Value.int IntKind.i64 z).cells.toList = [Value.int .i64 z] from rfl, rs_r hr]
  unfold rnL
  rw [show (RnM.mk x 0#256 y z 0 0).set = 0#256 from rfl, bitsL_zero]
  rfl
/-! ### trees -/
def TreeAt (ns : List RnM) : ReM → Nat → Prop
  | .eps, i => ∃ d, ns[i]? = some d ∧ d.op = 0
  | .cls s, i => ∃ d, ns[i]? = some d ∧ d.op = 1 ∧ d.set = s
  | .cat a b, i => ∃ d j k : _, ns[i]? = some d ∧ d.op = 2 ∧ d.l = ((j : Nat) : Int) ∧ d.r = ((k : Nat) : Int) ∧ TreeAt ns a j ∧ TreeAt ns b k
  | .alt a b, i => ∃ d j k : _, ns[i]? = some d ∧ d.op = 3 ∧ d.l = ((j : Nat) : Int) ∧ d.r = ((k : Nat) : Int) ∧ TreeAt ns a j ∧ TreeAt ns b k
  | .star a, i => ∃ d j : _, ns[i]? = some d ∧ d.op = 4 ∧ d.l = ((j : Nat) : Int) ∧ TreeAt ns a j
  | .and_ a b, i => ∃ d j k : _, ns[i]? = some d ∧ d.op = 5 ∧ d.l = ((j : Nat) : Int) ∧ d.r = ((k : Nat) : Int) ∧ TreeAt ns a j ∧ TreeAt ns b k
  | .minus a b, i => ∃ d j k : _, ns[i]? = some d ∧ d.op = 6 ∧ d.l = ((j : Nat) : Int) ∧ d.r = ((k : Nat) : Int) ∧ TreeAt ns a j ∧ TreeAt ns b k
def opOf : ReM → Int
  | .eps => 0
  | .cls _ => 1
  | .cat _ _ => 2
  | .alt _ _ => 3
  | .star _ => 4
  | .and_ _ _ => 5
  | .minus _ _ => 6
theorem getx {α : Type} {l m : List α} {i : Nat} {x : α} (h : l[i]? = some x) : (l ++ m)[i]? = some x := by
  rw [List.getElem?_append_left (List.getElem?_eq_some_iff.1 h).1]; exact h
theorem TreeAt.more {ns ms : List RnM} : ∀ {r : ReM} {i : Nat}, TreeAt ns r i → TreeAt (ns ++ ms) r i
  | .eps, _, ⟨d, h1, h2⟩ => ⟨d, getx h1, h2⟩
  | .cls _, _, ⟨d, h1, h2⟩ => ⟨d, getx h1, h2⟩
  | .cat a b, _, ⟨d, j, k, h1, h2, h3, h4, h5, h6⟩ => ⟨d, j, k, getx h1, h2, h3, h4, h5.more, h6.more⟩
  | .alt a b, _, ⟨d, j, k, h1, h2, h3, h4, h5, h6⟩ => ⟨d, j, k, getx h1, h2, h3, h4, h5.more, h6.more⟩
  | .star a, _, ⟨d, j, h1, h2, h3, h5⟩ => ⟨d, j, getx h1, h2, h3, h5.more⟩
  | .and_ a b, _, ⟨d, j, k, h1, h2, h3, h4, h5, h6⟩ => ⟨d, j, k, getx h1, h2, h3, h4, h5.more, h6.more⟩
  | .minus a b, _, ⟨d, j, k, h1, h2, h3, h4, h5, h6⟩ => ⟨d, j, k, getx h1, h2, h3, h4, h5.more, h6.more⟩
/-- A tree of the document's, to be read. -/
def reL (v : Value) (root : Int) : List Value := [v, .int .i64 root]
def ReV (S : Nat → Prop) (H : Heap) (v : Value) (ns : List RnM) (root : Int) : Prop := ns.length ≤ 4194304 ∧ ∃ na nc, v = .agg (reL (.slice na ns.length nc) root).toArray ∧ SlD tRn S H na nc ns
section
variable {S S' : Nat → Prop} {H H' : Heap} {v : Value} {ns : List RnM} {root : Int}
theorem ReV.frame (h : ReV S H v ns root) (k : Agr S H H') : ReV S H' v ns root := by
  obtain ⟨h1, na, nc, h2, h3⟩ := h
  exact ⟨h1, na, nc, h2, h3.frame k⟩
theorem re_box {K : Value → Heap → Prop} {t : TypeId} (h : ReV S H v ns root)
    (k : ∀ na nc, v = .agg (reL (.slice na ns.length nc) root).toArray → SlD tRn S H na nc ns → New H (fun b H' => K (.pointer (some ⟨b, 0, none⟩)) H') t (reL (.slice na ns.length nc) root)) : VEff Tryz.prog (Instr.box t v) H K := by
  obtain ⟨hl, na, nc, rfl, h1⟩ := h
  exact vbox (reL (.slice na ns.length nc) root) rfl (k na nc rfl h1)
theorem re_load {S0 : Nat → Prop} {pb : Nat} {na : Option Addr} {nc : Nat} {K : Value → Prop} {t : TypeId} (hl : ns.length ≤ 4194304) (hb : Blk H pb t (reL (.slice na ns.length nc) root)) (hag : AggT Tryz.prog t 2) (hS : S0 pb) (h1 : SlD tRn S H na nc ns)
    (k : ∀ v, ReV S H v ns root → K v) : VDet Tryz.prog (Instr.loadAt t (.pointer (some ⟨pb, 0, none⟩))) S0 H K :=
  ldN (cs := reL (.slice na ns.length nc) root) hag (hb.cells fun j v hv => by rw [Nat.zero_add]; exact hv) hS (k _ ⟨hl, na, nc, rfl, h1⟩)
end
end Go.Proofs.YtlnmhfhdjnenoaaGreatDoor
/- strings.IndexByte: the kit's shelf, laid by its tool. -/
set_option linter.unusedVariables false
set_option linter.unusedSimpArgs false
set_option maxRecDepth 100000
namespace Go.Proofs.YtlnmhfhdjnenoaaGreatDoor
open Go.Shelf Go.Proofs Go.VC
def lays137_ren : Go.Shelf.Ren := ⟨fun | 137 => 107 | 217 => 123 | 266 => 134 | n => n, fun | 9 => 9 | 5 => 5 | 3 => 3 | n => n, fun | n => n⟩
theorem lays137 : Go.Proofs.Lays.n137 Tryz.prog lays137_ren := {
  mixed := by kernel_rfl
  f137 := Tryz.func107.trans (congrArg some (by kernel_rfl))
  f217 := Tryz.func123.trans (congrArg some (by kernel_rfl))
  f266 := Tryz.func134.trans (congrArg some (by kernel_rfl))
  t3 := Tryz.underlying3
  a3 := Tryz.isAgg3
  z3 := Tryz.sizeOf3
  v3 := Tryz.zeroValue3
  t5 := Tryz.underlying5
  a5 := Tryz.isAgg5
  z5 := Tryz.sizeOf5
  v5 := Tryz.zeroValue5
  t9 := Tryz.underlying9
  a9 := Tryz.isAgg9
  z9 := Tryz.sizeOf9
  v9 := Tryz.zeroValue9 }
open Go.RowKit in
theorem strings_IndexByte (s : ByteArray) (c : Int) (w : World) :
    Calls Tryz.prog 107 #[.string s, .int .u8 c] w fun e w' => e = .returned (.int .i64 (Lib.indexByte s.data.toList c.toNat.toUInt8)) ∧ w' = w := Any.strings_IndexByte lays137 s c w
open Go.Lib in
theorem index_p (s : ByteArray) (c : Nat) (H : Heap) : Pure Tryz.prog 107 #[.string s, .int .u8 (c : Int)] H (.int .i64 (indexByte s.data.toList (UInt8.ofNat c))) := by
  intro w hw
  refine ⟨Tryz.call107 _ w, ?_⟩
  refine (strings_IndexByte s (c : Int) w).mono ?_
  rintro _ _ ⟨rfl, rfl⟩
  exact ⟨_, rfl, Env.refl _, rfl, by subst hw; exact Agr.refl _ _⟩
end Go.Proofs.YtlnmhfhdjnenoaaGreatDoor
/- class.single: the walk; how a byte is written. -/
set_option linter.unusedVariables false
set_option linter.unusedSimpArgs false
set_option maxRecDepth 100000
namespace Go.Proofs.YtlnmhfhdjnenoaaGreatDoor
open Go.VC Go.Lib
def spB (s : ByteArray) (c : Nat) : Bool := decide (0 ≤ indexByte s.data.toList (UInt8.ofNat c))
def escL : List Value := [.int .u8 110, .int .u8 10, .int .u8 114, .int .u8 13, .int .u8 116, .int .u8 9]
/-- The table of escapes lies in memory. -/
def EscH (H : Heap) : Prop := Cells H 0 0 escL ∧ 0 < H.size
theorem esc_z : (Tryz.prog.info? 188).bind (·.zero) = some (.agg #[.int .u8 0, .int .u8 0]) := by kernel_rfl
theorem spec_ge {s : ByteArray} {c : Nat} : (decide (indexByte s.data.toList (UInt8.ofNat c) ≥ 0)) = spB s c := rfl
def escP (i : Nat) : Nat × Nat := match i with
  | 0 => (110, 10)
  | 1 => (114, 13)
  | _ => (116, 9)
end Go.Proofs.YtlnmhfhdjnenoaaGreatDoor
/- louperef01.in, Special, Inner, One: the walks. -/
set_option linter.unusedVariables false
set_option linter.unusedSimpArgs false
set_option maxRecDepth 100000
namespace Go.Proofs.YtlnmhfhdjnenoaaGreatDoor
open Go.VC Go.Lib
theorem spB_in {s : ByteArray} {c i : Nat} (h : s.data.toList[i]? = some (UInt8.ofNat c)) : spB s c = true := by
  unfold spB
  rw [decide_eq_true_eq]
  have h1 := indexByte_ge s.data.toList (UInt8.ofNat c)
  apply Classical.byContradiction
  intro h2
  exact absurd h (indexByte_none (by omega) i)
theorem spB_out {s : ByteArray} {c : Nat} (h : ∀ i : Nat, s.data.toList[i]? ≠ some (UInt8.ofNat c)) : spB s c = false := by
  unfold spB
  rw [decide_eq_false_iff_not]
  intro h2
  obtain ⟨o, ho⟩ := Int.eq_ofNat_of_zero_le h2
  exact h o (indexByte_some ho).1
theorem in_p {H : Heap} {s : ByteArray} {c : Nat} (hs : s.size ≤ 1048576) (hc : c < 256) : Pure Tryz.prog 102 #[.string s, .int .u8 (c : Int)] H (.bool (spB s c)) := by
  refine FnOk.of_vc Tryz.func102 rfl (Tryz.call102 _) ?_
  have hsz : s.data.toList.length = s.size := rfl
  (conv => whnf)
  refine VLoop.mk [5] (fun i : Nat => [.int .i64 (i : Int)]) (fun i H1 => i ≤ s.size ∧ (∀ j, j < i → s.data.toList[j]? ≠ some (UInt8.ofNat c)) ∧ St H H1 []) (fun i _ => s.size - i) ?_ ?_
  · (conv => whnf)
    exact ⟨0, rfl, by omega, fun j hj => by omega, St.nil H⟩
  · rintro i H1 junk1 ⟨hi, hno, st1⟩
    (conv => whnf); refine VIte.mk (fun hz => ?_) (fun hz => ?_) <;> simp only [decide_eq_true_eq, decide_eq_false_iff_not] at hz
    · obtain ⟨x, hx⟩ := get_some (l := s.data.toList) (k := i) (by omega)
      have hx2 : s.data[i]? = some x := by rw [← Array.getElem?_toList]; exact hx
      (conv => whnf); refine vidxs Tryz.underlying9 rfl hx2 ?_
      by_cases he : x.toNat = c
      · have d1 : ((x.toNat : Int) == (c : Int)) = true := by rw [he]; exact beq_self_eq_true _
        have hxc : x = UInt8.ofNat c := by rw [← he]; simp
        rw [spB_in (i := i) (by rw [← hxc]; exact hx)]
        (conv => whnf); rw [d1]
        (conv => whnf)
        exact ⟨rfl, st1.old⟩
      · have d1 : ((x.toNat : Int) == (c : Int)) = false := beq_eq_false_iff_ne.2 (by omega)
        (conv => whnf); rw [d1]
        (conv => whnf); rw [w64 (x := (i : Int) + 1) (by omega) (by omega)]
        refine ⟨rfl, i + 1, by simp, ⟨by omega, fun j hj => ?_, st1⟩, by omega⟩
        rcases Nat.lt_or_eq_of_le (Nat.le_of_lt_succ hj) with hj | rfl
        · exact hno j hj
        · rw [hx]
          intro e
          injection e with e
          apply he
          rw [e, UInt8.toNat_ofNat']
          omega
    · obtain rfl : i = s.size := by omega
      (conv => whnf)
      rw [spB_out fun j => by
        by_cases hj : j < s.size
        · exact hno j hj
        · rw [List.getElem?_eq_none (by omega)]; exact fun e => by cases e]
      exact ⟨rfl, st1.old⟩
def specS : ByteArray := ⟨#[40, 41, 91, 93, 123, 125, 124, 38, 45, 42, 43, 63, 46, 92, 47, 94]⟩
def innS : ByteArray := ⟨#[92, 93, 91, 45, 94, 47]⟩
theorem special_p {H : Heap} {c : Nat} (hc : c < 256) : Pure Tryz.prog 84 #[.int .u8 (c : Int)] H (.bool (spB specS c)) := by
  refine FnOk.of_vc Tryz.func84 rfl (Tryz.call84 _) ?_
  (conv => whnf); refine pures (in_p (s := specS) (by decide) hc) fun H1 ha1 => ?_
  (conv => whnf)
  exact ⟨rfl, ha1⟩
theorem inner_p {H : Heap} {c : Nat} (hc : c < 256) : Pure Tryz.prog 83 #[.int .u8 (c : Int)] H (.bool (spB innS c)) := by
  refine FnOk.of_vc Tryz.func83 rfl (Tryz.call83 _) ?_
  (conv => whnf); refine pures (in_p (s := innS) (by decide) hc) fun H1 ha1 => ?_
  (conv => whnf)
  exact ⟨rfl, ha1⟩
end Go.Proofs.YtlnmhfhdjnenoaaGreatDoor
/- The calculus once more, for code that may end by a panic: E says what is asked of the panic's value and of the heap. -/
set_option linter.unusedVariables false
set_option linter.unusedSimpArgs false
namespace Go.VC
/-- The chain of one fresh panic. -/
abbrev pe (x : Value) : List PanicEntry := [{ v := x, recovered := false }]
def EndOk (R E : Value → Heap → Prop) : Ending → Heap → Prop
  | .returned v, H => R v H
  | .panicked c, H => ∃ x, c = pe x ∧ E x H
  | .outgrown, _ => False
theorem EndOk.mono {R R' E E' : Value → Heap → Prop} {e : Ending} {H : Heap} (h : EndOk R E e H) (hr : ∀ v H, R v H → R' v H) (he : ∀ v H, E v H → E' v H) : EndOk R' E' e H := by
  cases e with
  | returned v => exact hr v H h
  | panicked c => obtain ⟨x, h1, h2⟩ := h; exact ⟨x, h1, he x H h2⟩
  | outgrown => exact h
/-- Called in any world over this heap, function f returns, and R holds, or it panics, and E holds. -/
def FnOkP (P : Program) (f : FuncId) (args : Array Value) (H : Heap) (R E : Value → Heap → Prop) : Prop :=
  ∀ w : World, w.heap = H → (callFunc f args).run P w = .ok (.enter f args) w ∧ Calls P f args w fun e w' => Env w w' ∧ EndOk R E e w'.heap
theorem FnOkP.mono {P : Program} {f : FuncId} {args : Array Value} {H : Heap} {R R' E E' : Value → Heap → Prop} (h : FnOkP P f args H R E) (hr : ∀ v H, R v H → R' v H) (he : ∀ v H, E v H → E' v H) : FnOkP P f args H R' E' := fun w hw =>
  ⟨(h w hw).1, (h w hw).2.mono fun e w' ⟨h1, h2⟩ => ⟨h1, h2.mono hr he⟩⟩
theorem FnOk.pan {P : Program} {f : FuncId} {args : Array Value} {H : Heap} {R E : Value → Heap → Prop} (h : FnOk P f args H R) : FnOkP P f args H R E := fun w hw =>
  ⟨(h w hw).1, (h w hw).2.mono fun e w' ⟨v, he, h1, h2⟩ => by subst he; exact ⟨h1, h2⟩⟩
structure VCallP (P : Program) (f : FuncId) (args : Array Value) (H : Heap) (K E : Value → Heap → Prop) : Prop where
  in_ ::
  out_ : FnOkP P f args H K E
theorem VCallP.mk {P : Program} {f : FuncId} {args : Array Value} {H : Heap} {K R E E' : Value → Heap → Prop} (h : FnOkP P f args H R E') (k : ∀ v H', R v H' → K v H') (e : ∀ v H', E' v H' → E v H') : VCallP P f args H K E :=
  ⟨h.mono k e⟩
/-- A call that doesn't panic. -/
theorem VCallP.of {P : Program} {f : FuncId} {args : Array Value} {H : Heap} {K E : Value → Heap → Prop} (h : VCall P f args H K) : VCallP P f args H K E := ⟨h.out_.pan⟩

/-- The frame of an activation with these calls deferred. -/
structure AtX (ds : List Deferred) (fr : Fr) (a : Act) : Prop where
  tmps : a.tmps.toList = fr
  defers : a.defers = ds
theorem AtX.at_ {fr : Fr} {a : Act} (h : AtX [] fr a) : At fr a := ⟨h.tmps, h.defers⟩
theorem AtX.bare {ds : List Deferred} {fr : Fr} {a : Act} (h : AtX ds fr a) : At fr { tmps := a.tmps, defers := [] } := ⟨h.tmps, rfl⟩
theorem AtX.evalF {ds : List Deferred} {fr : Fr} {a : Act} (h : AtX ds fr a) : a.eval = evF fr := by
  rw [← h.bare.evalF]
  funext x
  cases x <;> rfl
theorem AtX.put {ds : List Deferred} {fr : Fr} {a : Act} (h : AtX ds fr a) (dst : Option Tmp) (v : Value) : AtX ds (match dst with | none => fr | some d => fr.set d v) (a.put dst v) := by
  obtain ⟨rfl, h2⟩ := h
  cases dst with
  | none => exact ⟨rfl, h2⟩
  | some d => exact ⟨by simp [Act.put], h2⟩
theorem putX {a : Act} {dst : Option Tmp} {v v' : Value} (h : ({ tmps := a.tmps, defers := [] } : Act).put dst v = ({ tmps := a.tmps, defers := [] } : Act).put dst v') : a.put dst v = a.put dst v' := by
  cases dst with
  | none => rfl
  | some d =>
    have := congrArg Act.tmps h
    simp only [Act.put] at this ⊢
    rw [this]

/-! ### single operations -/
def OpOkP (P : Program) (o : Oper) (a : Act) (w : World) (K E : Value → Heap → Prop) : Prop :=
  ∀ Q : Exit → Act → World → Prop, (∀ x w', Env w w' → E x w'.heap → Q (.panic (pe x)) a w') → o.wp P a w (fun a' w' => ∃ v, a' = a.put o.dst v ∧ Env w w' ∧ K v w'.heap) Q
/-- What holds with nothing deferred holds with whatever is deferred. -/
theorem op_any {P : Program} {o : Oper} {a : Act} {w : World} {K E : Value → Heap → Prop} (h : OpOk P o { tmps := a.tmps, defers := [] } w K) : OpOkP P o a w K E := by
  intro Q _
  have h1 := h (fun e _ w => Q e a w)
  unfold Oper.wp at h1 ⊢
  have ev : ({ tmps := a.tmps, defers := [] } : Act).eval = a.eval := by funext x; cases x <;> rfl
  rw [ev] at h1
  revert h1
  generalize (execOp a.eval o).run P w = r
  intro h1
  cases r with
  | ok nx w' =>
    cases nx with
    | value v =>
      obtain ⟨v', e, h2, h3⟩ := h1
      exact ⟨v', putX e, h2, h3⟩
    | skip =>
      obtain ⟨v', e, h2, h3⟩ := h1
      exact ⟨v', putX e, h2, h3⟩
    | defer d =>
      obtain ⟨v', e, h2, h3⟩ := h1
      have := congrArg Act.defers e
      cases hdst : o.dst <;> rw [hdst] at this <;> simp [Act.put] at this
    | enter f args =>
      refine Calls.mono h1 ?_
      intro e w'' h2
      cases e with
      | returned v =>
        obtain ⟨v', e, h3, h4⟩ := h2
        exact ⟨v', putX e, h3, h4⟩
      | panicked c => exact h2
      | outgrown => obtain ⟨_, w, h3⟩ := h2; exact ⟨a, w, h3⟩
    | row row args =>
      refine Rows.mono h1 ?_
      intro v w'' h2
      obtain ⟨v', e, h3, h4⟩ := h2
      exact ⟨v', putX e, h3, h4⟩
    | _ => exact h1.elim
  | halt s w' =>
    cases s <;> first | exact h1 | exact h1.elim
def callPK (P : Program) (f : Value) (args : List Value) (H : Heap) (K E : Value → Heap → Prop) : Prop :=
  match f with
  | .func (.func g) first cap => VCallP P g (first.toList ++ args ++ cap.toList).toArray H K E
  | _ => False
/-- One operation. -/
def opPK (P : Program) (o : Oper) (fr : Fr) (H : Heap) (K : Value → Heap → Prop) (E : Fr → Value → Heap → Prop) : Prop :=
  match o.op with
  | .panic x => evK fr x fun v => match v with
    | .iface t y => E fr (.iface t y) H
    | _ => False
  | .call { callee := .value f, args, .. } => evK fr f fun g => evsK fr args.toList fun vs => callPK P g vs H K (E fr)
  | _ => opK P false (fun _ => True) o fr H K
theorem VCallP.out {P : Program} {f : FuncId} {args : Array Value} {H : Heap} {K E : Value → Heap → Prop} (h : VCallP P f args H K E) : FnOkP P f args H K E := by exact h.out_
theorem opPK_sound {P : Program} {o : Oper} {ds : List Deferred} {fr : Fr} {a : Act} {w : World} {K : Value → Heap → Prop} {E : Fr → Value → Heap → Prop} (hat : AtX ds fr a) (h : opPK P o fr w.heap K E) : OpOkP P o a w K (E fr) := by
  unfold opPK at h
  split at h
  · rename_i x ho
    rw [evK_eq] at h
    split at h
    · rename_i t y hx
      intro Q hq
      have : (execOp a.eval o).run P w = .halt (.panic (.iface t y)) w := by
        rw [hat.evalF]
        simp only [execOp, ho, hx]
        simp [Instr.panic, goPanic]
      unfold Oper.wp
      rw [this]
      exact hq _ w (Env.refl w) h
    · exact h.elim
  · rename_i f args argTypes ho
    simp only [evK_eq, evsK_eq, ← Array.toList_map] at h
    unfold callPK at h
    split at h
    · rename_i g first cap hg
      intro Q hq
      have e : (first.toList ++ (Array.map (evF fr) args).toList ++ cap.toList).toArray = first ++ Array.map (evF fr) args ++ cap := Array.ext' (by simp)
      have h' := h.out
      rw [e] at h'
      have h1 : (execOp a.eval o).run P w = (callFunc g (first ++ Array.map (evF fr) args ++ cap)).run P w := by
        rw [hat.evalF]
        simp only [execOp, ho, resolve, hg, Deferred.ofValue]
        simp [invoke]
      unfold Oper.wp
      rw [h1, (h' w rfl).1]
      refine (h' w rfl).2.mono ?_
      intro e w' ⟨henv, hk⟩
      cases e with
      | returned v => exact ⟨v, rfl, henv, hk⟩
      | panicked c =>
        obtain ⟨x, rfl, hx⟩ := hk
        exact hq x w' henv hx
      | outgrown => exact hk.elim
    · exact h.elim
  · exact op_any (opK_sound hat.bare h)

/-! ### regions -/
def guardPK (P : Program) (o : Oper) (want : Bool) (t : Nat) (fr : Fr) (H : Heap) (K : Fr → Heap → Prop) (E : Fr → Value → Heap → Prop) : Prop :=
  rdK fr t fun v => match v with
    | .bool b => VIte b
      (wrK fr t (.bool true) fun fr1 => match want with
        | true => opPK P o fr1 H (fun v H' => putK o.dst fr1 v fun fr' => apK K fr' H') E
        | false => putK o.dst fr1 undef fun fr' => apK K fr' H)
      (wrK fr t (.bool false) fun fr1 => match want with
        | false => opPK P o fr1 H (fun v H' => putK o.dst fr1 v fun fr' => apK K fr' H') E
        | true => putK o.dst fr1 undef fun fr' => apK K fr' H)
    | .tuple _ => putK o.dst fr undef fun fr' => apK K fr' H
    | _ => False
def opsPK (P : Program) (all : List Oper) (E : Fr → Value → Heap → Prop) (l : List Oper) : Fr → Heap → (Fr → Heap → Prop) → Prop :=
  List.rec (motive := fun _ => Fr → Heap → (Fr → Heap → Prop) → Prop) (fun fr H K => K fr H) (fun o _ ih fr H K =>
    match o.guard with
    | none => opPK P o fr H (fun v H' => putK o.dst fr v fun fr' => ih fr' H' K) E
    | some (j, want) => match (all[j]?).bind (·.dst) with
      | none => False
      | some t => guardPK P o want t fr H (fun fr' H' => ih fr' H' K) E) l
theorem opsPK_cons (P : Program) (all rest : List Oper) (o : Oper) (E : Fr → Value → Heap → Prop) (fr : Fr) (H : Heap) (K : Fr → Heap → Prop) : opsPK P all E (o :: rest) fr H K =
    (match o.guard with
    | none => opPK P o fr H (fun v H' => putK o.dst fr v fun fr' => opsPK P all E rest fr' H' K) E
    | some (j, want) => match (all[j]?).bind (·.dst) with
      | none => False
      | some t => guardPK P o want t fr H (fun fr' H' => opsPK P all E rest fr' H' K) E) := rfl
theorem yieldedX {ops : List Oper} {ds : List Deferred} {fr : Fr} {a : Act} (hat : AtX ds fr a) {j t : Nat} (hj : (ops[j]?).bind (·.dst) = some t) {b : Bool} (hv : rd fr t = .bool b) : yielded ops.toArray a.tmps j = some b :=
  yielded_at hat.bare hj hv
theorem yieldedX_no {ops : List Oper} {ds : List Deferred} {fr : Fr} {a : Act} (hat : AtX ds fr a) {j t : Nat} (hj : (ops[j]?).bind (·.dst) = some t) {vs : Array Value} (hv : rd fr t = .tuple vs) : yielded ops.toArray a.tmps j = none :=
  yielded_no hat.bare hj hv
theorem opsPK_sound {P : Program} {all : List Oper} {ds : List Deferred} {E : Fr → Value → Heap → Prop} {Q : Exit → Act → World → Prop} {w0 : World} (hp : ∀ x fr a' w', AtX ds fr a' → Env w0 w' → E fr x w'.heap → Q (.panic (pe x)) a' w') : ∀ (l : List Oper) (fr : Fr) (a : Act) (w : World) (K : Fr → Heap → Prop), AtX ds fr a → Env w0 w →
    (∀ fr' a' w', AtX ds fr' a' → Env w0 w' → K fr' w'.heap → Q .normal a' w') →
    opsPK P all E l fr w.heap K → wpList P all.toArray Q l a w
  | [], fr, a, w, K, hat, he, hq, h => hq fr a w hat he h
  | o :: l, fr, a, w, K, hat, he, hq, h => by
    have go : ∀ (want : Bool), (want = true → OpOkP P o a w (fun v H' => putK o.dst fr v fun fr' => opsPK P all E l fr' H' K) (E fr)) →
        (want = false → putK o.dst fr undef fun fr' => opsPK P all E l fr' w.heap K) →
        Region.wanted o (yielded all.toArray a.tmps) = want → wpList P all.toArray Q (o :: l) a w := by
      intro want h1 h2 hw
      unfold wpList
      rw [hw]
      cases want with
      | true =>
        refine .inl (Oper.wp_mono ?_ (h1 rfl _ fun x w' henv hx => hp x fr a w' hat (he.trans henv) hx))
        rintro a' w' ⟨v, rfl, henv, hk⟩
        rw [putK_eq] at hk
        exact opsPK_sound hp l _ _ _ K (hat.put o.dst v) (he.trans henv) hq hk
      | false =>
        have h3 := h2 rfl
        rw [putK_eq] at h3
        exact opsPK_sound hp l _ _ _ K (hat.put o.dst undef) he hq h3
    rw [opsPK_cons] at h
    split at h
    · rename_i hg
      exact go true (fun _ => opPK_sound hat h) (fun h => by cases h) (by simp [Region.wanted, hg])
    · rename_i j want hg
      split at h
      · exact h.elim
      · rename_i t ht
        unfold guardPK at h
        simp only [apK] at h
        rw [rdK_eq] at h
        split at h
        · rename_i b hb
          have hy := yieldedX hat ht hb
          have hs : fr.set t (.bool b) = fr := rd_set_self hb (by simp [undef])
          cases b <;> cases want <;> simp only [VIte, wrK_eq, hs] at h
          · exact go true (fun _ => opPK_sound hat h) (fun h => by cases h) (by simp [Region.wanted, hg, hy])
          · exact go false (fun h => by cases h) (fun _ => h) (by simp [Region.wanted, hg, hy])
          · exact go false (fun h => by cases h) (fun _ => h) (by simp [Region.wanted, hg, hy])
          · exact go true (fun _ => opPK_sound hat h) (fun h => by cases h) (by simp [Region.wanted, hg, hy])
        · rename_i vs hb
          exact go false (fun h => by cases h) (fun _ => h) (by simp [Region.wanted, hg, yieldedX_no hat ht hb])
        · exact h.elim

/-- What is asked of a panic doesn't look at what these operations write into the frame. -/
def Blind (E : Fr → Value → Heap → Prop) (l : List Oper) : Prop := ∀ o ∈ l, ∀ d, o.dst = some d → ∀ fr v x H, E (fr.set d v) x H → E fr x H
theorem blind_all (E : Value → Heap → Prop) (l : List Oper) : Blind (fun _ => E) l := fun _ _ _ _ _ _ _ _ h => h
/-- A region whose order is open. -/
structure VDrawP (P : Program) (ds : List Deferred) (l : List Oper) (fr : Fr) (H : Heap) (K : Fr → Heap → Prop) (E : Fr → Value → Heap → Prop) : Prop where
  in_ ::
  out_ : ∀ (id : Nat) (Q : Exit → Act → World → Prop) (a : Act) (w : World), AtX ds fr a → w.heap = H → (∀ x fr a' w', AtX ds fr a' → Env w w' → E fr x w'.heap → Q (.panic (pe x)) a' w') →
    (Blind E l → ∀ c, ∀ o ∈ l, ∀ v a w, Q (.panic c) (a.put o.dst v) w → Q (.panic c) a w) →
    (∀ fr' a' w', AtX ds fr' a' → Env w w' → K fr' w'.heap → Q .normal a' w') → (Code.region id l.toArray true).wp P Q a w
theorem VDrawP.of {P : Program} {l : List Oper} {fr : Fr} {H : Heap} {K : Fr → Heap → Prop} {E : Fr → Value → Heap → Prop} (h : VDraw P l fr H K) : VDrawP P [] l fr H K E := by
  refine ⟨fun id Q a w hat hw _ _ hq => ?_⟩
  refine Code.wp_mono (Q := fun e a w => Q e a w ∧ ∀ c, e ≠ .panic c) (fun e a w h => h.1) ?_
  exact h.out id _ a w hat.at_ hw (fun c a w h => h.2 c rfl) fun fr' a' w' h1 h2 h3 => ⟨hq fr' a' w' ⟨h1.tmps, h1.defers⟩ h2 h3, fun c => by simp⟩
/-- One operation of the order, carried out here. -/
def stepP (P : Program) (S : Nat → Prop) (Z : List Nat) (H0 : Heap) (all : List Oper) (E : Fr → Value → Heap → Prop) (i : Nat) (fr : Fr) (H : Heap) (next : Fr → Heap → Prop) : Prop :=
  match all[i]? with
  | none => False
  | some o => match o.guard with
    | some _ => False
    | none => match Z.contains i with
      | true => opPK P o fr H (fun v H' => putK o.dst fr v fun fr' => next fr' H') E
      | false => opPK P o fr H (fun v H' => Agr S H0 H' ∧ putK o.dst fr v fun fr' => next fr' H') E
def heldP (P : Program) (S : Nat → Prop) (Z : List Nat) (H0 : Heap) (all : List Oper) (E : Fr → Value → Heap → Prop) (s : Sch) : Fr → Heap → (Fr → Heap → Prop) → Prop :=
  Sch.rec (motive := fun _ => Fr → Heap → (Fr → Heap → Prop) → Prop) (fun fr H K => K fr H)
    (fun i _ ih fr H K => match all[i]? with
      | none => False
      | some o => match o.guard with
        | some _ => False
        | none => match isDet o && convDet P o with
          | true => detK P S o fr H fun v => putK o.dst fr v fun fr' => ih fr' H K
          | false => False)
    (fun i _ ih fr H K => stepP P S Z H0 all E i fr H fun fr' H' => ih fr' H' K)
    (fun i _ j _ ih ih' fr H K => (stepP P S Z H0 all E i fr H fun fr' H' => ih fr' H' K) ∧ stepP P S Z H0 all E j fr H fun fr' H' => ih' fr' H' K) s
theorem heldP_q (P : Program) (S : Nat → Prop) (Z : List Nat) (H0 : Heap) (all : List Oper) (E : Fr → Value → Heap → Prop) (i : Nat) (s : Sch) (fr : Fr) (H : Heap) (K : Fr → Heap → Prop) : heldP P S Z H0 all E (.q i s) fr H K =
    (match all[i]? with
      | none => False
      | some o => match o.guard with
        | some _ => False
        | none => match isDet o && convDet P o with
          | true => detK P S o fr H fun v => putK o.dst fr v fun fr' => heldP P S Z H0 all E s fr' H K
          | false => False) := rfl
theorem stepP_sound {P : Program} {S : Nat → Prop} {Z : List Nat} {w0 : World} {all : List Oper} {ds : List Deferred} {E : Fr → Value → Heap → Prop} {Q : Exit → Act → World → Prop} (hp : ∀ x fr a' w', AtX ds fr a' → Env w0 w' → E fr x w'.heap → Q (.panic (pe x)) a' w') {i : Nat} {fr : Fr} {a : Act} {w : World} {next : Fr → Heap → Prop} {N : Act → World → Prop}
    (hat : AtX ds fr a) (hc : Env w0 w) (h : stepP P S Z w0.heap all E i fr w.heap next)
    (hn : ∀ fr' a' w', AtX ds fr' a' → Env w0 w' → (Z.contains i = false → Cls w0 S w') → next fr' w'.heap → N a' w') : wpOp P all.toArray Q i N a w := by
  unfold stepP at h
  split at h
  · exact h.elim
  · rename_i o ho
    have ho' : all.toArray[i]? = some o := by simpa using ho
    split at h
    · exact h.elim
    · rename_i hg
      have hwant : Region.wanted o (yielded all.toArray a.tmps) = true := by simp [Region.wanted, hg]
      unfold wpOp
      rw [ho']
      dsimp only
      rw [if_pos hwant]
      split at h
      · rename_i hz
        refine .inl (Oper.wp_mono ?_ (opPK_sound hat h _ fun x w' henv hx => hp x fr a w' hat (hc.trans henv) hx))
        rintro a' w' ⟨v, rfl, henv, hk⟩
        rw [putK_eq] at hk
        exact hn _ _ _ (hat.put o.dst v) (hc.trans henv) (fun hne => by rw [hz] at hne; cases hne) hk
      · refine .inl (Oper.wp_mono ?_ (opPK_sound hat h _ fun x w' henv hx => hp x fr a w' hat (hc.trans henv) hx))
        rintro a' w' ⟨v, rfl, henv, hagr, hk⟩
        rw [putK_eq] at hk
        exact hn _ _ _ (hat.put o.dst v) (hc.trans henv) (fun _ => ⟨hc.trans henv, hagr⟩) hk
theorem put_defers (a : Act) (dst : Option Tmp) (v : Value) : (a.put dst v).defers = a.defers := by cases dst <;> rfl
theorem heldP_sound {P : Program} {S : Nat → Prop} {Z : List Nat} {w0 : World} {all : List Oper} {ds : List Deferred} {E : Fr → Value → Heap → Prop} {Q : Exit → Act → World → Prop} (hs : Region.noSelect all.toArray = true)
    (hp : ∀ x fr a' w', AtX ds fr a' → Env w0 w' → E fr x w'.heap → Q (.panic (pe x)) a' w') (hp2 : ∀ c, ∀ o ∈ all, ∀ v a w, Q (.panic c) (a.put o.dst v) w → Q (.panic c) a w) : ∀ (l : Sch) (listed : Array Bool) (fr : Fr) (a : Act) (w : World) (K : Fr → Heap → Prop), AtX ds fr a → Env w0 w → (zAll Z l = false → Cls w0 S w) → Shut all.toArray listed →
    (∀ fr' a' w', AtX ds fr' a' → Env w0 w' → K fr' w'.heap → Q .normal a' w') → heldBZ all.toArray Z l listed = true → l.even = true →
    heldP P S Z w0.heap all E l fr w.heap K → wpAnyZ P all.toArray Q (Cls w0 S) Z l.len listed a w
  | .e, listed, fr, a, w, K, hat, he, _, _, hq, hB, _, h => ⟨by simpa [heldBZ] using hB, hq fr a w hat he h⟩
  | .q i s, listed, fr, a, w, K, hat, he, hc, hsh, hq, hB, hev, h => by
    have hc := hc rfl
    simp only [heldBZ, Bool.and_eq_true, Bool.not_eq_true', List.all_eq_true] at hB
    obtain ⟨⟨⟨⟨b1, b2⟩, b3⟩, b4⟩, hB2⟩ := hB
    rw [heldP_q] at h
    split at h
    · exact h.elim
    · rename_i o ho
      have ho' : all.toArray[i]? = some o := by simpa using ho
      have hri : i ∈ Region.ready .any all.toArray listed := by simpa using b1
      split at h
      · exact h.elim
      · rename_i hg
        have hwant : Region.wanted o (yielded all.toArray a.tmps) = true := by simp [Region.wanted, hg]
        split at h
        · obtain ⟨v, hv, hk⟩ := detK_sound h
          rw [putK_eq] at hk
          refine wpAnyZ_first (v := v) (f := all.toArray.size) ho' (Region.noSelect_spec hs) (fun c a' w' hh => hp2 c o (List.mem_of_getElem? ho) v a' w' hh) b3 (fun j hj => b4 j (by simpa using hj)) s.len listed a w hsh (Region.free_spec ho' b2) hri
            (.inl ⟨hwant, fun w' hw' => ?_⟩) hc ?_
          · rw [hat.evalF]
            exact hv w' fun k hk => (hw'.2 k hk).trans (hc.2 k hk).symm
          · exact heldP_sound hs hp hp2 s _ _ _ w K (hat.put o.dst v) he (fun _ => hc) (hsh.put hri) hq hB2 hev hk
        · exact h.elim
  | .f i s, listed, fr, a, w, K, hat, he, hc, hsh, hq, hB, hev, h => by
    simp only [heldBZ, Bool.and_eq_true, Bool.or_eq_true, Bool.not_eq_true', beq_iff_eq] at hB
    obtain ⟨⟨b1, b2⟩, hB2⟩ := hB
    refine ⟨(fun h0 => by rw [b1] at h0; cases h0), fun j hj => ?_⟩
    have hj0 := hj
    rw [b1] at hj
    obtain rfl : j = i := by simpa using hj
    refine stepP_sound hp hat he h fun fr' a' w' h1 h2 h3 h4 => ⟨h3, heldP_sound hs hp hp2 s _ _ _ w' K h1 h2 (fun hz => ?_) (hsh.put hj0) hq hB2 hev h4⟩
    rcases b2 with b2 | b2
    · exact h3 b2
    · rw [b2] at hz; cases hz
  | .b i s j s', listed, fr, a, w, K, hat, he, hc, hsh, hq, hB, hev, h => by
    simp only [heldBZ, Bool.and_eq_true, Bool.or_eq_true, Bool.not_eq_true', beq_iff_eq] at hB
    obtain ⟨⟨⟨b1, b2⟩, hB2⟩, hB3⟩ := hB
    simp only [Sch.even, Bool.and_eq_true, beq_iff_eq] at hev
    obtain ⟨⟨e1, e2⟩, e3⟩ := hev
    refine ⟨(fun h0 => by rw [b1] at h0; cases h0), fun k hk => ?_⟩
    have hk0 := hk
    rw [b1] at hk
    rcases List.mem_cons.1 hk with rfl | hk
    · refine stepP_sound hp hat he h.1 fun fr' a' w' h1 h2 h3 h4 => ⟨h3, heldP_sound hs hp hp2 s _ _ _ w' K h1 h2 (fun hz => ?_) (hsh.put hk0) hq hB2 e1 h4⟩
      rcases b2 with b2 | b2
      · exact h3 b2.1
      · rw [b2.1] at hz; cases hz
    · obtain rfl : k = j := by simpa using hk
      rw [e3]
      refine stepP_sound hp hat he h.2 fun fr' a' w' h1 h2 h3 h4 => ⟨h3, heldP_sound hs hp hp2 s' _ _ _ w' K h1 h2 (fun hz => ?_) (hsh.put hk0) hq hB3 e2 h4⟩
      rcases b2 with b2 | b2
      · exact h3 b2.2
      · rw [b2.2] at hz; cases hz
theorem VDrawP.held {P : Program} {ds : List Deferred} {l : List Oper} {fr : Fr} {H : Heap} {K : Fr → Heap → Prop} {E : Fr → Value → Heap → Prop} (S : Nat → Prop) (Z : List Nat) (sched : Sch) (hbl : Blind E l) (hm : P.follows .mixedOrders = true)
    (hB : (Region.noSelect l.toArray && (sched.len == l.length) && sched.even && heldBZ l.toArray Z sched (Array.replicate l.length false)) = true)
    (h : heldP P S Z H l E sched fr H K) : VDrawP P ds l fr H K E := by
  refine ⟨?_⟩
  intro id Q a w hat hw hp hp2 hq
  subst hw
  simp only [Bool.and_eq_true, beq_iff_eq] at hB
  refine wp_region_any hm (wpAny_of_Z (S := Cls w S) (Z := Z) _ _ _ _ ?_)
  have hsh : Shut l.toArray (Array.replicate l.length false) := fun j o _ hj => by
    rw [Array.getD_eq_getD_getElem?, Array.getElem?_replicate] at hj
    split at hj <;> simp at hj
  have := heldP_sound (P := P) (S := S) (Z := Z) (w0 := w) (Q := Q) hB.1.1.1 hp (hp2 hbl) sched (Array.replicate l.length false) fr a { w with drawn := w.drawn + 1 } K hat ⟨rfl, rfl, rfl⟩ (fun _ => ⟨⟨rfl, rfl, rfl⟩, Agr.refl _ _⟩) hsh hq hB.2 hB.1.2 h
  rw [hB.1.1.2] at this
  simpa using this

/-! ### code -/
def LiftP (ds : List Deferred) (w0 : World) (E : Fr → Value → Heap → Prop) (Q : Exit → Fr → Heap → Prop) : Exit → Act → World → Prop
  | .panic c, a, w => ∃ fr, AtX ds fr a ∧ Env w0 w ∧ ∃ x, c = pe x ∧ E fr x w.heap
  | .outgrown, _, _ => False
  | e, a, w => ∃ fr, AtX ds fr a ∧ Env w0 w ∧ Q e fr w.heap
/-- A loop. -/
structure VLoopP (P : Program) (ds : List Deferred) (E : Fr → Value → Heap → Prop) (c : Code) (fr : Fr) (H : Heap) (X : List (Nat × (Fr → Heap → Prop))) (kr : Fr → Heap → Prop) : Prop where
  in_ ::
  out_ : ∀ (a : Act) (w : World), AtX ds fr a → w.heap = H → (Code.loop c).wp P (LiftP ds w E (Qx (fun _ _ => False) X kr)) a w
/-- Two pieces of code of which the first parts and meets again. -/
structure VSeqP (P : Program) (ds : List Deferred) (E : Fr → Value → Heap → Prop) (x y : Code) (fr : Fr) (H : Heap) (kn : Fr → Heap → Prop) (X : List (Nat × (Fr → Heap → Prop))) (kr : Fr → Heap → Prop) : Prop where
  in_ ::
  out_ : ∀ (a : Act) (w : World), AtX ds fr a → w.heap = H → (Code.seq x y).wp P (LiftP ds w E (Qx kn X kr)) a w
def vcP (P : Program) (ds : List Deferred) (E : Fr → Value → Heap → Prop) (c : Code) : Fr → Heap → (Fr → Heap → Prop) → List (Nat × (Fr → Heap → Prop)) → (Fr → Heap → Prop) → Prop :=
  Code.rec (motive := fun _ => Fr → Heap → (Fr → Heap → Prop) → List (Nat × (Fr → Heap → Prop)) → (Fr → Heap → Prop) → Prop)
    (fun fr H kn _ _ => kn fr H)
    (fun _ ops draw fr H kn _ _ => match draw with
      | false => opsPK P ops.toList E ops.toList fr H kn
      | true => VDrawP P ds ops.toList fr H kn E)
    (fun a b iha ihb fr H kn X kr => match joinsC a with
      | true => VSeqP P ds E a b fr H kn X kr
      | false => iha fr H (fun fr' H' => ihb fr' H' kn X kr) X kr)
    (fun c _ _ ihx ihy fr H kn X kr => match c with
      | .tmp t => rdK fr t fun v => match v with
        | .bool b => VIte b (wrK fr t (.bool true) fun fr1 => ihx fr1 H kn X kr) (wrK fr t (.bool false) fun fr1 => ihy fr1 H kn X kr)
        | _ => False
      | .const (.bool b) => VIte b (ihx fr H kn X kr) (ihy fr H kn X kr)
      | _ => False)
    (fun id _ ih fr H kn X kr => ih fr H kn ((id, kn) :: X) kr)
    (fun c _ fr H _ X kr => VLoopP P ds E c fr H X kr)
    (fun _ _ _ _ _ _ _ _ _ _ _ => False)
    (fun id fr H _ X _ => exitK X id fr H)
    (fun _ _ _ _ _ _ _ => False)
    (fun _ _ _ _ _ _ => False)
    (fun _ _ _ _ _ _ => False)
    (fun fr H _ _ kr => kr fr H)
    (fun _ _ _ _ _ _ => False) c
section
variable (P : Program) (ds : List Deferred) (E : Fr → Value → Heap → Prop) (a b : Code) (fr : Fr) (H : Heap) (kn : Fr → Heap → Prop) (X : List (Nat × (Fr → Heap → Prop))) (kr : Fr → Heap → Prop)
theorem vcP_region (id : Nat) (ops : Array Oper) (draw : Bool) : vcP P ds E (.region id ops draw) fr H kn X kr = (match draw with
      | false => opsPK P ops.toList E ops.toList fr H kn
      | true => VDrawP P ds ops.toList fr H kn E) := rfl
theorem vcP_seq : vcP P ds E (.seq a b) fr H kn X kr = (match joinsC a with
      | true => VSeqP P ds E a b fr H kn X kr
      | false => vcP P ds E a fr H (fun fr' H' => vcP P ds E b fr' H' kn X kr) X kr) := rfl
theorem vcP_cond (c : Operand) : vcP P ds E (.cond c a b) fr H kn X kr = (match c with
      | .tmp t => rdK fr t fun v => match v with
        | .bool x => VIte x (wrK fr t (.bool true) fun fr1 => vcP P ds E a fr1 H kn X kr) (wrK fr t (.bool false) fun fr1 => vcP P ds E b fr1 H kn X kr)
        | _ => False
      | .const (.bool x) => VIte x (vcP P ds E a fr H kn X kr) (vcP P ds E b fr H kn X kr)
      | _ => False) := rfl
theorem vcP_block (id : Nat) : vcP P ds E (.block id a) fr H kn X kr = vcP P ds E a fr H kn ((id, kn) :: X) kr := rfl
end
theorem VLoopP.out {P : Program} {ds : List Deferred} {E : Fr → Value → Heap → Prop} {c : Code} {fr : Fr} {H : Heap} {X : List (Nat × (Fr → Heap → Prop))} {kr : Fr → Heap → Prop} (h : VLoopP P ds E c fr H X kr) :
    ∀ (a : Act) (w : World), AtX ds fr a → w.heap = H → (Code.loop c).wp P (LiftP ds w E (Qx (fun _ _ => False) X kr)) a w := by exact h.out_
theorem VSeqP.out {P : Program} {ds : List Deferred} {E : Fr → Value → Heap → Prop} {x y : Code} {fr : Fr} {H : Heap} {kn : Fr → Heap → Prop} {X : List (Nat × (Fr → Heap → Prop))} {kr : Fr → Heap → Prop} (h : VSeqP P ds E x y fr H kn X kr) :
    ∀ (a : Act) (w : World), AtX ds fr a → w.heap = H → (Code.seq x y).wp P (LiftP ds w E (Qx kn X kr)) a w := by exact h.out_
theorem LiftP.env {ds : List Deferred} {w0 w1 : World} {E : Fr → Value → Heap → Prop} {Q : Exit → Fr → Heap → Prop} (henv : Env w0 w1) : ∀ {e : Exit} {a : Act} {w : World}, LiftP ds w1 E Q e a w → LiftP ds w0 E Q e a w
  | .normal, _, _, ⟨fr, h1, h2, h3⟩ | .exit _, _, _, ⟨fr, h1, h2, h3⟩ | .goto _, _, _, ⟨fr, h1, h2, h3⟩ | .ret, _, _, ⟨fr, h1, h2, h3⟩ => ⟨fr, h1, henv.trans h2, h3⟩
  | .panic c, _, _, ⟨fr, h1, h2, h3⟩ => ⟨fr, h1, henv.trans h2, h3⟩
theorem LiftP.mono {ds : List Deferred} {w0 : World} {E : Fr → Value → Heap → Prop} {Q Q' : Exit → Fr → Heap → Prop} (hq : ∀ e fr H, Q e fr H → Q' e fr H) : ∀ {e : Exit} {a : Act} {w : World}, LiftP ds w0 E Q e a w → LiftP ds w0 E Q' e a w
  | .normal, _, _, ⟨fr, h1, h2, h3⟩ | .exit _, _, _, ⟨fr, h1, h2, h3⟩ | .goto _, _, _, ⟨fr, h1, h2, h3⟩ | .ret, _, _, ⟨fr, h1, h2, h3⟩ => ⟨fr, h1, h2, hq _ _ _ h3⟩
  | .panic c, _, _, h => h
theorem seq_liftP {P : Program} {ds : List Deferred} {E : Fr → Value → Heap → Prop} {x y : Code} {kn k1 : Fr → Heap → Prop} {X : List (Nat × (Fr → Heap → Prop))} {kr : Fr → Heap → Prop} {a : Act} {w : World}
    (hx : x.wp P (LiftP ds w E (Qx k1 X kr)) a w)
    (hy : ∀ fr a' w', AtX ds fr a' → Env w w' → k1 fr w'.heap → y.wp P (LiftP ds w' E (Qx kn X kr)) a' w') : (Code.seq x y).wp P (LiftP ds w E (Qx kn X kr)) a w := by
  refine wp_seq (Code.wp_mono ?_ hx)
  intro e a' w' h
  cases e with
  | normal =>
    obtain ⟨fr, h1, h2, h3⟩ := h
    exact Code.wp_mono (fun e a w h => LiftP.env h2 h) (hy fr a' w' h1 h2 h3)
  | exit id => exact h
  | goto l => exact h
  | ret => exact h
  | panic c => exact h
  | outgrown => exact h
theorem vcP_sound {P : Program} {ds : List Deferred} {E : Fr → Value → Heap → Prop} : ∀ (c : Code) (fr : Fr) (kn : Fr → Heap → Prop) (X : List (Nat × (Fr → Heap → Prop))) (kr : Fr → Heap → Prop) (a : Act) (w : World), AtX ds fr a →
    vcP P ds E c fr w.heap kn X kr → c.wp P (LiftP ds w E (Qx kn X kr)) a w
  | .skip, fr, kn, X, kr, a, w, hat, h => wp_skip ⟨fr, hat, Env.refl w, h⟩
  | .region id ops draw, fr, kn, X, kr, a, w, hat, h => by
    rw [vcP_region] at h
    cases draw with
    | false =>
      have := wp_region_lit (P := P) (id := id) (l := ops.toList) (opsPK_sound (P := P) (all := ops.toList) (ds := ds) (E := E) (Q := LiftP ds w E (Qx kn X kr)) (w0 := w) (fun x fr a' w' h1 h2 h3 => ⟨fr, h1, h2, x, rfl, h3⟩) ops.toList fr a w kn hat (Env.refl w) (fun fr' a' w' h1 h2 h3 => ⟨fr', h1, h2, h3⟩) h)
      simpa using this
    | true =>
      have := h.out_ id (LiftP ds w E (Qx kn X kr)) a w hat rfl (fun x fr a' w' h1 h2 h3 => ⟨fr, h1, h2, x, rfl, h3⟩) (fun hbl c o ho v a w' h => by
        obtain ⟨fr2, h1, h2, x, h3, h4⟩ := h
        obtain ⟨h5, h6⟩ := h1
        rw [put_defers] at h6
        refine ⟨a.tmps.toList, ⟨rfl, h6⟩, h2, x, h3, ?_⟩
        cases hd : o.dst with
        | none => rw [hd] at h5; rw [← h5] at h4; exact h4
        | some d =>
          rw [hd] at h5
          refine hbl o ho d hd _ v x _ ?_
          rw [← h5] at h4
          simpa [Act.put] using h4) (fun fr' a' w' h1 h2 h3 => ⟨fr', h1, h2, h3⟩)
      simpa using this
  | .seq x y, fr, kn, X, kr, a, w, hat, h => by
    rw [vcP_seq] at h
    split at h
    · exact h.out a w hat rfl
    · exact seq_liftP (vcP_sound x fr _ X kr a w hat h) fun fr' a' w' h1 _ h3 => vcP_sound y fr' kn X kr a' w' h1 h3
  | .cond c x y, fr, kn, X, kr, a, w, hat, h => by
    rw [vcP_cond] at h
    split at h
    · rename_i t
      rw [rdK_eq] at h
      split at h
      · rename_i b hb
        have hs : fr.set t (.bool b) = fr := rd_set_self hb (by simp [undef])
        have he : a.eval (.tmp t) = .bool b := by rw [hat.evalF]; exact hb
        cases b <;> simp only [VIte, wrK_eq, hs] at h
        · exact wp_cond_false he (vcP_sound y fr kn X kr a w hat h)
        · exact wp_cond_true he (vcP_sound x fr kn X kr a w hat h)
      · exact h.elim
    · rename_i b
      cases b <;> simp only [VIte] at h
      · exact wp_cond_false rfl (vcP_sound y fr kn X kr a w hat h)
      · exact wp_cond_true rfl (vcP_sound x fr kn X kr a w hat h)
    · exact h.elim
  | .block id c, fr, kn, X, kr, a, w, hat, h => by
    rw [vcP_block] at h
    refine wp_block (Code.wp_mono ?_ (vcP_sound c fr kn _ kr a w hat h))
    intro e a' w' h
    cases e with
    | exit id' =>
      obtain ⟨fr', h1, h2, h3⟩ := h
      simp only [Qx, exitK] at h3
      simp only [Exit.inBlock]
      split at h3
      · rename_i hid
        have := Nat.eq_of_beq_eq_true hid
        rw [if_pos this.symm]
        exact ⟨fr', h1, h2, h3⟩
      · rename_i hid
        have : id ≠ id' := Nat.ne_of_beq_eq_false hid
        rw [if_neg (Ne.symm this)]
        exact ⟨fr', h1, h2, h3⟩
    | normal => exact h
    | goto l => exact h
    | ret => exact h
    | panic c => exact h
    | outgrown => exact h
  | .loop c, fr, kn, X, kr, a, w, hat, h => Code.wp_mono (fun e a w => LiftP.mono fun e fr H hq => by
      cases e <;> first | exact hq | exact hq.elim) (h.out a w hat rfl)
  | .exit id, fr, kn, X, kr, a, w, hat, h => wp_exit ⟨fr, hat, Env.refl w, h⟩
  | .ret, fr, kn, X, kr, a, w, hat, h => wp_ret ⟨fr, hat, Env.refl w, h⟩
  | .rangeFunc .., _, _, _, _, _, _, _, h => h.elim
  | .scope _, _, _, _, _, _, _, _, h => h.elim
  | .label _, _, _, _, _, _, _, _, h => h.elim
  | .goto _, _, _, _, _, _, _, _, h => h.elim
  | .refuse _, _, _, _, _, _, _, _, h => h.elim
theorem VLoopP.mk {P : Program} {ds : List Deferred} {E : Fr → Value → Heap → Prop} {c : Code} {fr : Fr} {H : Heap} {X : List (Nat × (Fr → Heap → Prop))} {kr : Fr → Heap → Prop} {α : Type} (ts : List Nat) (enc : α → List Value) (I : α → Heap → Prop) (m : α → Heap → Nat)
    (h0 : rdsK fr ts fun vs => ∃ x, vs = enc x ∧ I x H)
    (hr : ∀ (x : α) (H1 : Heap) (junk : Nat → Value), I x H1 → havocK junk fr (wset c []) fun fr0 => wrsK fr0 ts (enc x) fun fr1 =>
      vcP P ds E c fr1 H1 (fun fr' H' => keptK (wset c []) fr fr' (rdsK fr' ts fun vs => ∃ y, vs = enc y ∧ I y H' ∧ m y H' < m x H1)) X kr) : VLoopP P ds E c fr H X kr := by
  generalize wset c [] = ws at hr
  refine ⟨?_⟩
  intro a w hat hw
  subst hw
  have h0' := h0
  rw [rdsK_eq] at h0'
  obtain ⟨x0, hx0, hi0⟩ := h0'
  let J (n : Nat) (a' : Act) (w' : World) : Prop := ∃ fr' x, AtX ds fr' a' ∧ Env w w' ∧ havoc (fun _ => undef) fr' ws = havoc (fun _ => undef) fr ws ∧ ts.map (rd fr') = enc x ∧ I x w'.heap ∧ m x w'.heap = n
  refine wp_loop_rel J ?_ _ a w ⟨fr, x0, hat, Env.refl w, rfl, hx0, hi0, rfl⟩
  rintro n a1 w1 ⟨fr1, x1, hat1, henv1, hk1, hx1, hi1, rfl⟩
  have h := hr x1 w1.heap (rd fr1) hi1
  rw [havocK_eq, wrsK_eq, havoc_of_blank hk1, ← hx1, wrs_self ts fr1] at h
  refine Code.wp_mono ?_ (vcP_sound c fr1 _ X kr a1 w1 hat1 h)
  intro e a2 w2 h2
  cases e with
  | normal =>
    obtain ⟨fr2, hat2, henv2, h2⟩ := h2
    simp only [Qx, keptK, havocK_eq, rdsK_eq] at h2
    obtain ⟨hk2, y, hy, hiy, hm⟩ := h2
    exact ⟨m y w2.heap, hm, fr2, y, hat2, henv1.trans henv2, hk2, hy, hiy, rfl⟩
  | exit id => exact LiftP.env henv1 h2
  | goto l => exact LiftP.env henv1 h2
  | ret => exact LiftP.env henv1 h2
  | panic c => exact LiftP.env henv1 h2
  | outgrown => exact h2
theorem VSeqP.run {P : Program} {ds : List Deferred} {E : Fr → Value → Heap → Prop} {x y : Code} {fr : Fr} {H : Heap} {kn : Fr → Heap → Prop} {X : List (Nat × (Fr → Heap → Prop))} {kr : Fr → Heap → Prop}
    (h : vcP P ds E x fr H (fun fr' H' => vcP P ds E y fr' H' kn X kr) X kr) : VSeqP P ds E x y fr H kn X kr := by
  refine ⟨?_⟩
  intro a w hat hw
  subst hw
  exact seq_liftP (vcP_sound x fr _ X kr a w hat h) fun fr' a' w' h1 _ h3 => vcP_sound y fr' kn X kr a' w' h1 h3
theorem VSeqP.cut {P : Program} {ds : List Deferred} {E : Fr → Value → Heap → Prop} {x y : Code} {fr : Fr} {H : Heap} {kn : Fr → Heap → Prop} {X : List (Nat × (Fr → Heap → Prop))} {kr : Fr → Heap → Prop} {α : Type} (ts : List Nat) (enc : α → List Value) (I : α → Heap → Prop)
    (h : vcP P ds E x fr H (fun fr' H' => keptK (wset x []) fr fr' (rdsK fr' ts fun vs => ∃ y, vs = enc y ∧ I y H')) X kr)
    (k : ∀ (z : α) (H1 : Heap) (junk : Nat → Value), I z H1 → havocK junk fr (wset x []) fun fr0 => wrsK fr0 ts (enc z) fun fr1 => vcP P ds E y fr1 H1 kn X kr) : VSeqP P ds E x y fr H kn X kr := by
  generalize wset x [] = ws at h k
  refine ⟨?_⟩
  intro a w hat hw
  subst hw
  refine seq_liftP (vcP_sound x fr _ X kr a w hat h) fun fr1 a1 w1 h1 _ h3 => ?_
  simp only [keptK, havocK_eq, rdsK_eq] at h3
  obtain ⟨hk, z, hz, hi⟩ := h3
  have h := k z w1.heap (rd fr1) hi
  rw [havocK_eq, wrsK_eq, havoc_of_blank hk, ← hz, wrs_self ts fr1] at h
  exact vcP_sound y fr1 kn X kr a1 w1 h1 h

/-! ### functions -/
theorem resX_sound {P : Program} {fn : Func} {ds : List Deferred} {fr : Fr} {a : Act} {w : World} {R : Value → Heap → Prop} (hat : AtX ds fr a) (h : resK P fn.results.toList fr w.heap R) :
    ∃ v, (results fn a.tmps).run P w = .ok v w ∧ R v w.heap := resK_sound (a := { tmps := a.tmps, defers := [] }) hat.bare h
theorem FnOkP.of_vc {P : Program} {f : FuncId} {fn : Func} {c : Code} {args : Array Value} {H : Heap} {R E : Value → Heap → Prop} (hf : P.funcs[f]? = some fn) (hb : fn.body = some c)
    (hcall : ∀ w : World, (callFunc f args).run P w = .ok (.enter f args) w)
    (h : normK (args.toList ++ List.replicate (fn.ntmps - args.size) undef) fun fr => vcP P [] (fun _ => E) c fr H (fun fr' H' => resK P fn.results.toList fr' H' R) [] (fun fr' H' => resK P fn.results.toList fr' H' R)) :
    FnOkP P f args H R E := by
  intro w hw
  subst hw
  refine ⟨hcall w, ?_⟩
  refine calls_of_wp hf hb ?_
  rw [normK_eq] at h
  have hat : AtX [] (args.toList ++ List.replicate (fn.ntmps - args.size) undef) { tmps := args ++ Array.replicate (fn.ntmps - args.size) undef, defers := [] } := ⟨by simp, rfl⟩
  refine Code.wp_mono ?_ (vcP_sound c _ _ _ _ _ w hat h)
  intro e a' w' h2
  have fin : ∀ fr, AtX [] fr a' → Env w w' → resK P fn.results.toList fr w'.heap R → a'.defers = [] ∧ ∃ v, (results fn a'.tmps).run P w' = .ok v w' ∧ Env w w' ∧ R v w'.heap := by
    intro fr h1 h2 h3
    obtain ⟨v, hv, hR⟩ := resX_sound h1 h3
    exact ⟨h1.defers, v, hv, h2, hR⟩
  cases e with
  | normal => obtain ⟨fr, h1, h2, h3⟩ := h2; exact fin fr h1 h2 h3
  | ret => obtain ⟨fr, h1, h2, h3⟩ := h2; exact fin fr h1 h2 h3
  | exit id => obtain ⟨fr, h1, h2, h3⟩ := h2; exact h3.elim
  | goto l => obtain ⟨fr, h1, h2, h3⟩ := h2; exact h3.elim
  | panic c => obtain ⟨fr, h1, h3, x, h4, h5⟩ := h2; exact ⟨h1.defers, h3, x, h4, h5⟩
  | outgrown => exact h2.elim
end Go.VC
/- Functions that defer a closure which recovers; results that lie in cells. -/
set_option linter.unusedVariables false
set_option linter.unusedSimpArgs false
namespace Go.VC
/-! ### results, whatever they are -/
def resL (P : Program) (rs : List ResultVar) (fr : Fr) (H : Heap) : (List Value → Prop) → Prop :=
  List.rec (motive := fun _ => (List Value → Prop) → Prop) (fun R => R []) (fun r _ ih R => match r with
    | .tmp t => rdK fr t fun v => ih fun vs => R (v :: vs)
    | .cell a t => rdK fr a fun p => ldK P t p H fun v => ih fun vs => R (v :: vs)) rs
def resV (vs : List Value) : Value := match vs with
  | [v] => v
  | vs => .tuple vs.toArray
def resOne (tmps : Array Value) (r : ResultVar) : Sem Value := match r with
  | .tmp t => pure (tmps.getD t undef)
  | .cell a t => do loadVar t (← asAddr (tmps.getD a undef))
theorem resL_sound {P : Program} {fr : Fr} {a : Act} {w : World} (hat : At fr a) : ∀ (rs : List ResultVar) (R : List Value → Prop), resL P rs fr w.heap R →
    ∃ vs : List Value, (rs.mapM (resOne a.tmps)).run P w = .ok vs w ∧ R vs
  | [], R, h => ⟨[], by simp, h⟩
  | .tmp t :: rs, R, h => by
    have h' : rdK fr t (fun v => resL P rs fr w.heap fun vs => R (v :: vs)) := h
    rw [rdK_eq] at h'
    obtain ⟨vs, h1, h2⟩ := resL_sound hat rs _ h'
    have hrd : a.tmps.getD t undef = rd fr t := hat.eval (.tmp t)
    have h0 : (resOne a.tmps (.tmp t)).run P w = .ok (rd fr t) w := by simp [resOne, hrd]
    refine ⟨rd fr t :: vs, ?_, h2⟩
    rw [List.mapM_cons, Sem.run_bind, h0]
    simp only [Result.andThen_ok, Sem.run_bind, h1, Sem.run_pure]
  | .cell x t :: rs, R, h => by
    have h' : rdK fr x (fun p => ldK P t p w.heap fun v => resL P rs fr w.heap fun vs => R (v :: vs)) := h
    rw [rdK_eq] at h'
    obtain ⟨p, v, hp, hv, h2⟩ := ldK_sound h'
    obtain ⟨vs, h3, h4⟩ := resL_sound hat rs _ h2
    have hrd : a.tmps.getD x undef = rd fr x := hat.eval (.tmp x)
    have h0 : (resOne a.tmps (.cell x t)).run P w = .ok v w := by simp [resOne, hrd, hp, asAddr, hv]
    refine ⟨v :: vs, ?_, h4⟩
    rw [List.mapM_cons, Sem.run_bind, h0]
    simp only [Result.andThen_ok, Sem.run_bind, h3, Sem.run_pure]
theorem results_sound {P : Program} {fn : Func} {ds : List Deferred} {fr : Fr} {a : Act} {w : World} {R : Value → Prop} (hat : AtX ds fr a) (h : resL P fn.results.toList fr w.heap fun vs => R (resV vs)) :
    ∃ v, (results fn a.tmps).run P w = .ok v w ∧ R v := by
  obtain ⟨vs, h1, h2⟩ := resL_sound (a := { tmps := a.tmps, defers := [] }) hat.bare _ _ h
  refine ⟨resV vs, ?_, h2⟩
  have e : results fn a.tmps = (do
    let vs ← fn.results.mapM (resOne a.tmps)
    pure (if h : vs.size = 1 then vs[0] else .tuple vs)) := rfl
  have e2 : (fn.results.mapM (resOne a.tmps)).run P w = .ok vs.toArray w := by
    rw [Array.mapM_eq_mapM_toList]
    have e3 : (List.toArray <$> fn.results.toList.mapM (resOne a.tmps)) = (fn.results.toList.mapM (resOne a.tmps) >>= fun l => pure l.toArray) := rfl
    rw [e3, Sem.run_bind, h1]
    simp
  rw [e, Sem.run_bind, e2]
  simp only [Result.andThen_ok, Sem.run_pure]
  match vs with
  | [] => rfl
  | [v] => rfl
  | _ :: _ :: _ => rfl

/-! ### a closure that recovers -/
def recB (o0 o1 : Oper) (t0 t1 : Nat) : Prop := (∃ ats, o0.op = .call { callee := .builtin .recover, args := #[], argTypes := ats }) ∧ o0.guard = none ∧ o0.dst = some t0 ∧ o1.op = .assign (.tmp t0) ∧ o1.guard = none ∧ o1.dst = some t1
inductive RecU : FrameMode → FrameMode → Value → Prop
  | ret : RecU .returning .returning .nilIface
  | pan (x : Value) : RecU (.panicking (pe x)) (.panicking [{ v := x, recovered := true }]) x
theorem callsD_rec {P : Program} {g : FuncId} {fn : Func} {id0 : Nat} {o0 o1 : Oper} {t0 t1 : Nat} {rest : Code} {args : Array Value} {u u' : FrameMode} {rv : Value} {H : Heap} {R : Heap → Prop} (hf : P.funcs[g]? = some fn) (hb : fn.body = some (.seq (.region id0 #[o0, o1] false) rest))
    (hB : recB o0 o1 t0 t1) (hu : RecU u u' rv) (hres : fn.results = #[])
    (h : normK (args.toList ++ List.replicate (fn.ntmps - args.size) undef) fun fr => rdK fr t0 fun _ => rdK (fr.set t0 rv) t0 fun v => v = rv ∧ wrK fr t0 rv fun fr1 => wrK fr1 t1 rv fun fr2 => vc P rest fr2 H (fun _ H' => R H') [] (fun _ H' => R H')) :
    ∀ w : World, w.heap = H → CallsD P g args u w fun e u2 w' => e = .returned (.tuple #[]) ∧ u2 = u' ∧ Env w w' ∧ R w'.heap := by
  intro w hw
  subst hw
  rw [normK_eq] at h
  simp only [rdK_eq, wrK_eq] at h
  obtain ⟨hrv, h⟩ := h
  obtain ⟨⟨ats, b0⟩, b1, b2, b3, b4, b5⟩ := hB
  refine callsD_of_wpS hf hb ?_
  intro c₀ cs hc
  let a0 : Act := { tmps := args ++ Array.replicate (fn.ntmps - args.size) undef, defers := [] }
  have hat0 : At (args.toList ++ List.replicate (fn.ntmps - args.size) undef) a0 := ⟨by simp [a0], rfl⟩
  refine wpS_seq (wpS_region ?_)
  have hrun0 : (execOp a0.eval o0).run P w = .ok .recover w := by
    simp only [execOp, b0, resolve]
    simp [invoke, builtin]
  have key : ∀ (c' : Frame), { c₀ with mode := u' } = c' → wpOpsS P #[o0, o1] (Exit.thenS (rest.wpS P (bodyPostS P fn c₀ cs fun e u2 w' => e = .returned (.tuple #[]) ∧ u2 = u' ∧ Env w w' ∧ R w'.heap)) (bodyPostS P fn c₀ cs fun e u2 w' => e = .returned (.tuple #[]) ∧ u2 = u' ∧ Env w w' ∧ R w'.heap)) [1] (a0.put o0.dst rv) (c' :: cs) w := by
    intro c' hc'
    have hat1 := hat0.put o0.dst rv
    have hrun1 : (execOp (a0.put o0.dst rv).eval o1).run P w = .ok (.value rv) w := by
      rw [hat1.evalF, b2]
      simp only [execOp, b3]
      have : evF ((args.toList ++ List.replicate (fn.ntmps - args.size) undef).set t0 rv) (.tmp t0) = rv := hrv
      simp [this]
    have hw1 : Region.wanted o1 (yielded #[o0, o1] (a0.put o0.dst rv).tmps) = true := by simp [Region.wanted, b4]
    unfold wpOpsS
    have g1 : (#[o0, o1] : Array Oper)[1]? = some o1 := rfl
    rw [g1]
    simp only [hw1, if_true, hrun1]
    simp only [Oper.upon, wpOpsS, Exit.thenS]
    refine wpS_of_wp ?_
    have hat2 := hat1.put o1.dst rv
    rw [b2, b5] at hat2
    rw [b2, b5]
    refine Code.wp_mono ?_ (vc_sound rest _ _ _ _ _ w hat2 h)
    intro e a' w' h2
    have fin : ∀ fr, At fr a' → Env w w' → R w'.heap → a'.defers = [] ∧ ∃ u2, c' :: cs = { c₀ with mode := u2 } :: cs ∧ ∃ v, (results fn a'.tmps).run P w' = .ok v w' ∧ Ending.returned v = .returned (.tuple #[]) ∧ u2 = u' ∧ Env w w' ∧ R w'.heap := by
      intro fr h1 h2 h3
      refine ⟨h1.defers, u', by rw [hc'], .tuple #[], ?_, rfl, rfl, h2, h3⟩
      simp [results, hres]
    cases e with
    | normal => obtain ⟨fr, h1, h2, h3⟩ := h2; exact fin fr h1 h2 h3
    | ret => obtain ⟨fr, h1, h2, h3⟩ := h2; exact fin fr h1 h2 h3
    | exit id => obtain ⟨fr, h1, h2, h3⟩ := h2; exact h3.elim
    | goto l => obtain ⟨fr, h1, h2, h3⟩ := h2; exact h3.elim
    | panic c => exact h2.elim
    | outgrown => exact h2.elim
  have hw0 : Region.wanted o0 (yielded #[o0, o1] a0.tmps) = true := by simp [Region.wanted, b1]
  show wpOpsS P #[o0, o1] _ [0, 1] a0 (c₀ :: cs) w
  unfold wpOpsS
  have g0 : (#[o0, o1] : Array Oper)[0]? = some o0 := rfl
  rw [g0]
  simp only [hw0, if_true, hrun0]
  cases hu with
  | ret =>
    have : recoverD (c₀ :: cs) = none := by simp [recoverD, hc]
    rw [this]
    exact key c₀ (by rw [← hc])
  | pan =>
    have : recoverD (c₀ :: cs) = some (rv, { c₀ with mode := .panicking [{ v := rv, recovered := true }] } :: cs) := by simp [recoverD, hc]
    rw [this]
    exact key _ rfl

/-- The deferred closure g is run in mode u, and leaves mode u'. -/
structure VClos (P : Program) (g : FuncId) (args : Array Value) (u u' : FrameMode) (H : Heap) (K : Heap → Prop) : Prop where
  in_ ::
  out_ : ∀ w : World, w.heap = H → CallsD P g args u w fun e u2 w' => e = .returned (.tuple #[]) ∧ u2 = u' ∧ Env w w' ∧ K w'.heap
theorem VClos.mk {P : Program} {g : FuncId} {args : Array Value} {u u' : FrameMode} {H : Heap} {K R : Heap → Prop} (h : ∀ w : World, w.heap = H → CallsD P g args u w fun e u2 w' => e = .returned (.tuple #[]) ∧ u2 = u' ∧ Env w w' ∧ R w'.heap) (k : ∀ H', R H' → K H') : VClos P g args u u' H K :=
  ⟨fun w hw => (h w hw).mono fun e u2 w' ⟨h1, h2, h3, h4⟩ => ⟨h1, h2, h3, k _ h4⟩⟩
def defB (o1 o2 : Oper) (tc : Nat) (g : FuncId) (cap : Array Operand) : Prop :=
  o1.op = .makeFunc (.func g) #[] cap ∧ o1.guard = none ∧ o1.dst = some tc ∧ (∃ ats, o2.op = .defer { callee := .value (.tmp tc), args := #[], argTypes := ats }) ∧ o2.guard = none ∧ o2.dst = none
abbrev dfr (g : FuncId) (vs : List Value) : Deferred := { target := .fn (.func g) vs.toArray, args := #[] }
theorem FnOk.of_defer {P : Program} {f : FuncId} {fn : Func} {r0 A B : Code} {idD : Nat} {o1 o2 : Oper} {tc : Nat} {g : FuncId} {cap : Array Operand} {args : Array Value} {H : Heap} {R : Value → Heap → Prop} (hf : P.funcs[f]? = some fn)
    (hb : fn.body = some (.seq r0 (.seq A (.seq (.region idD #[o1, o2] false) B)))) (hcall : ∀ w : World, (callFunc f args).run P w = .ok (.enter f args) w) (hD : defB o1 o2 tc g cap) (hg : ∀ (vs : Array Value) (w : World), (callFunc g vs).run P w = .ok (.enter g vs) w)
    (h : normK (args.toList ++ List.replicate (fn.ntmps - args.size) undef) fun fr =>
      vc P r0 fr H (fun fr1 H1 => vc P A fr1 H1 (fun fr2 H2 => evsK fr2 cap.toList fun vs => wrK fr2 tc (.func (.func g) #[] vs.toArray) fun fr3 => rdK fr3 tc fun fv => fv = .func (.func g) #[] vs.toArray ∧
        vcP P [dfr g vs] (fun fr4 x H4 => VClos P g vs.toArray (.panicking (pe x)) (.panicking [{ v := x, recovered := true }]) H4 fun H5 => resL P fn.results.toList fr4 H5 fun us => R (resV us) H5) B fr3 H2
          (fun fr4 H4 => VClos P g vs.toArray .returning .returning H4 fun H5 => resL P fn.results.toList fr4 H5 fun us => R (resV us) H5) []
          (fun fr4 H4 => VClos P g vs.toArray .returning .returning H4 fun H5 => resL P fn.results.toList fr4 H5 fun us => R (resV us) H5))
        [] (fun fr4 H4 => resL P fn.results.toList fr4 H4 fun us => R (resV us) H4)) [] (fun fr4 H4 => resL P fn.results.toList fr4 H4 fun us => R (resV us) H4)) :
    FnOk P f args H R := by
  intro w hw
  subst hw
  refine ⟨hcall w, ?_⟩
  rw [normK_eq] at h
  obtain ⟨d1, d2, d3, ⟨ats, d4⟩, d5, d6⟩ := hD
  refine calls_of_wp_defers hf hb ?_
  let a0 : Act := { tmps := args ++ Array.replicate (fn.ntmps - args.size) undef, defers := [] }
  have hat0 : At (args.toList ++ List.replicate (fn.ntmps - args.size) undef) a0 := ⟨by simp [a0], rfl⟩
  have early : ∀ (fr : Fr) (a' : Act) (w' : World), At fr a' → Env w w' → (resL P fn.results.toList fr w'.heap fun us => R (resV us) w'.heap) → Leaves P fn a'.tmps (fun e w' => ∃ v, e = .returned v ∧ Env w w' ∧ R v w'.heap) a'.defers .returning w' := by
    intro fr a' w' h1 h2 h3
    rw [h1.defers]
    obtain ⟨v, e1, e2⟩ := results_sound (fn := fn) (ds := []) (R := fun v => R v w'.heap) ⟨h1.tmps, h1.defers⟩ h3
    exact ⟨v, e1, v, rfl, h2, e2⟩
  refine wp_seq (Code.wp_mono ?_ (vc_sound r0 _ _ _ _ a0 w hat0 h))
  intro e a1 w1 h1
  cases e with
  | ret => obtain ⟨fr, k1, k2, k3⟩ := h1; exact early fr a1 w1 k1 k2 k3
  | exit id => obtain ⟨fr, k1, k2, k3⟩ := h1; exact k3.elim
  | goto l => obtain ⟨fr, k1, k2, k3⟩ := h1; exact k3.elim
  | panic c => exact h1.elim
  | outgrown => exact h1.elim
  | normal =>
  obtain ⟨fr1, k1, k2, k3⟩ := h1
  refine wp_seq (Code.wp_mono ?_ (vc_sound A _ _ _ _ a1 w1 k1 k3))
  intro e a2 w2 h2
  cases e with
  | ret => obtain ⟨fr, m1, m2, m3⟩ := h2; exact early fr a2 w2 m1 (k2.trans m2) m3
  | exit id => obtain ⟨fr, m1, m2, m3⟩ := h2; exact m3.elim
  | goto l => obtain ⟨fr, m1, m2, m3⟩ := h2; exact m3.elim
  | panic c => exact h2.elim
  | outgrown => exact h2.elim
  | normal =>
  obtain ⟨fr2, m1, m2, m3⟩ := h2
  have m3 : evsK fr2 cap.toList _ := m3
  rw [evsK_eq] at m3
  simp only [wrK_eq, rdK_eq] at m3
  obtain ⟨m4, m5⟩ := m3
  have he2 := k2.trans m2
  have hr1 : (execOp a2.eval o1).run P w2 = .ok (.value (.func (.func g) #[] (cap.toList.map (evF fr2)).toArray)) w2 := by
    rw [m1.evalF]
    simp only [execOp, d1]
    simp only [← Array.toList_map, Array.toArray_toList]
    simp [Instr.makeFunc]
  have hat3 := m1.put o1.dst (.func (.func g) #[] (cap.toList.map (evF fr2)).toArray)
  rw [d3] at hat3
  have hr2 : (execOp (a2.put o1.dst (.func (.func g) #[] (cap.toList.map (evF fr2)).toArray)).eval o2).run P w2 = .ok (.defer (dfr g (cap.toList.map (evF fr2)))) w2 := by
    rw [d3, hat3.evalF]
    simp only [execOp, d4, resolve]
    have : evF (fr2.set tc (.func (.func g) #[] (cap.toList.map (evF fr2)).toArray)) (.tmp tc) = .func (.func g) #[] (cap.toList.map (evF fr2)).toArray := m4
    simp [this, Deferred.ofValue]
  refine wp_seq ?_
  refine wp_region_lit (l := [o1, o2]) ?_
  have w1 : Region.wanted o1 (yielded #[o1, o2] a2.tmps) = true := by simp [Region.wanted, d2]
  have w2' : ∀ tm, Region.wanted o2 (yielded #[o1, o2] tm) = true := fun tm => by simp [Region.wanted, d5]
  unfold wpList
  simp only [w1, if_true]
  refine .inl ?_
  unfold Oper.wp
  rw [hr1]
  simp only [Oper.upon]
  unfold wpList
  simp only [w2', if_true]
  refine .inl ?_
  unfold Oper.wp
  rw [hr2]
  simp only [Oper.upon, wpList, Exit.then]
  rw [d3]
  have hat4 : AtX [dfr g (cap.toList.map (evF fr2))] (fr2.set tc (.func (.func g) #[] (cap.toList.map (evF fr2)).toArray)) ({ (a2.put (some tc) (.func (.func g) #[] (cap.toList.map (evF fr2)).toArray)) with defers := dfr g (cap.toList.map (evF fr2)) :: (a2.put (some tc) (.func (.func g) #[] (cap.toList.map (evF fr2)).toArray)).defers }.put o2.dst undef) := by
    rw [d6]
    exact ⟨hat3.tmps, by show _ :: _ = _; rw [hat3.defers]⟩
  refine Code.wp_mono ?_ (vcP_sound B _ _ _ _ _ w2 hat4 m5)
  intro e a5 w5 h5
  have inv : ∀ w : World, (invoke (.fn (.func g) (cap.toList.map (evF fr2)).toArray) #[]).run P w = .ok (.enter g (cap.toList.map (evF fr2)).toArray) w := fun w => by
    simp only [invoke]
    rw [Array.empty_append]
    exact hg _ w
  have fin : ∀ fr, AtX [dfr g (cap.toList.map (evF fr2))] fr a5 → Env w2 w5 → (VClos P g (cap.toList.map (evF fr2)).toArray .returning .returning w5.heap fun H5 => resL P fn.results.toList fr H5 fun us => R (resV us) H5) →
      Leaves P fn a5.tmps (fun e w' => ∃ v, e = .returned v ∧ Env w w' ∧ R v w'.heap) a5.defers .returning w5 := by
    intro fr n1 n2 n3
    rw [n1.defers]
    refine leaves_cons (fun h => by cases h) (inv w5) ((n3.out_ w5 rfl).mono ?_)
    rintro e u w6 ⟨rfl, rfl, q1, q2⟩
    obtain ⟨v, e1, e2⟩ := results_sound (fn := fn) (R := fun v => R v w6.heap) n1 q2
    exact ⟨v, e1, v, rfl, (he2.trans n2).trans q1, e2⟩
  cases e with
  | normal => obtain ⟨fr, n1, n2, n3⟩ := h5; exact fin fr n1 n2 n3
  | ret => obtain ⟨fr, n1, n2, n3⟩ := h5; exact fin fr n1 n2 n3
  | exit id => obtain ⟨fr, n1, n2, n3⟩ := h5; exact n3.elim
  | goto l => obtain ⟨fr, n1, n2, n3⟩ := h5; exact n3.elim
  | outgrown => exact h5.elim
  | panic c =>
    obtain ⟨fr, n1, n2, x, rfl, n3⟩ := h5
    show Leaves P fn a5.tmps _ a5.defers (.panicking (pe x)) w5
    rw [n1.defers]
    refine leaves_cons (fun h => by cases h) (inv w5) ((n3.out_ w5 rfl).mono ?_)
    rintro e u w6 ⟨rfl, rfl, q1, q2⟩
    obtain ⟨v, e1, e2⟩ := results_sound (fn := fn) (R := fun v => R v w6.heap) n1 q2
    exact ⟨v, e1, v, rfl, (he2.trans n2).trans q1, e2⟩
def slotOf : ResultVar → Nat
  | .tmp t => t
  | .cell a _ => a
theorem rd_set_ne {fr : Fr} {d t : Nat} {v : Value} (h : d ≠ t) : rd (fr.set d v) t = rd fr t := by
  unfold rd
  rw [List.getD_eq_getElem?_getD, List.getD_eq_getElem?_getD, List.getElem?_set_ne h]
theorem resL_set {P : Program} {fr : Fr} {d : Nat} {v : Value} {H : Heap} : ∀ {rs : List ResultVar} {R : List Value → Prop}, (∀ r ∈ rs, d ≠ slotOf r) → resL P rs (fr.set d v) H R → resL P rs fr H R
  | [], R, _, h => h
  | .tmp t :: rs, R, hd, h => by
    have h' : rdK (fr.set d v) t (fun v' => resL P rs (fr.set d v) H fun vs => R (v' :: vs)) := h
    show rdK fr t (fun v' => resL P rs fr H fun vs => R (v' :: vs))
    rw [rdK_eq] at h' ⊢
    have hne : d ≠ t := hd _ List.mem_cons_self
    rw [rd_set_ne hne] at h'
    exact resL_set (fun r hr => hd r (List.mem_cons_of_mem _ hr)) h'
  | .cell x t :: rs, R, hd, h => by
    have h' : rdK (fr.set d v) x (fun p => ldK P t p H fun v' => resL P rs (fr.set d v) H fun vs => R (v' :: vs)) := h
    show rdK fr x (fun p => ldK P t p H fun v' => resL P rs fr H fun vs => R (v' :: vs))
    rw [rdK_eq] at h' ⊢
    have hne : d ≠ x := hd _ List.mem_cons_self
    rw [rd_set_ne hne] at h'
    have e : (fun v' => resL P rs (fr.set d v) H fun vs => R (v' :: vs)) = fun v' => resL P rs (fr.set d v) H fun vs => R (v' :: vs) := rfl
    revert h'
    unfold ldK
    generalize rd fr x = p
    intro h'
    split at h'
    · obtain ⟨v', e1, e2⟩ := h'.out_
      exact ⟨⟨v', e1, resL_set (fun r hr => hd r (List.mem_cons_of_mem _ hr)) e2⟩⟩
    · exact h'.elim
theorem blind_clos {P : Program} {g : FuncId} {vs : Array Value} {rs : List ResultVar} {R : Value → Heap → Prop} {l : List Oper} (hb : (l.all fun o => match o.dst with | none => true | some d => rs.all fun r => !(d == slotOf r)) = true) :
    Blind (fun fr4 x H4 => VClos P g vs (.panicking (pe x)) (.panicking [{ v := x, recovered := true }]) H4 fun H5 => resL P rs fr4 H5 fun us => R (resV us) H5) l := by
  intro o ho d hd fr v x H h
  have h1 := List.all_eq_true.1 hb o ho
  rw [hd] at h1
  refine VClos.mk h.out_ fun H' h2 => resL_set (fun r hr => ?_) h2
  have := List.all_eq_true.1 h1 r hr
  simpa using this
/-- A function that neither panics nor defers, whatever its results. -/
theorem FnOk.of_vcL {P : Program} {f : FuncId} {fn : Func} {c : Code} {args : Array Value} {H : Heap} {R : Value → Heap → Prop} (hf : P.funcs[f]? = some fn) (hb : fn.body = some c)
    (hcall : ∀ w : World, (callFunc f args).run P w = .ok (.enter f args) w)
    (h : normK (args.toList ++ List.replicate (fn.ntmps - args.size) undef) fun fr => vc P c fr H (fun fr' H' => resL P fn.results.toList fr' H' fun us => R (resV us) H') [] (fun fr' H' => resL P fn.results.toList fr' H' fun us => R (resV us) H')) :
    FnOk P f args H R := by
  intro w hw
  subst hw
  refine ⟨hcall w, ?_⟩
  refine calls_of_wp hf hb ?_
  rw [normK_eq] at h
  have hat : At (args.toList ++ List.replicate (fn.ntmps - args.size) undef) { tmps := args ++ Array.replicate (fn.ntmps - args.size) undef, defers := [] } := ⟨by simp, rfl⟩
  refine Code.wp_mono ?_ (vc_sound c _ _ _ _ _ w hat h)
  intro e a' w' h2
  have fin : ∀ fr, At fr a' → Env w w' → (resL P fn.results.toList fr w'.heap fun us => R (resV us) w'.heap) → a'.defers = [] ∧ ∃ v, (results fn a'.tmps).run P w' = .ok v w' ∧ ∃ v', Ending.returned v = .returned v' ∧ Env w w' ∧ R v' w'.heap := by
    intro fr h1 h2 h3
    obtain ⟨v, hv, hR⟩ := results_sound (fn := fn) (ds := []) (R := fun v => R v w'.heap) ⟨h1.tmps, h1.defers⟩ h3
    exact ⟨h1.defers, v, hv, v, rfl, h2, hR⟩
  cases e with
  | normal => obtain ⟨fr, h1, h2, h3⟩ := h2; exact fin fr h1 h2 h3
  | ret => obtain ⟨fr, h1, h2, h3⟩ := h2; exact fin fr h1 h2 h3
  | exit id => obtain ⟨fr, h1, h2, h3⟩ := h2; exact h3.elim
  | goto l => obtain ⟨fr, h1, h2, h3⟩ := h2; exact h3.elim
  | panic c => exact h2.elim
  | outgrown => exact h2.elim
end Go.VC
/- Pieces at the ends of lists; storing with what stays. -/
set_option linter.unusedVariables false
set_option linter.unusedSimpArgs false
namespace Go.VC
section
variable {α : Type} {ps qs l : List α} {i j : Nat} {p q : α}
theorem lgL (h : ps[i]? = some p) : (ps ++ qs)[i]? = some p := by rw [List.getElem?_append_left (List.getElem?_eq_some_iff.1 h).1]; exact h
theorem lsL (h : ps[i]? = some p) : (ps ++ qs).set i q = ps.set i q ++ qs := List.set_append_left _ _ (List.getElem?_eq_some_iff.1 h).1
theorem lgR (ps l : List α) (j : Nat) : (ps ++ l)[ps.length + j]? = l[j]? := by
  rw [List.getElem?_append_right (Nat.le_add_right _ _)]; congr 1; omega
theorem lsR (ps l : List α) (j : Nat) (x : α) : (ps ++ l).set (ps.length + j) x = ps ++ l.set j x := by
  rw [List.set_append_right _ _ (Nat.le_add_right _ _)]; congr 2; omega
theorem lgS (h : ps[i]? = some p) : (ps.set i q)[i]? = some q := List.getElem?_set_self (List.getElem?_eq_some_iff.1 h).1
theorem lset (h : ps[i]? = some p) : ps.set i p = ps := by
  refine List.ext_getElem? fun j => ?_
  by_cases hj : i = j
  · subst hj; rw [lgS h, h]
  · rw [List.getElem?_set_ne hj]
theorem lgR0 (ps l : List α) : (ps ++ l)[ps.length]? = l[0]? := lgR ps l 0
theorem lsR0 (ps l : List α) (x : α) : (ps ++ l).set ps.length x = ps ++ l.set 0 x := lsR ps l 0 x
end
section
variable {B : Nat → Prop} {H0 H : Heap} {ps qs : List Pc} {e : TypeId} {b : Nat} {l : List Value}
theorem StB.lft (st : StB B H0 H (ps ++ qs)) : StB B H0 H ps :=
  ⟨st.old, st.lt0, st.size, fun p hp => st.oks p (List.mem_append_left _ hp), fun p hp => st.rng p (List.mem_append_left _ hp), (List.pairwise_append.1 st.dis).1⟩
theorem StB.subl (st : StB B H0 H ps) (h : List.Sublist qs ps) : StB B H0 H qs :=
  ⟨st.old, st.lt0, st.size, fun p hp => st.oks p (h.subset hp), fun p hp => st.rng p (h.subset hp), st.dis.sublist h⟩
theorem stNBa {P : Program} {t o : Nat} {cs : List Value} {K : Heap → Prop} (st : StB B H0 H ps) (i : Nat) (ht : (P.info? t).map (·.size) = some cs.length) (hp : ps[i]? = some (pB e b l)) (ho : o + cs.length ≤ l.length) (hv : cs.all (·.oneCell') = true)
    (k : ∀ H', StB B H0 H' (ps.set i (pB e b (splice l o cs))) → Agr (fun k => k ≠ b) H H' → H'.size = H.size → K H') : VEffU P (Instr.storeAt t (.pointer (some ⟨b, o, none⟩)) (.agg cs.toArray)) H K := by
  refine VC.stN ht (st.at_ i hp) ho hv ?_
  intro H' hb' ha' hs'
  exact k H' (st.upd i hp (ha'.mono fun k hk hkb => hk.2 hkb) _ hb' (fun k hk => .inl hk) (fun k hk => by rw [hs']; exact (st.in_ i hp hk).2) (by omega)) ha' hs'
theorem st1Ba {P : Program} {t o : Nat} {v : Value} {K : Heap → Prop} (st : StB B H0 H ps) (i : Nat) (ht : CellT P t) (hp : ps[i]? = some (pB e b l)) (ho : o < l.length) (hv : v.oneCell' = true)
    (k : ∀ H', StB B H0 H' (ps.set i (pB e b (l.set o v))) → Agr (fun k => k ≠ b) H H' → H'.size = H.size → K H') : VEffU P (Instr.storeAt t (.pointer (some ⟨b, o, none⟩)) v) H K := by
  refine VC.st1 ht (st.at_ i hp) ho hv ?_
  intro H' hb' ha' hs'
  exact k H' (st.upd i hp (ha'.mono fun k hk hkb => hk.2 hkb) _ hb' (fun k hk => .inl hk) (fun k hk => by rw [hs']; exact (st.in_ i hp hk).2) (by omega)) ha' hs'
theorem splAll {l cs : List Value} (h : cs.length = l.length) : splice l 0 cs = cs := by unfold splice; simp [h]
end
end Go.VC
/- How a class is read: the plain law; class.reader's methods: the walks. -/
set_option linter.unusedVariables false
set_option linter.unusedSimpArgs false
set_option maxRecDepth 100000
namespace Go.Proofs.YtlnmhfhdjnenoaaGreatDoor
open Go.VC Go.Lib
/-! ### the plain law -/
/-- The byte at i; 256 behind the end. -/
def bt (t : ByteArray) (i : Nat) : Nat := match t.data[i]? with
  | some b => b.toNat
  | none => 256
theorem bt_in {t : ByteArray} {i : Nat} (h : i < t.size) : ∃ b, t.data[i]? = some b ∧ bt t i = b.toNat ∧ bt t i < 256 := by
  have hl : i < t.data.size := h
  refine ⟨t.data[i], Array.getElem?_eq_getElem hl, ?_, ?_⟩
  · unfold bt; rw [Array.getElem?_eq_getElem hl]
  · unfold bt; rw [Array.getElem?_eq_getElem hl]; exact UInt8.toNat_lt _
theorem bt_out {t : ByteArray} {i : Nat} (h : ¬ i < t.size) : bt t i = 256 := by
  have hl : ¬ i < t.data.size := h
  unfold bt; rw [Array.getElem?_eq_none (by omega)]
theorem bt_lt {t : ByteArray} {i : Nat} (h : bt t i ≠ 256) : i < t.size := by
  apply Classical.byContradiction
  intro hn
  exact h (bt_out hn)
def hexM (c : Nat) : Option Nat := if 48 ≤ c ∧ c ≤ 57 then some (c - 48) else if 97 ≤ c ∧ c ≤ 102 then some (c - 87) else none
theorem hexM_lt {c v : Nat} (h : hexM c = some v) : v < 16 := by
  unfold hexM at h
  split at h
  · cases h; omega
  · split at h
    · cases h; omega
    · cases h
def hexS : ByteArray := ⟨#[48, 49, 50, 51, 52, 53, 54, 55, 56, 57, 97, 98, 99, 100, 101, 102]⟩
theorem hexM_index (c : Nat) (hc : c < 256) : indexByte hexS.data.toList (UInt8.ofNat c) = match hexM c with | some v => (v : Int) | none => -1 := by
  have : ∀ c : Fin 256, indexByte hexS.data.toList (UInt8.ofNat c.1) = match hexM c.1 with | some v => (v : Int) | none => -1 := by decide +kernel
  exact this ⟨c, hc⟩
/-- What stands behind a stroke: the place of the fault, or the byte and the place behind it. -/
def escM (t : ByteArray) (i : Nat) : Sum Nat (Nat × Nat) :=
  if bt t i = 256 then .inl i else if bt t i = 110 then .inr (10, i + 1) else if bt t i = 114 then .inr (13, i + 1) else if bt t i = 116 then .inr (9, i + 1)
  else if bt t i = 120 then match hexM (bt t (i + 1)) with
    | none => .inl (i + 1)
    | some a => match hexM (bt t (i + 2)) with
      | none => .inl (i + 2)
      | some b => .inr (16 * a + b, i + 3)
  else if bt t i < 32 ∨ 126 < bt t i ∨ (48 ≤ bt t i ∧ bt t i ≤ 57) ∨ (97 ≤ bt t i ∧ bt t i ≤ 122) ∨ (65 ≤ bt t i ∧ bt t i ≤ 90) then .inl i else .inr (bt t i, i + 1)
/-- A single, where the bytes of s are barred. -/
def oneM (t s : ByteArray) (i : Nat) : Sum Nat (Nat × Nat) :=
  if bt t i = 92 then escM t (i + 1) else if bt t i < 32 ∨ 126 < bt t i ∨ spB s (bt t i) = true then .inl i else .inr (bt t i, i + 1)
def dashM (t : ByteArray) (lo j : Nat) (x : BitVec 256) (f : Nat → BitVec 256 → Sum Nat (BitVec 256 × Nat)) : Sum Nat (BitVec 256 × Nat) :=
  if bt t j = 45 then (match oneM t innS (j + 1) with
    | .inl e => .inl e
    | .inr (hi, k) => if hi < lo then .inl (j + 1) else f k (x ||| spanS lo hi))
  else f j (x ||| spanS lo lo)
/-- The inside of brackets. -/
def memM (t : ByteArray) : Nat → Nat → BitVec 256 → Sum Nat (BitVec 256 × Nat)
  | 0, i, _ => .inl i
  | n + 1, i, x => if bt t i = 93 then .inr (x, i + 1) else match oneM t innS i with
    | .inl e => .inl e
    | .inr (lo, j) => dashM t lo j x (memM t n)
def bracM (t : ByteArray) (i : Nat) : Sum Nat (BitVec 256 × Nat) :=
  match memM t (t.size + 1) (if bt t i = 94 then i + 1 else i) 0#256 with
  | .inl e => .inl e
  | .inr (x, k) => .inr (if bt t i = 94 then ~~~x else x, k)
/-- The set that is written at i, and the place behind it. -/
def readSet (t : ByteArray) (i : Nat) : Sum Nat (BitVec 256 × Nat) :=
  if bt t i = 46 then .inr (~~~(spanS 10 10), i + 1) else if bt t i = 91 then bracM t (i + 1) else match oneM t specS i with
  | .inl e => .inl e
  | .inr (b, k) => .inr (spanS b b, k)
theorem escM_ok {t : ByteArray} {i : Nat} {c j : Nat} (h : escM t i = .inr (c, j)) : c < 256 ∧ i < j ∧ j ≤ t.size := by
  unfold escM at h
  split at h
  · cases h
  · rename_i h0
    have hi := bt_lt h0
    obtain ⟨b, -, -, hb⟩ := bt_in hi
    split at h
    · cases h; omega
    · split at h
      · cases h; omega
      · split at h
        · cases h; omega
        · split at h
          · split at h
            · cases h
            · rename_i a ha
              split at h
              · cases h
              · rename_i b2 hb2
                cases h
                have h1 := hexM_lt ha
                have h2 := hexM_lt hb2
                have h3 : i + 2 < t.size := bt_lt fun e => by rw [e] at hb2; cases hb2
                omega
          · split at h
            · cases h
            · cases h; omega
theorem oneM_ok {t s : ByteArray} {i : Nat} {c j : Nat} (h : oneM t s i = .inr (c, j)) : c < 256 ∧ i < j ∧ j ≤ t.size := by
  unfold oneM at h
  split at h
  · have := escM_ok h; omega
  · split at h
    · cases h
    · rename_i h1
      cases h
      have hi : i < t.size := bt_lt fun e => h1 (.inr (.inl (by omega)))
      obtain ⟨b, -, -, hb⟩ := bt_in hi
      omega
theorem memM_ok {t : ByteArray} : ∀ {n i : Nat} {x y : BitVec 256} {k : Nat}, memM t n i x = .inr (y, k) → i < k ∧ k ≤ t.size
  | 0, i, x, y, k, h => by cases h
  | n + 1, i, x, y, k, h => by
    unfold memM at h
    split at h
    · rename_i h0
      cases h
      have hi : i < t.size := bt_lt fun e => by omega
      omega
    · split at h
      · cases h
      · rename_i lo j h1
        have := oneM_ok h1
        unfold dashM at h
        split at h
        · split at h
          · cases h
          · rename_i hi k2 h2
            have := oneM_ok h2
            split at h
            · cases h
            · have := memM_ok h; omega
        · have := memM_ok h; omega
theorem readSet_ok {t : ByteArray} {i : Nat} {y : BitVec 256} {k : Nat} (h : readSet t i = .inr (y, k)) : i < k ∧ k ≤ t.size := by
  unfold readSet at h
  split at h
  · rename_i h0
    cases h
    have hi : i < t.size := bt_lt fun e => by omega
    omega
  · split at h
    · unfold bracM at h
      split at h
      · cases h
      · rename_i x k2 h1
        cases h
        have := memM_ok h1
        split at this <;> omega
    · split at h
      · cases h
      · rename_i b k2 h1
        cases h
        have := oneM_ok h1
        omega
/-! ### the walks -/
theorem rstrT : Tryz.prog.underlying 9 = some .string := rfl
abbrev rdL (t : ByteArray) (i : Nat) : List Value := [.string t, .int .i64 (i : Int)]
abbrev pRd (r : Nat) (t : ByteArray) (i : Nat) : Pc := pB 206 r (rdL t i)
def faultV (c i : Nat) : Value := .iface 27 (.agg #[.int .i64 (c : Int), .int .i64 (i : Int), .string ⟨#[]⟩])
set_option maxHeartbeats 4000000 in
theorem peek_p {H : Heap} {r i : Nat} {t : ByteArray} (hb : Blk H r 206 (rdL t i)) : Pure Tryz.prog 139 #[.pointer (some ⟨r, 0, none⟩)] H (.tuple #[.int .u8 (if bt t i = 256 then 0 else (bt t i : Int)), .bool (decide (bt t i ≠ 256))]) := by
  refine FnOk.of_vc Tryz.func139 rfl (Tryz.call139 _) ?_
  (conv => whnf); refine VDraw.lex rfl (by kernel_rfl) ?_
  (conv => whnf); refine VC.fa fl206_1 ?_
  (conv => whnf); refine ld1 (v := .int .i64 (i : Int)) ct3 (by rw [hb.cell]; rfl) trivial ?_
  (conv => whnf); refine VC.fa fl206_0 ?_
  (conv => whnf); refine ld1 (v := .string t) ct9 (by rw [hb.cell]; rfl) trivial ?_
  by_cases hi : i < t.size
  · obtain ⟨b, h1, h2, h3⟩ := bt_in hi
    have d1 : decide ((i : Int) < (t.size : Int)) = true := decide_eq_true (by omega)
    (conv => whnf); rw [d1]
    (conv => whnf); refine VDraw.lex rfl (by kernel_rfl) ?_
    (conv => whnf); refine VC.fa fl206_0 ?_
    (conv => whnf); refine ld1 (v := .string t) ct9 (by rw [hb.cell]; rfl) trivial ?_
    (conv => whnf); refine VC.fa fl206_1 ?_
    (conv => whnf); refine ld1 (v := .int .i64 (i : Int)) ct3 (by rw [hb.cell]; rfl) trivial ?_
    (conv => whnf); refine vidxs rstrT rfl h1 ?_
    (conv => whnf)
    refine ⟨?_, Agr.refl _ _⟩
    rw [if_neg (by omega), decide_eq_true (by omega), h2]
  · have h2 := bt_out hi
    have d1 : decide ((i : Int) < (t.size : Int)) = false := decide_eq_false (by omega)
    (conv => whnf); rw [d1]
    (conv => whnf)
    refine ⟨?_, Agr.refl _ _⟩
    rw [if_pos h2, decide_eq_false (by omega)]
theorem rfail_p {H : Heap} {r : Nat} {e : Nat} : FnOkP Tryz.prog 140 #[.pointer (some ⟨r, 0, none⟩), .int .i64 (e : Int)] H (fun _ _ => False) (fun x H' => x = faultV 10 e ∧ H' = H) := by
  refine FnOkP.of_vc Tryz.func140 rfl (Tryz.call140 _) ?_
  (conv => whnf); refine vbuildS Tryz.underlying27 rfl _ rfl [.int .i64 10, .int .i64 (e : Int), .string ⟨#[]⟩] rfl ?_
  (conv => whnf)
  exact ⟨rfl, rfl⟩
theorem set_self {α : Type} {ps : List α} {i : Nat} {p : α} (h : ps[i]? = some p) : ps.set i p = ps := by
  refine List.ext_getElem? fun j => ?_
  by_cases hj : i = j
  · subst hj
    rw [List.getElem?_set_self (List.getElem?_eq_some_iff.1 h).1, h]
  · rw [List.getElem?_set_ne hj]
theorem set_get {α : Type} {ps : List α} {i : Nat} {p q : α} (h : ps[i]? = some p) : (ps.set i q)[i]? = some q := List.getElem?_set_self (List.getElem?_eq_some_iff.1 h).1
set_option maxHeartbeats 4000000 in
theorem hex_p {B : Nat → Prop} {H0 H : Heap} {ps : List Pc} {k r i : Nat} {t : ByteArray} (ht : t.size ≤ 1152921504606846976) (st : StB B H0 H ps) (hp : ps[k]? = some (pRd r t i)) :
    FnOkP Tryz.prog 143 #[.pointer (some ⟨r, 0, none⟩)] H (fun v H' => ∃ c : Nat, hexM (bt t i) = some c ∧ v = .int .u8 (c : Int) ∧ StB B H0 H' (ps.set k (pRd r t (i + 1))))
      (fun x H' => hexM (bt t i) = none ∧ x = faultV 10 i ∧ StB B H0 H' (ps.set k (pRd r t i))) := by
  refine FnOkP.of_vc Tryz.func143 rfl (Tryz.call143 _) ?_
  (conv => whnf); refine VCallP.of (pures (peek_p (st.blk k hp)) fun H1 ha1 => ?_)
  have st1 := st.call ha1
  by_cases h0 : bt t i = 256
  · rw [if_pos h0, decide_eq_false (by omega)]
    (conv => whnf); refine VCallP.of (pures (index_p hexS 0 H1) fun H2 ha2 => ?_)
    have st2 := st1.call ha2
    (conv => whnf); refine VSeqP.run ?_
    (conv => whnf); refine VC.fa fl206_1 ?_
    (conv => whnf); refine ld1 (v := .int .i64 ((i : Nat) : Int)) ct3 (by rw [(st2.blk k hp).cell]; rfl) trivial ?_
    (conv => whnf); refine VCallP.mk rfail_p (fun _ _ h => h.elim) ?_
    rintro _ _ ⟨rfl, rfl⟩
    exact ⟨by rw [h0]; rfl, rfl, by rw [set_self hp]; exact st2⟩
  · have hi := bt_lt h0
    obtain ⟨b, hb1, hb2, hb3⟩ := bt_in hi
    rw [if_neg h0, decide_eq_true (by omega)]
    (conv => whnf); refine VCallP.of (pures (index_p hexS (bt t i) H1) fun H2 ha2 => ?_)
    have st2 := st1.call ha2
    rw [hexM_index _ hb3]
    cases hx : hexM (bt t i) with
    | none =>
      (conv => whnf); refine VSeqP.run ?_
      (conv => whnf); refine VC.fa fl206_1 ?_
      (conv => whnf); refine ld1 (v := .int .i64 ((i : Nat) : Int)) ct3 (by rw [(st2.blk k hp).cell]; rfl) trivial ?_
      (conv => whnf); refine VCallP.mk rfail_p (fun _ _ h => h.elim) ?_
      rintro _ _ ⟨rfl, rfl⟩
      exact ⟨rfl, rfl, by rw [set_self hp]; exact st2⟩
    | some c =>
      have hc := hexM_lt hx
      have d1 : decide ((c : Int) < 0) = false := decide_eq_false (by omega)
      (conv => whnf); refine VSeqP.run ?_
      (conv => whnf); rw [d1]
      (conv => whnf); refine VC.fa fl206_1 ?_
      (conv => whnf); refine ld1 (v := .int .i64 ((i : Nat) : Int)) ct3 (by rw [(st2.blk k hp).cell]; rfl) trivial ?_
      (conv => whnf); rw [w64 (x := ((i : Nat) : Int) + 1) (by omega) (by omega)]
      (conv => whnf); refine VC.fa fl206_1 ?_
      (conv => whnf); refine st1B st2 k ct3 hp (by simp) rfl fun H3 st3 => ?_
      (conv => whnf); rw [w8 (x := (c : Int)) (by omega) (by omega)]
      (conv => whnf)
      exact ⟨c, rfl, rfl, st3⟩
theorem esc_at {B : Nat → Prop} {H0 H : Heap} {ps : List Pc} (hE : EscH H0) (hB : B 0) (st : StB B H0 H ps) : EscH H :=
  ⟨hE.1.eq (st.old _ hB), st.up hB⟩
theorem or16 {a b : Nat} (hb : b < 16) : a * 2 ^ 4 ||| b = 16 * a + b := by
  have := Nat.two_pow_add_eq_or_of_lt (i := 4) (b := b) (by simpa using hb) a
  rw [Nat.mul_comm a, ← this]
set_option maxHeartbeats 16000000 in
theorem escape_p {B : Nat → Prop} {H0 H : Heap} {ps : List Pc} {k r i : Nat} {t : ByteArray} (hE : EscH H0) (hEB : B 0) (ht : t.size ≤ 1152921504606846976) (st : StB B H0 H ps) (hp : ps[k]? = some (pRd r t i)) :
    FnOkP Tryz.prog 142 #[.pointer (some ⟨r, 0, none⟩)] H (fun v H' => ∃ c j : Nat, escM t i = .inr (c, j) ∧ v = .int .u8 (c : Int) ∧ StB B H0 H' (ps.set k (pRd r t j)))
      (fun x H' => ∃ e j : Nat, escM t i = .inl e ∧ x = faultV 10 e ∧ StB B H0 H' (ps.set k (pRd r t j))) := by
  refine FnOkP.of_vc Tryz.func142 rfl (Tryz.call142 _) ?_
  (conv => whnf); refine VCallP.of (pures (peek_p (st.blk k hp)) fun H1 ha1 => ?_)
  have st1 := st.call ha1
  by_cases h0 : bt t i = 256
  · rw [if_pos h0, decide_eq_false (by omega)]
    (conv => whnf); refine VSeqP.run ?_
    (conv => whnf)
    (conv => whnf); refine VC.fa fl206_1 ?_
    (conv => whnf); refine ld1 (v := .int .i64 ((i : Nat) : Int)) ct3 (by rw [(st1.blk k hp).cell]; rfl) trivial ?_
    (conv => whnf); refine VCallP.mk rfail_p (fun _ _ h => h.elim) ?_
    rintro _ _ ⟨rfl, rfl⟩
    exact ⟨i, i, by unfold escM; rw [if_pos h0], rfl, by rw [set_self hp]; exact st1⟩
  have hi := bt_lt h0
  obtain ⟨b, hb1, hb2, hb3⟩ := bt_in hi
  rw [if_neg h0, decide_eq_true (by omega)]
  obtain ⟨c, hc⟩ : ∃ c, c = bt t i := ⟨_, rfl⟩
  rw [← hc] at h0 hb3 ⊢
  (conv => whnf); refine VSeqP.run ?_
  (conv => whnf); refine ldN (cs := escL) ag189 (esc_at hE hEB st1).1 trivial ?_
  (conv => whnf)
  refine VLoopP.mk [22] (fun n : Nat => [.int .i64 (n : Int)]) (fun n H1 => n ≤ 3 ∧ (∀ j, j < n → (escP j).1 ≠ c) ∧ StB B H0 H1 ps) (fun n _ => 3 - n) ?_ ?_
  · (conv => whnf)
    exact ⟨0, rfl, by omega, fun j hj => by omega, st1⟩
  · rintro n G junk1 ⟨hn, hno, stg⟩
    (conv => whnf); refine VIte.mk (fun hz => ?_) (fun hz => ?_) <;> simp only [decide_eq_true_eq, decide_eq_false_iff_not] at hz
    · have hex : escL.toArray.extract (n * 2) (n * 2 + 2) = #[.int .u8 ((escP n).1 : Int), .int .u8 ((escP n).2 : Int)] := by
        have : n = 0 ∨ n = 1 ∨ n = 2 := by omega
        rcases this with rfl | rfl | rfl <;> rfl
      have hsg : (escP n).1 = c → escM t i = .inr ((escP n).2, i + 1) := fun e => by
        have : n = 0 ∨ n = 1 ∨ n = 2 := by omega
        unfold escM
        rw [← hc, if_neg h0]
        rcases this with rfl | rfl | rfl <;> (subst e; rfl)
      have h1b : (escP n).1 < 256 ∧ (escP n).2 < 256 := by
        have : n = 0 ∨ n = 1 ∨ n = 2 := by omega
        rcases this with rfl | rfl | rfl <;> decide
      (conv => whnf); refine ixvN ar189 ag188 (by omega) (by omega) ?_
      rw [Int.toNat_natCast, hex]
      generalize hl : (escP n).1 = l at *
      generalize (escP n).2 = v at *
      (conv => whnf); refine valloc (.agg #[.int .u8 0, .int .u8 0]) [.int .u8 0, .int .u8 0] esc_z rfl ?_
      intro p2 H2 hp2 hs2 hb2 ha2
      have st2 := stg.box hp2 hs2 hb2 ha2
      (conv => whnf); refine stNB (cs := [.int .u8 (l : Int), .int .u8 (v : Int)]) st2 ps.length rfl (by rw [List.getElem?_append_right (Nat.le_refl _), Nat.sub_self]; rfl) (Nat.le_refl _) rfl fun H3 st3 => ?_
      rw [List.set_append_right _ _ (Nat.le_refl _), Nat.sub_self, splice_all (by rfl)] at st3
      have hb3 : Blk H3 p2 188 [.int .u8 (l : Int), .int .u8 (v : Int)] := st3.blk ps.length (by rw [List.getElem?_append_right (Nat.le_refl _), Nat.sub_self]; rfl)
      have hpk : (ps ++ [pB 188 p2 [.int .u8 (l : Int), .int .u8 (v : Int)]])[k]? = some (pRd r t i) := by
        rw [List.getElem?_append_left (List.getElem?_eq_some_iff.1 hp).1]; exact hp
      have cutR : ∀ {H' : Heap} {q : Pc}, StB B H0 H' ((ps ++ [pB 188 p2 [.int .u8 (l : Int), .int .u8 (v : Int)]]).set k q) → StB B H0 H' (ps.set k q) := fun h => by
        rw [List.set_append_left _ _ (List.getElem?_eq_some_iff.1 hp).1] at h
        exact ⟨h.old, h.lt0, h.size, fun p hp => h.oks p (List.mem_append_left _ hp), fun p hp => h.rng p (List.mem_append_left _ hp), (List.pairwise_append.1 h.dis).1⟩
      (conv => whnf); try (refine VSeqP.run ?_)
      (conv => whnf); refine VC.fa fl188_0 ?_
      (conv => whnf); refine ld1 (v := .int .u8 (l : Int)) ct5 (by rw [hb3.cell]; rfl) trivial ?_
      by_cases he : l = c
      · have d1 : ((l : Int) == (c : Int)) = true := by rw [he]; exact beq_self_eq_true _
        (conv => whnf); rw [d1]
        (conv => whnf); refine VC.fa fl206_1 ?_
        (conv => whnf); refine ld1 (v := .int .i64 ((i : Nat) : Int)) ct3 (by rw [(st3.blk k hpk).cell]; rfl) trivial ?_
        (conv => whnf); rw [w64 (x := ((i : Nat) : Int) + 1) (by omega) (by omega)]
        (conv => whnf); refine VC.fa fl206_1 ?_
        (conv => whnf); refine st1B st3 k ct3 hpk (by simp) rfl fun H4 st4 => ?_
        have hb4 : Blk H4 p2 188 [.int .u8 (l : Int), .int .u8 (v : Int)] := st4.blk ps.length (by
          rw [List.getElem?_set_ne (by have := (List.getElem?_eq_some_iff.1 hp).1; omega), List.getElem?_append_right (Nat.le_refl _), Nat.sub_self]; rfl)
        (conv => whnf); refine VC.fa fl188_1 ?_
        (conv => whnf); refine ld1 (v := .int .u8 (v : Int)) ct5 (by rw [hb4.cell]; rfl) trivial ?_
        (conv => whnf)
        exact ⟨v, i + 1, hsg he, rfl, cutR st4⟩
      · have d1 : ((l : Int) == (c : Int)) = false := beq_eq_false_iff_ne.2 (by omega)
        (conv => whnf); rw [d1]
        (conv => whnf); rw [w64 (x := (n : Int) + 1) (by omega) (by omega)]
        refine ⟨rfl, n + 1, rfl, ⟨by omega, fun j hj => ?_, ⟨st3.old, st3.lt0, st3.size, fun p hp => st3.oks p (List.mem_append_left _ hp), fun p hp => st3.rng p (List.mem_append_left _ hp), (List.pairwise_append.1 st3.dis).1⟩⟩, by omega⟩
        rcases Nat.lt_or_eq_of_le (Nat.le_of_lt_succ hj) with hj | rfl
        · exact hno j hj
        · rw [hl]; exact he
    · obtain rfl : n = 3 := by omega
      have n0 : (110 : Nat) ≠ c := hno 0 (by omega)
      have n1 : (114 : Nat) ≠ c := hno 1 (by omega)
      have n2 : (116 : Nat) ≠ c := hno 2 (by omega)
      have hes : escM t i = (if c = 120 then match hexM (bt t (i + 1)) with
          | none => .inl (i + 1)
          | some a => match hexM (bt t (i + 2)) with
            | none => .inl (i + 2)
            | some b => .inr (16 * a + b, i + 3)
        else if c < 32 ∨ 126 < c ∨ (48 ≤ c ∧ c ≤ 57) ∨ (97 ≤ c ∧ c ≤ 122) ∨ (65 ≤ c ∧ c ≤ 90) then .inl i else .inr (c, i + 1)) := by
        unfold escM
        rw [← hc, if_neg h0, if_neg (Ne.symm n0), if_neg (Ne.symm n1), if_neg (Ne.symm n2)]
      by_cases hx : c = 120
      · rw [if_pos hx] at hes
        have d1 : ((c : Int) == (120 : Int)) = true := by rw [hx]; rfl
        (conv => whnf); try (refine VSeqP.run ?_)
        (conv => whnf); rw [d1]
        (conv => whnf); refine VC.fa fl206_1 ?_
        (conv => whnf); refine ld1 (v := .int .i64 ((i : Nat) : Int)) ct3 (by rw [(stg.blk k hp).cell]; rfl) trivial ?_
        (conv => whnf); rw [w64 (x := ((i : Nat) : Int) + 1) (by omega) (by omega)]
        (conv => whnf); refine VC.fa fl206_1 ?_
        (conv => whnf); refine st1B stg k ct3 hp (by simp) rfl fun H4 st4 => ?_
        have hp4 : (ps.set k (pRd r t (i + 1)))[k]? = some (pRd r t (i + 1)) := set_get hp
        replace st4 : StB B H0 H4 (ps.set k (pRd r t (i + 1))) := st4
        (conv => whnf); refine VCallP.mk (hex_p ht st4 hp4) ?_ ?_
        · rintro _ H5 ⟨a, ha, rfl, st5⟩
          have hal := hexM_lt ha
          rw [List.set_set] at st5
          have hp5 : (ps.set k (pRd r t (i + 1 + 1)))[k]? = some (pRd r t (i + 1 + 1)) := set_get hp
          (conv => whnf); refine vshl (b := 4) (by decide) (inU8 (by omega)) ?_
          (conv => whnf); refine VCallP.mk (hex_p ht st5 hp5) ?_ ?_
          · rintro _ H6 ⟨b2, hb2', rfl, st6⟩
            have hbl := hexM_lt hb2'
            rw [List.set_set] at st6
            (conv => whnf); refine vor (inU8 (by omega)) (inU8 (by omega)) ?_
            rw [or16 hbl]
            (conv => whnf)
            exact ⟨16 * a + b2, i + 3, by rw [hes, ha]; show (match hexM (bt t (i + 1 + 1)) with | none => _ | some b => _) = _; rw [hb2'], rfl, st6⟩
          · rintro _ H6 ⟨hn, rfl, st6⟩
            rw [List.set_set] at st6
            exact ⟨i + 2, i + 2, by rw [hes, ha]; show (match hexM (bt t (i + 1 + 1)) with | none => _ | some b => _) = _; rw [hn], rfl, st6⟩
        · rintro _ H5 ⟨hn, rfl, st5⟩
          rw [List.set_set] at st5
          exact ⟨i + 1, i + 1, by rw [hes, hn], rfl, st5⟩
      · rw [if_neg hx] at hes
        have d1 : ((c : Int) == (120 : Int)) = false := beq_eq_false_iff_ne.2 (by omega)
        (conv => whnf); try (refine VSeqP.run ?_)
        (conv => whnf); rw [d1]
        clear d1
        (conv => whnf); refine VSeqP.run ?_
        (conv => whnf)
        by_cases hq00 : c < 32
        · skip
          have d1 : decide ((c : Int) < 32) = true := decide_eq_true (by omega)
          (conv => whnf); rw [d1]
          clear d1
          (conv => whnf)
          (conv => whnf); refine VC.fa fl206_1 ?_
          (conv => whnf); refine ld1 (v := .int .i64 ((i : Nat) : Int)) ct3 (by rw [(stg.blk k hp).cell]; rfl) trivial ?_
          (conv => whnf); refine VCallP.mk rfail_p (fun _ _ h => h.elim) ?_
          rintro _ _ ⟨rfl, rfl⟩
          exact ⟨i, i, by rw [hes, if_pos (by omega)], rfl, by rw [set_self hp]; exact stg⟩
        · skip
          have d1 : decide ((c : Int) < 32) = false := decide_eq_false (by omega)
          (conv => whnf); rw [d1]
          clear d1
          by_cases hq10 : 126 < c
          · skip
            have d1 : decide ((c : Int) > 126) = true := decide_eq_true (by omega)
            (conv => whnf); rw [d1]
            clear d1
            (conv => whnf)
            (conv => whnf); refine VC.fa fl206_1 ?_
            (conv => whnf); refine ld1 (v := .int .i64 ((i : Nat) : Int)) ct3 (by rw [(stg.blk k hp).cell]; rfl) trivial ?_
            (conv => whnf); refine VCallP.mk rfail_p (fun _ _ h => h.elim) ?_
            rintro _ _ ⟨rfl, rfl⟩
            exact ⟨i, i, by rw [hes, if_pos (by omega)], rfl, by rw [set_self hp]; exact stg⟩
          · skip
            have d1 : decide ((c : Int) > 126) = false := decide_eq_false (by omega)
            (conv => whnf); rw [d1]
            clear d1
            by_cases hq20 : 48 ≤ c
            · skip
              have d1 : decide ((c : Int) ≥ 48) = true := decide_eq_true (by omega)
              (conv => whnf); rw [d1]
              clear d1
              by_cases hq21 : c ≤ 57
              · skip
                have d1 : decide ((c : Int) ≤ 57) = true := decide_eq_true (by omega)
                (conv => whnf); rw [d1]
                clear d1
                (conv => whnf)
                (conv => whnf); refine VC.fa fl206_1 ?_
                (conv => whnf); refine ld1 (v := .int .i64 ((i : Nat) : Int)) ct3 (by rw [(stg.blk k hp).cell]; rfl) trivial ?_
                (conv => whnf); refine VCallP.mk rfail_p (fun _ _ h => h.elim) ?_
                rintro _ _ ⟨rfl, rfl⟩
                exact ⟨i, i, by rw [hes, if_pos (by omega)], rfl, by rw [set_self hp]; exact stg⟩
              · skip
                have d1 : decide ((c : Int) ≤ 57) = false := decide_eq_false (by omega)
                (conv => whnf); rw [d1]
                clear d1
                by_cases hq30 : 97 ≤ c
                · skip
                  have d1 : decide ((c : Int) ≥ 97) = true := decide_eq_true (by omega)
                  (conv => whnf); rw [d1]
                  clear d1
                  by_cases hq31 : c ≤ 122
                  · skip
                    have d1 : decide ((c : Int) ≤ 122) = true := decide_eq_true (by omega)
                    (conv => whnf); rw [d1]
                    clear d1
                    (conv => whnf)
                    (conv => whnf); refine VC.fa fl206_1 ?_
                    (conv => whnf); refine ld1 (v := .int .i64 ((i : Nat) : Int)) ct3 (by rw [(stg.blk k hp).cell]; rfl) trivial ?_
                    (conv => whnf); refine VCallP.mk rfail_p (fun _ _ h => h.elim) ?_
                    rintro _ _ ⟨rfl, rfl⟩
                    exact ⟨i, i, by rw [hes, if_pos (by omega)], rfl, by rw [set_self hp]; exact stg⟩
                  · skip
                    have d1 : decide ((c : Int) ≤ 122) = false := decide_eq_false (by omega)
                    (conv => whnf); rw [d1]
                    clear d1
                    have d1 : decide ((c : Int) ≥ 65) = true := decide_eq_true (by omega)
                    (conv => whnf); rw [d1]
                    clear d1
                    have d1 : decide ((c : Int) ≤ 90) = false := decide_eq_false (by omega)
                    (conv => whnf); rw [d1]
                    clear d1
                    (conv => whnf)
                    (conv => whnf); refine VC.fa fl206_1 ?_
                    (conv => whnf); refine ld1 (v := .int .i64 ((i : Nat) : Int)) ct3 (by rw [(stg.blk k hp).cell]; rfl) trivial ?_
                    (conv => whnf); rw [w64 (x := ((i : Nat) : Int) + 1) (by omega) (by omega)]
                    (conv => whnf); refine VC.fa fl206_1 ?_
                    (conv => whnf); refine st1B stg k ct3 hp (by simp) rfl fun H4 st4 => ?_
                    (conv => whnf)
                    exact ⟨c, i + 1, by rw [hes, if_neg (by omega)], rfl, st4⟩
                · skip
                  have d1 : decide ((c : Int) ≥ 97) = false := decide_eq_false (by omega)
                  (conv => whnf); rw [d1]
                  clear d1
                  by_cases hq40 : 65 ≤ c
                  · skip
                    have d1 : decide ((c : Int) ≥ 65) = true := decide_eq_true (by omega)
                    (conv => whnf); rw [d1]
                    clear d1
                    by_cases hq41 : c ≤ 90
                    · skip
                      have d1 : decide ((c : Int) ≤ 90) = true := decide_eq_true (by omega)
                      (conv => whnf); rw [d1]
                      clear d1
                      (conv => whnf)
                      (conv => whnf); refine VC.fa fl206_1 ?_
                      (conv => whnf); refine ld1 (v := .int .i64 ((i : Nat) : Int)) ct3 (by rw [(stg.blk k hp).cell]; rfl) trivial ?_
                      (conv => whnf); refine VCallP.mk rfail_p (fun _ _ h => h.elim) ?_
                      rintro _ _ ⟨rfl, rfl⟩
                      exact ⟨i, i, by rw [hes, if_pos (by omega)], rfl, by rw [set_self hp]; exact stg⟩
                    · skip
                      have d1 : decide ((c : Int) ≤ 90) = false := decide_eq_false (by omega)
                      (conv => whnf); rw [d1]
                      clear d1
                      (conv => whnf)
                      (conv => whnf); refine VC.fa fl206_1 ?_
                      (conv => whnf); refine ld1 (v := .int .i64 ((i : Nat) : Int)) ct3 (by rw [(stg.blk k hp).cell]; rfl) trivial ?_
                      (conv => whnf); rw [w64 (x := ((i : Nat) : Int) + 1) (by omega) (by omega)]
                      (conv => whnf); refine VC.fa fl206_1 ?_
                      (conv => whnf); refine st1B stg k ct3 hp (by simp) rfl fun H4 st4 => ?_
                      (conv => whnf)
                      exact ⟨c, i + 1, by rw [hes, if_neg (by omega)], rfl, st4⟩
                  · skip
                    have d1 : decide ((c : Int) ≥ 65) = false := decide_eq_false (by omega)
                    (conv => whnf); rw [d1]
                    clear d1
                    (conv => whnf)
                    (conv => whnf); refine VC.fa fl206_1 ?_
                    (conv => whnf); refine ld1 (v := .int .i64 ((i : Nat) : Int)) ct3 (by rw [(stg.blk k hp).cell]; rfl) trivial ?_
                    (conv => whnf); rw [w64 (x := ((i : Nat) : Int) + 1) (by omega) (by omega)]
                    (conv => whnf); refine VC.fa fl206_1 ?_
                    (conv => whnf); refine st1B stg k ct3 hp (by simp) rfl fun H4 st4 => ?_
                    (conv => whnf)
                    exact ⟨c, i + 1, by rw [hes, if_neg (by omega)], rfl, st4⟩
            · skip
              have d1 : decide ((c : Int) ≥ 48) = false := decide_eq_false (by omega)
              (conv => whnf); rw [d1]
              clear d1
              have d1 : decide ((c : Int) ≥ 97) = false := decide_eq_false (by omega)
              (conv => whnf); rw [d1]
              clear d1
              have d1 : decide ((c : Int) ≥ 65) = false := decide_eq_false (by omega)
              (conv => whnf); rw [d1]
              clear d1
              (conv => whnf)
              (conv => whnf); refine VC.fa fl206_1 ?_
              (conv => whnf); refine ld1 (v := .int .i64 ((i : Nat) : Int)) ct3 (by rw [(stg.blk k hp).cell]; rfl) trivial ?_
              (conv => whnf); rw [w64 (x := ((i : Nat) : Int) + 1) (by omega) (by omega)]
              (conv => whnf); refine VC.fa fl206_1 ?_
              (conv => whnf); refine st1B stg k ct3 hp (by simp) rfl fun H4 st4 => ?_
              (conv => whnf)
              exact ⟨c, i + 1, by rw [hes, if_neg (by omega)], rfl, st4⟩
set_option maxHeartbeats 8000000 in
theorem one_c {B : Nat → Prop} {H0 H : Heap} {ps : List Pc} {k r i : Nat} {t s : ByteArray} (hE : EscH H0) (hEB : B 0) (ht : t.size ≤ 1152921504606846976) (st : StB B H0 H ps) (hp : ps[k]? = some (pRd r t i)) :
    FnOkP Tryz.prog 136 #[.pointer (some ⟨r, 0, none⟩), .string s] H (fun v H' => ∃ c j : Nat, oneM t s i = .inr (c, j) ∧ v = .int .u8 (c : Int) ∧ StB B H0 H' (ps.set k (pRd r t j)))
      (fun x H' => ∃ e j : Nat, oneM t s i = .inl e ∧ x = faultV 10 e ∧ StB B H0 H' (ps.set k (pRd r t j))) := by
  refine FnOkP.of_vc Tryz.func136 rfl (Tryz.call136 _) ?_
  (conv => whnf); refine VCallP.of (pures (peek_p (st.blk k hp)) fun H1 ha1 => ?_)
  have st1 := st.call ha1
  by_cases h0 : bt t i = 256
  · rw [if_pos h0, decide_eq_false (by omega)]
    (conv => whnf); refine VSeqP.run ?_
    (conv => whnf)
    (conv => whnf); refine VC.fa fl206_1 ?_
    (conv => whnf); refine ld1 (v := .int .i64 ((i : Nat) : Int)) ct3 (by rw [(st1.blk k hp).cell]; rfl) trivial ?_
    (conv => whnf); refine VCallP.mk rfail_p (fun _ _ h => h.elim) ?_
    rintro _ _ ⟨rfl, rfl⟩
    exact ⟨i, i, by unfold oneM; rw [h0, if_neg (by decide), if_pos (.inr (.inl (by decide)))], rfl, by rw [set_self hp]; exact st1⟩
  have hi := bt_lt h0
  obtain ⟨b, hb1, hb2, hb3⟩ := bt_in hi
  rw [if_neg h0, decide_eq_true (by omega)]
  obtain ⟨c, hc⟩ : ∃ c, c = bt t i := ⟨_, rfl⟩
  rw [← hc] at h0 hb3 ⊢
  by_cases h92 : c = 92
  · have d1 : ((c : Int) == (92 : Int)) = true := by rw [h92]; rfl
    have ho : oneM t s i = escM t (i + 1) := by unfold oneM; rw [← hc, if_pos h92]
    (conv => whnf); rw [d1]
    (conv => whnf); refine VC.fa fl206_1 ?_
    (conv => whnf); refine ld1 (v := .int .i64 ((i : Nat) : Int)) ct3 (by rw [(st1.blk k hp).cell]; rfl) trivial ?_
    (conv => whnf); rw [w64 (x := ((i : Nat) : Int) + 1) (by omega) (by omega)]
    (conv => whnf); refine VC.fa fl206_1 ?_
    (conv => whnf); refine st1B st1 k ct3 hp (by simp) rfl fun H4 st4 => ?_
    replace st4 : StB B H0 H4 (ps.set k (pRd r t (i + 1))) := st4
    have hp4 : (ps.set k (pRd r t (i + 1)))[k]? = some (pRd r t (i + 1)) := set_get hp
    (conv => whnf); refine VCallP.mk (escape_p hE hEB ht st4 hp4) ?_ ?_
    · rintro _ H5 ⟨a, j, ha, rfl, st5⟩
      rw [List.set_set] at st5
      (conv => whnf)
      exact ⟨a, j, by rw [ho]; exact ha, rfl, st5⟩
    · rintro _ H5 ⟨e, j, ha, rfl, st5⟩
      rw [List.set_set] at st5
      exact ⟨e, j, by rw [ho]; exact ha, rfl, st5⟩
  have d0 : ((c : Int) == (92 : Int)) = false := beq_eq_false_iff_ne.2 (by omega)
  have ho : oneM t s i = if c < 32 ∨ 126 < c ∨ spB s c = true then .inl i else .inr (c, i + 1) := by unfold oneM; rw [← hc, if_neg h92]
  (conv => whnf); rw [d0]
  (conv => whnf); refine VSeqP.run ?_
  (conv => whnf)
  by_cases hq00 : c < 32
  · skip
    have d1 : decide ((c : Int) < 32) = true := decide_eq_true (by omega)
    (conv => whnf); rw [d1]
    clear d1
    (conv => whnf)
    (conv => whnf); refine VC.fa fl206_1 ?_
    (conv => whnf); refine ld1 (v := .int .i64 ((i : Nat) : Int)) ct3 (by rw [(st1.blk k hp).cell]; rfl) trivial ?_
    (conv => whnf); refine VCallP.mk rfail_p (fun _ _ h => h.elim) ?_
    rintro _ _ ⟨rfl, rfl⟩
    exact ⟨i, i, by rw [ho, if_pos (by omega)], rfl, by rw [set_self hp]; exact st1⟩
  · skip
    have d1 : decide ((c : Int) < 32) = false := decide_eq_false (by omega)
    (conv => whnf); rw [d1]
    clear d1
    by_cases hq10 : 126 < c
    · skip
      have d1 : decide ((c : Int) > 126) = true := decide_eq_true (by omega)
      (conv => whnf); rw [d1]
      clear d1
      (conv => whnf)
      (conv => whnf); refine VC.fa fl206_1 ?_
      (conv => whnf); refine ld1 (v := .int .i64 ((i : Nat) : Int)) ct3 (by rw [(st1.blk k hp).cell]; rfl) trivial ?_
      (conv => whnf); refine VCallP.mk rfail_p (fun _ _ h => h.elim) ?_
      rintro _ _ ⟨rfl, rfl⟩
      exact ⟨i, i, by rw [ho, if_pos (by omega)], rfl, by rw [set_self hp]; exact st1⟩
    · skip
      have d1 : decide ((c : Int) > 126) = false := decide_eq_false (by omega)
      (conv => whnf); rw [d1]
      clear d1
      (conv => whnf); refine VCallP.of (pures (index_p s c H1) fun H2 ha2 => ?_)
      have st2 := st1.call ha2
      (conv => whnf); rw [spec_ge]
      cases hsp : spB s c with
      | true =>
        (conv => whnf)
        (conv => whnf); refine VC.fa fl206_1 ?_
        (conv => whnf); refine ld1 (v := .int .i64 ((i : Nat) : Int)) ct3 (by rw [(st2.blk k hp).cell]; rfl) trivial ?_
        (conv => whnf); refine VCallP.mk rfail_p (fun _ _ h => h.elim) ?_
        rintro _ _ ⟨rfl, rfl⟩
        exact ⟨i, i, by rw [ho, if_pos (.inr (.inr hsp))], rfl, by rw [set_self hp]; exact st2⟩
      | false =>
        (conv => whnf)
        (conv => whnf); refine VC.fa fl206_1 ?_
        (conv => whnf); refine ld1 (v := .int .i64 ((i : Nat) : Int)) ct3 (by rw [(st2.blk k hp).cell]; rfl) trivial ?_
        (conv => whnf); rw [w64 (x := ((i : Nat) : Int) + 1) (by omega) (by omega)]
        (conv => whnf); refine VC.fa fl206_1 ?_
        (conv => whnf); refine st1B st2 k ct3 hp (by simp) rfl fun H4 st4 => ?_
        (conv => whnf)
        exact ⟨c, i + 1, by rw [ho, if_neg (by rw [hsp]; simp; omega)], rfl, st4⟩
end Go.Proofs.YtlnmhfhdjnenoaaGreatDoor
/- How an expression is read: a machine over open frames; the plain law. -/
set_option linter.unusedVariables false
set_option linter.unusedSimpArgs false
set_option maxRecDepth 100000
namespace Go.Proofs.YtlnmhfhdjnenoaaGreatDoor
open Go.VC Go.Lib
/-! ### repeats -/
def maybeR (a : ReM) : ReM := .alt a .eps
def catO (q : Option ReM) (p : ReM) : ReM := match q with
  | none => p
  | some q => .cat q p
/-- The first k of a's repeats, of which m must be. -/
def repO (a : ReM) (m : Nat) : Nat → Option ReM
  | 0 => none
  | k + 1 => some (catO (repO a m k) (if k < m then a else maybeR a))
/-- a repeated m to n times (n below 0: without an end). -/
def repR (a : ReM) (m : Nat) (n : Int) : ReM :=
  if n < 0 then (if m = 0 then .star a else .cat ((repO a m m).getD .eps) (.star a)) else if n = 0 then .eps else (repO a m n.toNat).getD .eps
/-! ### frames -/
structure AF where
  place : Int
  alt : Option ReM
  meet : Option ReM
  sign : Nat
  row : Option ReM
  factor : Option ReM
def settleF (f : AF) : AF := match f.factor with
  | none => f
  | some p => { f with row := some (catO f.row p), factor := none }
def foldF (f : AF) : AF :=
  let g := settleF f
  let r := g.row.getD .eps
  { g with meet := some (match g.meet with | none => r | some q => if g.sign = 38 then .and_ q r else .minus q r), row := none }
def closeF (f : AF) : AF :=
  let g := foldF f
  let r := g.meet.getD .eps
  { g with alt := some (match g.alt with | none => r | some q => .alt q r), meet := none }
def openF (place : Int) : AF := ⟨place, none, none, 0, none, none⟩
/-! ### braces -/
def digB (t : ByteArray) (i : Nat) : Bool := decide (48 ≤ bt t i ∧ bt t i ≤ 57)
/-- At most k digits: the number, and the place behind them. -/
def numM (t : ByteArray) : Nat → Nat → Nat → Nat × Nat
  | 0, i, v => (v, i)
  | k + 1, i, v => if digB t i then numM t k (i + 1) (10 * v + (bt t i - 48)) else (v, i)
def upM (t : ByteArray) (m i : Nat) : Sum (Nat × Nat) (Int × Nat) :=
  if bt t i = 44 then (if bt t (i + 1) = 125 then .inr (-1, i + 1) else if digB t (i + 1) then .inr (((numM t 3 (i + 1) 0).1 : Int), (numM t 3 (i + 1) 0).2) else .inl (20, i + 1)) else .inr ((m : Int), i)
def endM (t : ByteArray) (from_ m : Nat) (n : Int) (i : Nat) : Sum (Nat × Nat) (Nat × Int × Nat) :=
  if bt t i = 125 then (if 255 < m ∨ 255 < n ∨ (0 ≤ n ∧ n < (m : Int)) then .inl (22, from_) else .inr (m, n, i + 1)) else .inl (20, i)
def bracesM (t : ByteArray) (from_ : Nat) : Sum (Nat × Nat) (Nat × Int × Nat) :=
  if digB t (from_ + 1) then (match upM t (numM t 3 (from_ + 1) 0).1 (numM t 3 (from_ + 1) 0).2 with
    | .inl e => .inl e
    | .inr (n, i) => endM t from_ (numM t 3 (from_ + 1) 0).1 n i)
  else .inl (20, from_ + 1)
theorem numM_le {t : ByteArray} : ∀ (k i v : Nat), i ≤ (numM t k i v).2 ∧ (numM t k i v).2 ≤ i + k ∧ (i ≤ t.size → (numM t k i v).2 ≤ t.size)
  | 0, i, v => ⟨Nat.le_refl _, Nat.le_refl _, fun h => h⟩
  | k + 1, i, v => by
    unfold numM
    split
    · rename_i h
      obtain ⟨h1, h2, h3⟩ := numM_le (t := t) k (i + 1) (10 * v + (bt t i - 48))
      unfold digB at h
      have h := of_decide_eq_true h
      have hi : i < t.size := bt_lt (by omega)
      exact ⟨by omega, by omega, fun _ => h3 (by omega)⟩
    · exact ⟨Nat.le_refl _, by omega, fun h => h⟩
theorem numM_lt {t : ByteArray} : ∀ (k i v : Nat), (numM t k i v).1 < (v + 1) * 10 ^ k
  | 0, i, v => by unfold numM; simp
  | k + 1, i, v => by
    unfold numM
    split
    · rename_i h
      unfold digB at h
      have h := of_decide_eq_true h
      have h1 := numM_lt (t := t) k (i + 1) (10 * v + (bt t i - 48))
      refine Nat.lt_of_lt_of_le h1 ?_
      rw [Nat.pow_succ, Nat.mul_comm (10 ^ k) 10, ← Nat.mul_assoc]
      exact Nat.mul_le_mul_right _ (by omega)
    · show v < (v + 1) * 10 ^ (k + 1)
      have : 1 ≤ 10 ^ (k + 1) := Nat.one_le_pow _ _ (by omega)
      have := Nat.mul_le_mul (Nat.le_refl (v + 1)) this
      omega
theorem bracesM_ok {t : ByteArray} {p m j : Nat} {n : Int} (h : bracesM t p = .inr (m, n, j)) : p < j ∧ j ≤ t.size ∧ m ≤ 255 ∧ n ≤ 255 ∧ (0 ≤ n → (m : Int) ≤ n) ∧ -1 ≤ n := by
  unfold bracesM at h
  split at h
  · obtain ⟨a1, a2, -⟩ := numM_le (t := t) 3 (p + 1) 0
    generalize numM t 3 (p + 1) 0 = q at h a1 a2
    split at h
    · cases h
    · rename_i n2 i2 hu
      have hi2 : q.2 ≤ i2 ∧ -1 ≤ n2 := by
        unfold upM at hu
        split at hu
        · split at hu
          · cases hu; exact ⟨by omega, by omega⟩
          · split at hu
            · obtain ⟨b1, b2, -⟩ := numM_le (t := t) 3 (q.2 + 1) 0
              cases hu; exact ⟨by omega, by omega⟩
            · cases hu
        · cases hu; exact ⟨Nat.le_refl _, by omega⟩
      unfold endM at h
      split at h
      · rename_i h125
        split at h
        · cases h
        · rename_i hc
          cases h
          have : i2 < t.size := bt_lt (by omega)
          refine ⟨by omega, by omega, ?_, ?_, ?_, hi2.2⟩ <;> omega
      · cases h
  · cases h
/-! ### the machine -/
def postB (c : Nat) : Bool := c == 42 || c == 43 || c == 63 || c == 123
/-- A sign that stands behind an atom: its numbers, the place behind it. -/
def postM (t : ByteArray) (i : Nat) : Sum (Nat × Nat) (Nat × Int × Nat) :=
  if bt t i = 42 then .inr (0, -1, i + 1) else if bt t i = 43 then .inr (1, -1, i + 1) else if bt t i = 63 then .inr (0, 1, i + 1) else bracesM t i
structure RdS where
  i : Nat
  f : AF
  fs : List AF
def pstep (t : ByteArray) (s : RdS) : Sum (Nat × Nat) RdS :=
  if postB (bt t s.i) then (match s.f.factor with
    | none => .inl (20, s.i)
    | some a => match postM t s.i with
      | .inl e => .inl e
      | .inr (m, n, k) => .inr ⟨k, { s.f with factor := some (repR a m n) }, s.fs⟩)
  else if bt t s.i = 124 then .inr ⟨s.i + 1, closeF s.f, s.fs⟩
  else if bt t s.i = 38 ∨ bt t s.i = 45 then .inr ⟨s.i + 1, { foldF s.f with sign := bt t s.i }, s.fs⟩
  else if bt t s.i = 41 then (match s.fs with
    | [] => .inl (20, s.i)
    | g :: r => .inr ⟨s.i + 1, { g with factor := (closeF s.f).alt }, r⟩)
  else if bt t s.i = 40 then (if 1000 ≤ s.fs.length then .inl (23, s.i) else .inr ⟨s.i + 1, openF s.i, settleF s.f :: s.fs⟩)
  else match readSet t s.i with
    | .inl e => .inl (10, e)
    | .inr (x, k) => .inr ⟨k, { settleF s.f with factor := some (.cls x) }, s.fs⟩
theorem pstep_ok {t : ByteArray} {s s' : RdS} (h : pstep t s = .inr s') (hi : s.i < t.size) : s.i < s'.i ∧ s'.i ≤ t.size := by
  unfold pstep at h
  split at h
  · rename_i hp
    split at h
    · cases h
    · split at h
      · cases h
      · rename_i m n k hpm
        cases h
        unfold postM at hpm
        split at hpm
        · cases hpm; exact ⟨Nat.lt_succ_self _, hi⟩
        · split at hpm
          · cases hpm; exact ⟨Nat.lt_succ_self _, hi⟩
          · split at hpm
            · cases hpm; exact ⟨Nat.lt_succ_self _, hi⟩
            · have := bracesM_ok hpm; exact ⟨this.1, this.2.1⟩
  · split at h
    · cases h; exact ⟨Nat.lt_succ_self _, hi⟩
    · split at h
      · cases h; exact ⟨Nat.lt_succ_self _, hi⟩
      · split at h
        · split at h
          · cases h
          · cases h; exact ⟨Nat.lt_succ_self _, hi⟩
        · split at h
          · split at h
            · cases h
            · cases h; exact ⟨Nat.lt_succ_self _, hi⟩
          · split at h
            · cases h
            · rename_i x k hr
              cases h
              exact readSet_ok hr
/-- What is told at the end. -/
def pfin (s : RdS) : Sum (Nat × Int) ReM := match s.fs with
  | [] => let r := (closeF s.f).alt.getD .eps; if 2000 < r.nodes then .inl (24, 0) else .inr r
  | _ :: _ => .inl (21, s.f.place)
def liftE (e : Nat × Nat) : Nat × Int := (e.1, (e.2 : Int))
def prunN (t : ByteArray) : Nat → RdS → Sum (Nat × Int) ReM
  | 0, s => pfin s
  | n + 1, s => if s.i < t.size then (match pstep t s with
    | .inl e => .inl (liftE e)
    | .inr s' => prunN t n s') else pfin s
/-- What the machine tells from here on. -/
def prun (t : ByteArray) (s : RdS) : Sum (Nat × Int) ReM := prunN t (t.size - s.i) s
theorem prunN_enough {t : ByteArray} : ∀ (n m : Nat) (s : RdS), t.size - s.i ≤ n → t.size - s.i ≤ m → prunN t n s = prunN t m s
  | 0, 0, s, _, _ => rfl
  | 0, m + 1, s, h, _ => by unfold prunN; rw [if_neg (by omega)]
  | n + 1, 0, s, _, h => by unfold prunN; rw [if_neg (by omega)]
  | n + 1, m + 1, s, h1, h2 => by
    unfold prunN
    by_cases hi : s.i < t.size
    · rw [if_pos hi, if_pos hi]
      cases hs : pstep t s with
      | inl e => rfl
      | inr s' =>
        have := pstep_ok hs hi
        exact prunN_enough n m s' (by omega) (by omega)
    · rw [if_neg hi, if_neg hi]
theorem prun_step {t : ByteArray} {s s' : RdS} (hi : s.i < t.size) (h : pstep t s = .inr s') : prun t s = prun t s' := by
  have hk := pstep_ok h hi
  have e : prun t s = prunN t (t.size - s.i - 1 + 1) s := prunN_enough _ _ _ (Nat.le_refl _) (by omega)
  rw [e, prunN, if_pos hi, h]
  exact prunN_enough _ _ _ (by omega) (Nat.le_refl _)
theorem prun_err {t : ByteArray} {s : RdS} {e : Nat × Nat} (hi : s.i < t.size) (h : pstep t s = .inl e) : prun t s = .inl (liftE e) := by
  have e1 : prun t s = prunN t (t.size - s.i - 1 + 1) s := prunN_enough _ _ _ (Nat.le_refl _) (by omega)
  rw [e1, prunN, if_pos hi, h]
theorem prun_end {t : ByteArray} {s : RdS} (hi : ¬ s.i < t.size) : prun t s = pfin s := by
  unfold prun
  rw [show t.size - s.i = 0 by omega]
  rfl
/-- What a text is read as1: the error's number and place, or the tree. -/
def parseM (t : ByteArray) : Sum (Nat × Int) ReM := if 1048576 < t.size then .inl (1, 0) else prun t ⟨0, openF (-1), []⟩
end Go.Proofs.YtlnmhfhdjnenoaaGreatDoor
/- The document's parser: raw nodes, frames; the plain law. -/
set_option linter.unusedVariables false
set_option linter.unusedSimpArgs false
set_option maxRecDepth 100000
namespace Go.Proofs.YtlnmhfhdjnenoaaGreatDoor
open Go.VC Go.Lib
/-! ### raw trees -/
inductive RwM
  | eps
  | cls (s : BitVec 256)
  | cat (a b : RwM)
  | alt (a b : RwM)
  | and_ (a b : RwM)
  | minus (a b : RwM)
  | rep (a : RwM) (m n : Int)
def lowM (m : Int) : Nat := if m = -2 then 1 else m.toNat
def RwM.den : RwM → ReM
  | .eps => .eps
  | .cls s => .cls s
  | .cat a b => .cat a.den b.den
  | .alt a b => .alt a.den b.den
  | .and_ a b => .and_ a.den b.den
  | .minus a b => .minus a.den b.den
  | .rep a m n => repR a.den (lowM m) n
def binN (op x y : Int) : RnM := ⟨op, 0#256, x, y, 0, 0⟩
def clsD (s : BitVec 256) : RnM := ⟨1, s, 0, 0, 0, 0⟩
def repN (x m n : Int) : RnM := ⟨7, 0#256, x, 0, m, n⟩
/-- The numbers of a repeat. -/
def RepOk (m n : Int) : Prop := (m = -2 ∧ n = -1) ∨ (0 ≤ m ∧ m ≤ 255 ∧ -1 ≤ n ∧ n ≤ 255 ∧ (0 ≤ n → m ≤ n))
/-- The node d stands for w; its parts stand ahead of it. -/
def NodeR (ws : List RwM) (d : RnM) : RwM → Prop
  | .eps => d = binN 0 0 0
  | .cls s => d = clsD s
  | .cat a b => ∃ j k : Nat, d = binN 2 j k ∧ ws[j]? = some a ∧ ws[k]? = some b
  | .alt a b => ∃ j k : Nat, d = binN 3 j k ∧ ws[j]? = some a ∧ ws[k]? = some b
  | .and_ a b => ∃ j k : Nat, d = binN 5 j k ∧ ws[j]? = some a ∧ ws[k]? = some b
  | .minus a b => ∃ j k : Nat, d = binN 6 j k ∧ ws[j]? = some a ∧ ws[k]? = some b
  | .rep a m n => ∃ j : Nat, d = repN j m n ∧ ws[j]? = some a ∧ RepOk m n
/-- The nodes ds stand for the trees ws. -/
inductive Raw : List RnM → List RwM → Prop
  | nil : Raw [] []
  | add {ds : List RnM} {ws : List RwM} {d : RnM} {w : RwM} : Raw ds ws → NodeR ws d w → Raw (ds ++ [d]) (ws ++ [w])
theorem Raw.len {ds : List RnM} {ws : List RwM} (h : Raw ds ws) : ds.length = ws.length := by
  induction h with
  | nil => rfl
  | add _ _ ih => simp [ih]
theorem NodeR.more {ws us : List RwM} {d : RnM} : ∀ {w : RwM}, NodeR ws d w → NodeR (ws ++ us) d w
  | .eps, h => h
  | .cls s, h => h
  | .cat a b, ⟨j, k, h1, h2, h3⟩ => ⟨j, k, h1, getx h2, getx h3⟩
  | .alt a b, ⟨j, k, h1, h2, h3⟩ => ⟨j, k, h1, getx h2, getx h3⟩
  | .and_ a b, ⟨j, k, h1, h2, h3⟩ => ⟨j, k, h1, getx h2, getx h3⟩
  | .minus a b, ⟨j, k, h1, h2, h3⟩ => ⟨j, k, h1, getx h2, getx h3⟩
  | .rep a m n, ⟨j, h1, h2, h3⟩ => ⟨j, h1, getx h2, h3⟩
theorem get_last {α : Type} {l : List α} {x y : α} {i : Nat} (h : (l ++ [x])[i]? = some y) : l[i]? = some y ∨ (i = l.length ∧ y = x) := by
  by_cases hi : i < l.length
  · rw [List.getElem?_append_left hi] at h; exact .inl h
  · rw [List.getElem?_append_right (by omega)] at h
    have : i - l.length = 0 := by
      have := (List.getElem?_eq_some_iff.1 h).1
      simp at this; omega
    rw [this] at h
    exact .inr ⟨by omega, by simpa using h.symm⟩
theorem Raw.at_ {ds : List RnM} {ws : List RwM} (h : Raw ds ws) : ∀ {i : Nat} {w : RwM}, ws[i]? = some w → ∃ d us vs, ds[i]? = some d ∧ ws = us ++ vs ∧ us.length = i ∧ NodeR us d w := by
  induction h with
  | nil => intro i w hw; cases hw
  | @add ds ws d w h1 h2 ih =>
    intro i w' hw
    rcases get_last hw with hw | ⟨rfl, rfl⟩
    · obtain ⟨d', us, vs, h3, rfl, h4, h5⟩ := ih hw
      exact ⟨d', us, vs ++ [w], getx h3, by simp, h4, h5⟩
    · refine ⟨d, ws, [w'], ?_, rfl, rfl, h2⟩
      rw [← h1.len]; simp
theorem Raw.at2 {ds : List RnM} {ws : List RwM} (h : Raw ds ws) {i : Nat} {w : RwM} (hw : ws[i]? = some w) : ∃ d, ds[i]? = some d ∧ NodeR ws d w := by
  obtain ⟨d, us, vs, h1, rfl, -, h3⟩ := h.at_ hw
  exact ⟨d, h1, h3.more⟩
/-! ### frames -/
structure FrD where
  place : Int
  alt : Int
  meet : Int
  sign : Nat
  row : Int
  factor : Int
def frL (f : FrD) : List Value := [.int .i64 f.place, .int .i64 f.alt, .int .i64 f.meet, .int .u8 (f.sign : Int), .int .i64 f.row, .int .i64 f.factor]
def tFr : Ty FrD where
  size := 6
  rep _ _ cs d := cs = frL d
  len h := by rw [h]; rfl
  frame h _ := h
  mono h _ := h
theorem fr_ones (d : FrD) : (frL d).all (·.oneCell') = true := rfl
def IxR (ws : List RwM) (x : Int) : Option ReM → Prop
  | none => x = -1
  | some r => ∃ (j : Nat) (w : RwM), x = (j : Int) ∧ ws[j]? = some w ∧ w.den = r
structure FrR (ws : List RwM) (f : FrD) (a : AF) : Prop where
  place : f.place = a.place
  alt : IxR ws f.alt a.alt
  meet : IxR ws f.meet a.meet
  sign : f.sign = a.sign
  row : IxR ws f.row a.row
  factor : IxR ws f.factor a.factor
theorem IxR.more {ws us : List RwM} {x : Int} : ∀ {o : Option ReM}, IxR ws x o → IxR (ws ++ us) x o
  | none, h => h
  | some r, ⟨j, w, h1, h2, h3⟩ => ⟨j, w, h1, getx h2, h3⟩
theorem FrR.more {ws us : List RwM} {f : FrD} {a : AF} (h : FrR ws f a) : FrR (ws ++ us) f a := ⟨h.place, h.alt.more, h.meet.more, h.sign, h.row.more, h.factor.more⟩
theorem IxR.neg {ws : List RwM} {x : Int} {o : Option ReM} (h : IxR ws x o) : x < 0 ↔ o = none := by
  cases o with
  | none => exact ⟨fun _ => rfl, fun _ => by rw [show x = -1 from h]; decide⟩
  | some r =>
    obtain ⟨j, w, rfl, -⟩ := h
    exact ⟨fun h => absurd h (by omega), fun h => by cases h⟩
/-- The new node. -/
theorem IxR.new {ds : List RnM} {ws : List RwM} {w : RwM} {r : ReM} (h : Raw ds ws) (hr : w.den = r) : IxR (ws ++ [w]) (ds.length : Int) (some r) := ⟨ds.length, w, rfl, by rw [h.len]; simp, hr⟩
def settleD (ds : List RnM) (f : FrD) : List RnM × FrD :=
  if f.factor < 0 then (ds, f) else if f.row < 0 then (ds, { f with row := f.factor, factor := -1 }) else (ds ++ [binN 2 f.row f.factor], { f with row := ds.length, factor := -1 })
def emptyD (ds : List RnM) (f : FrD) : List RnM × FrD := if f.row < 0 then (ds ++ [binN 0 0 0], { f with row := ds.length }) else (ds, f)
def meetD (ds : List RnM) (f : FrD) : List RnM × FrD :=
  if f.meet < 0 then (ds, { f with meet := f.row, row := -1 }) else (ds ++ [binN (if f.sign = 38 then 5 else 6) f.meet f.row], { f with meet := ds.length, row := -1 })
def foldD (ds : List RnM) (f : FrD) : List RnM × FrD := meetD (emptyD (settleD ds f).1 (settleD ds f).2).1 (emptyD (settleD ds f).1 (settleD ds f).2).2
def altD (ds : List RnM) (f : FrD) : List RnM × FrD :=
  if f.alt < 0 then (ds, { f with alt := f.meet, meet := -1 }) else (ds ++ [binN 3 f.alt f.meet], { f with alt := ds.length, meet := -1 })
def closeD (ds : List RnM) (f : FrD) : List RnM × FrD := altD (foldD ds f).1 (foldD ds f).2
theorem settleD_len (ds : List RnM) (f : FrD) : (settleD ds f).1.length ≤ ds.length + 1 := by
  unfold settleD; split; · simp
  split <;> simp
theorem emptyD_len (ds : List RnM) (f : FrD) : (emptyD ds f).1.length ≤ ds.length + 1 := by unfold emptyD; split <;> simp
theorem meetD_len (ds : List RnM) (f : FrD) : (meetD ds f).1.length ≤ ds.length + 1 := by unfold meetD; split <;> simp
theorem altD_len (ds : List RnM) (f : FrD) : (altD ds f).1.length ≤ ds.length + 1 := by unfold altD; split <;> simp
theorem foldD_len (ds : List RnM) (f : FrD) : (foldD ds f).1.length ≤ ds.length + 3 := by
  unfold foldD
  have h1 := settleD_len ds f
  have h2 := emptyD_len (settleD ds f).1 (settleD ds f).2
  have h3 := meetD_len (emptyD (settleD ds f).1 (settleD ds f).2).1 (emptyD (settleD ds f).1 (settleD ds f).2).2
  omega
theorem closeD_len (ds : List RnM) (f : FrD) : (closeD ds f).1.length ≤ ds.length + 4 := by
  unfold closeD
  have h1 := foldD_len ds f
  have h2 := altD_len (foldD ds f).1 (foldD ds f).2
  omega
/-- How a step on a frame goes with the machine's. -/
structure Goes (ws : List RwM) (q : List RnM × FrD) (a : AF) : Prop where
  ex : ∃ us, Raw q.1 (ws ++ us) ∧ FrR (ws ++ us) q.2 a
theorem Goes.then_ {ws : List RwM} {q q' : List RnM × FrD} {a a' : AF} (h : Goes ws q a) (k : ∀ ws', Raw q.1 ws' → FrR ws' q.2 a → Goes ws' q' a') : Goes ws q' a' := by
  obtain ⟨us, h1, h2⟩ := h
  obtain ⟨vs, h3, h4⟩ := k _ h1 h2
  rw [List.append_assoc] at h3 h4
  exact ⟨_, h3, h4⟩
theorem settle_goes {ds : List RnM} {ws : List RwM} {f : FrD} {a : AF} (h : Raw ds ws) (g : FrR ws f a) : Goes ws (settleD ds f) (settleF a) := by
  unfold settleD settleF
  cases hf : a.factor with
  | none =>
    rw [if_pos (g.factor.neg.2 hf)]
    exact ⟨[], by simpa using h, by simpa using g⟩
  | some p =>
    rw [if_neg (fun e => by have := g.factor.neg.1 e; rw [hf] at this; cases this)]
    have gf := g.factor
    rw [hf] at gf
    cases hr : a.row with
    | none =>
      rw [if_pos (g.row.neg.2 hr)]
      exact ⟨[], by simpa using h, by simpa using ⟨g.place, g.alt, g.meet, g.sign, gf, rfl⟩⟩
    | some q =>
      rw [if_neg (fun e => by have := g.row.neg.1 e; rw [hr] at this; cases this)]
      have gr := g.row
      rw [hr] at gr
      obtain ⟨j, w, e1, e2, e3⟩ := gr
      obtain ⟨k, v, e4, e5, e6⟩ := gf
      refine ⟨[.cat w v], h.add ⟨j, k, by rw [e1, e4], e2, e5⟩, ⟨g.place, g.alt.more, g.meet.more, g.sign, ?_, rfl⟩⟩
      exact IxR.new h (by rw [← e3, ← e6]; rfl)
theorem fold_goes {ds : List RnM} {ws : List RwM} {f : FrD} {a : AF} (h : Raw ds ws) (g : FrR ws f a) : Goes ws (foldD ds f) (foldF a) := by
  refine (settle_goes h g).then_ fun ws1 h1 g1 => ?_
  unfold foldD
  generalize settleD ds f = q1 at *
  obtain ⟨ds1, f1⟩ := q1
  have he : Goes ws1 (emptyD ds1 f1) { settleF a with row := some ((settleF a).row.getD .eps) } := by
    unfold emptyD
    cases hr : (settleF a).row with
    | none =>
      rw [if_pos (g1.row.neg.2 hr)]
      exact ⟨[.eps], h1.add rfl, ⟨g1.place, g1.alt.more, g1.meet.more, g1.sign, IxR.new h1 rfl, g1.factor.more⟩⟩
    | some q =>
      rw [if_neg (fun e => by have := g1.row.neg.1 e; rw [hr] at this; cases this)]
      have gr := g1.row
      rw [hr] at gr
      exact ⟨[], by simpa using h1, by simpa using ⟨g1.place, g1.alt, g1.meet, g1.sign, gr, g1.factor⟩⟩
  refine he.then_ fun ws2 h2 g2 => ?_
  generalize emptyD ds1 f1 = q2 at *
  obtain ⟨ds2, f2⟩ := q2
  obtain ⟨j, w, e1, e2, e3⟩ := g2.row
  unfold meetD
  cases hm : (settleF a).meet with
  | none =>
    rw [if_pos (g2.meet.neg.2 hm)]
    refine ⟨[], by simpa using h2, ?_⟩
    rw [List.append_nil]
    refine ⟨g2.place, g2.alt, ?_, g2.sign, rfl, g2.factor⟩
    show IxR ws2 f2.row (some (match (settleF a).meet with | none => _ | some q => _))
    rw [hm]
    exact ⟨j, w, e1, e2, e3⟩
  | some q =>
    rw [if_neg (fun e => by have := g2.meet.neg.1 e; rw [show ({ settleF a with row := some ((settleF a).row.getD .eps) } : AF).meet = (settleF a).meet from rfl, hm] at this; cases this)]
    have gm := g2.meet
    rw [show ({ settleF a with row := some ((settleF a).row.getD .eps) } : AF).meet = (settleF a).meet from rfl, hm] at gm
    obtain ⟨k, v, e4, e5, e6⟩ := gm
    have hs : f2.sign = (settleF a).sign := g2.sign
    have fin : ∀ (x : RwM) (op : Int), NodeR ws2 (binN op f2.meet f2.row) x → some x.den = (foldF a).meet → Goes ws2 (ds2 ++ [binN op f2.meet f2.row], { f2 with meet := (ds2.length : Int), row := -1 }) (foldF a) := fun x op hx hxd =>
      ⟨[x], h2.add hx, ⟨g2.place, g2.alt.more, by show IxR _ _ (foldF a).meet; rw [← hxd]; exact IxR.new h2 rfl, g2.sign, rfl, g2.factor.more⟩⟩
    by_cases h38 : f2.sign = 38
    · rw [if_pos h38]
      refine fin (.and_ v w) 5 ⟨k, j, by rw [e1, e4], e5, e2⟩ ?_
      show some (ReM.and_ v.den w.den) = some (match (settleF a).meet with | none => _ | some q => _)
      rw [hm]
      show _ = some (if (settleF a).sign = 38 then _ else _)
      rw [if_pos (by rw [← hs]; exact h38), e3, e6]
    · rw [if_neg h38]
      refine fin (.minus v w) 6 ⟨k, j, by rw [e1, e4], e5, e2⟩ ?_
      show some (ReM.minus v.den w.den) = some (match (settleF a).meet with | none => _ | some q => _)
      rw [hm]
      show _ = some (if (settleF a).sign = 38 then _ else _)
      rw [if_neg (by rw [← hs]; exact h38), e3, e6]
theorem close_goes {ds : List RnM} {ws : List RwM} {f : FrD} {a : AF} (h : Raw ds ws) (g : FrR ws f a) : Goes ws (closeD ds f) (closeF a) := by
  refine (fold_goes h g).then_ fun ws2 h2 g2 => ?_
  unfold closeD
  generalize foldD ds f = q2 at *
  obtain ⟨ds2, f2⟩ := q2
  have gm := g2.meet
  have hfm : (foldF a).meet = some ((foldF a).meet.getD .eps) := rfl
  rw [hfm] at gm
  obtain ⟨j, w, e1, e2, e3⟩ := gm
  unfold altD
  cases hm : (foldF a).alt with
  | none =>
    rw [if_pos (g2.alt.neg.2 hm)]
    refine ⟨[], by simpa using h2, ?_⟩
    rw [List.append_nil]
    refine ⟨g2.place, ?_, rfl, g2.sign, g2.row, g2.factor⟩
    show IxR ws2 f2.meet (some (match (foldF a).alt with | none => _ | some q => _))
    rw [hm]
    exact ⟨j, w, e1, e2, e3⟩
  | some q =>
    rw [if_neg (fun e => by have := g2.alt.neg.1 e; rw [hm] at this; cases this)]
    have ga := g2.alt
    rw [hm] at ga
    obtain ⟨k, v, e4, e5, e6⟩ := ga
    refine ⟨[.alt v w], h2.add ⟨k, j, by rw [e1, e4], e5, e2⟩, ⟨g2.place, ?_, rfl, g2.sign, g2.row.more, g2.factor.more⟩⟩
    show IxR _ _ (some (match (foldF a).alt with | none => _ | some q => _))
    rw [hm]
    exact IxR.new h2 (by show ReM.alt v.den w.den = _; rw [e3, e6])
end Go.Proofs.YtlnmhfhdjnenoaaGreatDoor
/- The document's rules for nondeterministic automata: silent, part over trees without signs. -/
set_option linter.unusedVariables false
set_option linter.unusedSimpArgs false
set_option maxRecDepth 100000
namespace Go.Proofs.YtlnmhfhdjnenoaaGreatDoor
open Go.VC
section
variable {B : Nat → Prop} {H0 H : Heap} {rest : List Pc} {bb n : Nat} {v : Value}
end
end Go.Proofs.YtlnmhfhdjnenoaaGreatDoor
/- The law's speaks of layer 4. -/
set_option linter.unusedVariables false
set_option linter.unusedSimpArgs false
set_option maxRecDepth 100000
namespace Go.Proofs.YtlnmhfhdjnenoaaGreatDoor
open Go.VC
def abNf : NfM := nfaOf (textR [97, 98])
theorem ab_edges : abNf.edges = [setE 0 1 (oneS 97), setE 2 3 (oneS 98), silE 1 2] := rfl
theorem ab_start : abNf.start = 0 := rfl
theorem ab_fin : abNf.fin = 3 := rfl
theorem ab_st : abNf.st = 4 := rfl
theorem ab_has {q : Int} (h0 : 0 ≤ q) (h1 : q < 4) : abNf.has q = true := NfM.has_iff.2 ⟨h0, by rw [ab_st]; exact h1, by rw [ab_st]; decide⟩
theorem ab_yes : accN abNf [97, 98] = true := by
  rw [acc_way, ab_start, ab_fin]
  refine Way.hop (a := abNf) (e := setE 0 1 (oneS 97)) (by rw [ab_edges]; simp) rfl (by decide +kernel) (ab_has (by decide) (by decide)) ?_
  refine Way.sil (a := abNf) (e := silE 1 2) (by rw [ab_edges]; simp) rfl (ab_has (by decide) (by decide)) ?_
  refine Way.hop (a := abNf) (e := setE 2 3 (oneS 98)) (by rw [ab_edges]; simp) rfl (by decide +kernel) (ab_has (by decide) (by decide)) ?_
  exact .nil (ab_has (by decide) (by decide))
theorem ab_no : accN abNf [97] = false := by
  rw [Bool.eq_false_iff]
  intro h
  rw [accN_iff, ab_fin] at h
  have h1 : ∀ q, begS abNf q → q = 0 := clS_least (fun q h => h.1) fun e he hs _ h => by
    rw [ab_edges] at he
    simp only [List.mem_cons, List.not_mem_nil, or_false] at he
    rcases he with rfl | rfl | rfl
    · cases hs
    · cases hs
    · exact absurd h (by decide)
  have h2 : ∀ q, goS abNf (begS abNf) 97 q → q = 1 ∨ q = 2 := clS_least (fun q ⟨e, he, hs, hb, hx, _, hq⟩ => by
    rw [ab_edges] at he
    simp only [List.mem_cons, List.not_mem_nil, or_false] at he
    rcases he with rfl | rfl | rfl
    · exact .inl hq
    · exact absurd (h1 _ hx) (by decide)
    · cases hs) fun e he hs _ h => by
    rw [ab_edges] at he
    simp only [List.mem_cons, List.not_mem_nil, or_false] at he
    rcases he with rfl | rfl | rfl
    · cases hs
    · cases hs
    · exact .inr rfl
  rcases h2 3 h with h | h <;> exact absurd h (by decide)
set_option maxHeartbeats 4000000 in
theorem speaks04_p (H : Heap) : Pure Tryz.prog 6 #[] H (.bool true) := by
  refine FnOk.of_vc Tryz.func6 rfl (Tryz.call6 _) ?_
  (conv => whnf); refine pures (text_p ⟨#[97, 98]⟩ (by decide) H) fun H1 ha1 => ?_
  have st1 := (St.nil H).call ha1
  (conv => whnf); refine VCall.mk (build_c (textR (byN ⟨#[97, 98]⟩)) (textR_plain _) (by decide) H1) ?_
  rintro v H2 ⟨ha2, hv⟩
  rw [if_neg (show ¬ 2000 < (textR (byN ⟨#[97, 98]⟩)).nodes by decide)] at hv
  obtain ⟨ea, ec, rfl, hown⟩ := hv
  change SlO tEd none_ H2 H1.size 104 (.slice ea abNf.edges.length ec) abNf.edges at hown
  obtain ⟨ea', ec', e2, st2⟩ := st1.got ha2 hown
  injection e2 with e21 e22 e23
  subst e21; subst e23
  (conv => whnf); refine valloc _ [.int .i64 0, .int .i64 0, .int .i64 0, .slice none 0 0] nfa_z rfl ?_
  intro p H3 hp hs3 hb3 ha3
  have st3 := st2.box hp hs3 hb3 ha3
  (conv => whnf); refine stNB (cs := nfL abNf (.slice ea abNf.edges.length ec)) st3 1 rfl rfl (Nat.le_refl _) rfl fun H4 st4 => ?_
  rw [splice_all (show (nfL abNf (.slice ea abNf.edges.length ec)).length = 4 from rfl)] at st4
  have hb := st4.blk 1 rfl
  (conv => whnf); refine fa fl37_0 ?_
  (conv => whnf); refine ld1 (v := .int .i64 4) ct3 (by rw [hb.cell]; rfl) trivial ?_
  (conv => whnf); refine fa fl37_2 ?_
  (conv => whnf); refine ld1 (v := .int .i64 3) ct3 (by rw [hb.cell]; rfl) trivial ?_
  have hr : abNf.Rng := ⟨kint (by rw [ab_st]; decide), kint (by rw [ab_start]; decide), kint (by rw [ab_fin]; decide)⟩
  have hl : abNf.edges.length ≤ 1048576 := by rw [ab_edges]; decide
  (conv => whnf); refine nf_load hr hl hb ag37 trivial (st4.view 0 rfl) fun v5 hv5 => ?_
  (conv => whnf); refine pures (accepts_n (s := ⟨#[97, 98]⟩) (fun k hk => hk) hv5 (by decide)) fun H5 ha5 => ?_
  have st5 := st4.call ha5
  rw [show accN abNf (byN ⟨#[97, 98]⟩) = true from ab_yes]
  (conv => whnf); refine nf_load hr hl (st5.blk 1 rfl) ag37 trivial (st5.view 0 rfl) fun v6 hv6 => ?_
  (conv => whnf); refine pures (accepts_n (s := ⟨#[97]⟩) (fun k hk => hk) hv6 (by decide)) fun H6 ha6 => ?_
  have st6 := st5.call ha6
  rw [show accN abNf (byN ⟨#[97]⟩) = false from ab_no]
  (conv => whnf)
  exact ⟨rfl, st6.old⟩
end Go.Proofs.YtlnmhfhdjnenoaaGreatDoor
/- The law's ints, holds, same: over equal things. -/
set_option linter.unusedVariables false
set_option linter.unusedSimpArgs false
set_option maxRecDepth 100000
namespace Go.Proofs.YtlnmhfhdjnenoaaGreatDoor
open Go.VC
end Go.Proofs.YtlnmhfhdjnenoaaGreatDoor
/- The document's Text, With, Build; the law NfaLarge: the walks. -/
set_option linter.unusedVariables false
set_option linter.unusedSimpArgs false
set_option maxRecDepth 100000
namespace Go.Proofs.YtlnmhfhdjnenoaaGreatDoor
open Go.VC
abbrev tRe : TypeId := 32
/-! ### put -/
section
variable {B : Nat → Prop} {H0 H : Heap} {rest : List Pc} {bb : Nat}
end
theorem re_z : (Tryz.prog.info? 32).bind (·.zero) = some (.agg #[.slice none 0 0, .int .i64 0]) := rfl
abbrev reZ : List Value := [.slice none 0 0, .int .i64 0]
end Go.Proofs.YtlnmhfhdjnenoaaGreatDoor
/- One cell of an element of a slice of the call's own. -/
set_option linter.unusedVariables false
set_option linter.unusedSimpArgs false
namespace Go.VC
section
variable {α : Type} {T : Ty α} {B : Nat → Prop} {H0 H : Heap} {ps : List Pc} {e : TypeId} {b n cap : Nat} {xs : List α}
/-- Its cells. -/
theorem StB.cellsE {j : Nat} {x : α} (st : StB B H0 H ps) (i : Nat) (hp : ps[i]? = some (pS T e (some ⟨b, 0, none⟩) n cap xs)) (hx : xs[j]? = some x) : ∃ c, Cells H b (j * T.size) c ∧ T.rep none_ H c x := by
  have hi := (List.getElem?_eq_some_iff.1 hx).1
  obtain ⟨-, -, -, l, -, -, h, -⟩ := (st.at_ i hp).1.placeS hi
  exact h x hx
theorem StB.ltE (st : StB B H0 H ps) (i : Nat) (hp : ps[i]? = some (pS T e (some ⟨b, 0, none⟩) n cap xs)) : b < H.size := (st.in_ i hp (.inl ⟨0, n, cap, rfl⟩)).2
/-- Its place. -/
theorem ixE {P : Program} {t by_ j : Nat} {z : Value} {k : IntKind} {ji : Int} {S0 : Nat → Prop} {H2 : Heap} {K : Value → Prop} (ht : SlT P t e T.size by_ z) (st : StB B H0 H ps) (i : Nat) (hp : ps[i]? = some (pS T e (some ⟨b, 0, none⟩) n cap xs))
    (hj : j < xs.length) (hji : ji = (j : Int)) (hk : K (.pointer (some ⟨b, j * T.size, none⟩))) : VDet P (Instr.indexAt t (.slice (some ⟨b, 0, none⟩) n cap) (.int k ji)) S0 H2 K := by
  have hn := st.len i hp
  exact ix ht (by omega) (by omega) (by rw [hji, Int.toNat_natCast, Nat.zero_add]; exact hk)
/-- One cell written. -/
theorem st1E {P : Program} {t j k : Nat} {v : Value} {x x' : α} {K : Heap → Prop} (st : StB B H0 H ps) (i : Nat) (ht : CellT P t) (hp : ps[i]? = some (pS T e (some ⟨b, 0, none⟩) n cap xs)) (hx : xs[j]? = some x) (hk : k < T.size) (hv : v.oneCell' = true)
    (hr : ∀ H' c, T.rep none_ H' c x → T.rep none_ H' (c.set k v) x') (kk : ∀ H', StB B H0 H' (ps.set i (pS T e (some ⟨b, 0, none⟩) n cap (xs.set j x'))) → Agr (fun q => q ≠ b) H H' → K H') :
    VEffU P (Instr.storeAt t (.pointer (some ⟨b, j * T.size + k, none⟩)) v) H K := by
  have hj := (List.getElem?_eq_some_iff.1 hx).1
  have hok := st.at_ i hp
  obtain ⟨-, -, -, l, hblk, hlen, hc, hput⟩ := hok.1.placeS hj
  obtain ⟨c, hc, hrep⟩ := hc x hx
  have hcl := T.len hrep
  refine VC.st1 ht hblk (by omega) hv ?_
  intro H' hb' ha' hs'
  have hSH : Agr none_ H H' := fun q hq => hq.elim
  have hrep' := hr H' c (T.frame hrep hSH)
  have hown := hput H' (c.set k v) x' (by
    have : splice l (j * T.size) (c.set k v) = l.set (j * T.size + k) v := by
      apply List.ext_getElem?
      intro m
      rw [splice_get (by rw [List.length_set, hcl]; exact hlen), List.length_set, hcl]
      by_cases hm : j * T.size ≤ m ∧ m < j * T.size + T.size
      · rw [if_pos hm]
        have hcm : m - j * T.size < c.length := by omega
        have hce : (c[m - j * T.size]?) = l[m]? := by
          have h1 := hc (m - j * T.size) _ (List.getElem?_eq_getElem hcm)
          rw [show j * T.size + (m - j * T.size) = m by omega, hblk.cell] at h1
          rw [List.getElem?_eq_getElem hcm, h1]
        by_cases hmk : m = j * T.size + k
        · subst hmk
          rw [show j * T.size + k - j * T.size = k by omega, List.getElem?_set_self (by omega), List.getElem?_set_self (by omega)]
        · rw [List.getElem?_set_ne (by omega), List.getElem?_set_ne (by omega), hce]
      · rw [if_neg hm, List.getElem?_set_ne (by omega)]
    rw [this]; exact hb') hSH hrep'
  exact kk H' (st.upd i hp (ha'.mono fun q hq hkb => hq.2 (.inl (by subst hkb; exact ⟨0, n, cap, rfl⟩))) _ ⟨hown, hok.2⟩ (fun q hq => .inl hq) (fun q hq => by rw [hs']; exact (st.in_ i hp hq).2) (by omega)) ha'
end
end Go.VC
