/- The document's Reach and Accepts, nfa.Accepts: the walks. -/
import Derived.Test.YtlnmhfhdjnenoaaPNfa5
set_option linter.unusedVariables false
set_option linter.unusedSimpArgs false
set_option maxRecDepth 100000
namespace Go.Proofs.Ytlnmhfhdjnenoaa
open Go.VC
theorem lstS_none {X : PS} (h : ∀ q, ¬ X q) : lstS X = [] := by
  unfold lstS
  rw [List.filter_eq_nil_iff]
  intro q _
  simp [h q]
theorem lstS_ext {X Y : PS} (h : ∀ q, X q ↔ Y q) : lstS X = lstS Y := by
  have : X = Y := funext fun q => propext (h q)
  rw [this]
/-- A list of states of the call's own. -/
abbrev OwnI (H H' : Heap) (r : Value) (xs : List Int) : Prop := Agr (Old H) H H' ∧ ∃ ra rc, r = .slice ra xs.length rc ∧ SlO tIk none_ H' H.size 3 (.slice ra xs.length rc) xs
set_option maxHeartbeats 4000000 in
theorem beginD_c {S : Nat → Prop} {H : Heap} {v : Value} {a : NfM} (hS : ∀ k, S k → k < H.size) (h : NdV S H v a) :
    FnOk Try.prog 28 #[v] H fun r H' => OwnI H H' r (lstS (begS a)) := by
  have hr := h.1
  have hl := h.2.1
  refine FnOk.of_vc Try.func28 rfl (Try.call28 _) ?_
  (conv => whnf); refine nd_box h fun ea ec he h1 => ?_
  subst he
  intro p H1 hp hs1 hb1 ha1
  have st1 := (St.nil H).box hp hs1 hb1 ha1
  (conv => whnf); refine nd_load hr hl (st1.blk 0 rfl) ag34 trivial (h1.frame (st1.old.mono hS)) fun v2 hv2 => ?_
  (conv => whnf); refine fa fl34_1 ?_
  (conv => whnf); refine ld1 (v := .int .i64 a.start) ct3 (by rw [(st1.blk 0 rfl).cell]; rfl) trivial ?_
  (conv => whnf); refine pures (hasD_p hv2) fun H2 ha2 => ?_
  have st2 := st1.call ha2
  cases hst : a.has a.start with
  | false =>
    have e : lstS (begS a) = [] := lstS_none fun q hq => by obtain ⟨r, ⟨-, h2⟩, -⟩ := hq; rw [hst] at h2; cases h2
    (conv => whnf)
    rw [e]
    exact ⟨st2.old, none, 0, rfl, SlO.nil⟩
  | true =>
    have hsr := NfM.has_iff.1 hst
    (conv => whnf); refine nd_load hr hl (st2.blk 0 rfl) ag34 trivial (h1.frame (st2.old.mono hS)) fun v3 hv3 => ?_
    (conv => whnf); refine fa fl34_1 ?_
    (conv => whnf); refine ld1 (v := .int .i64 a.start) ct3 (by rw [(st2.blk 0 rfl).cell]; rfl) trivial ?_
    (conv => whnf); refine vbuild1 sl47 [.int .i64 a.start] rfl rfl (by decide) (by decide) ?_
    intro y H3 hy hs3 hb3 ha3
    have st3 := st2.new (T := tIk) (n := 1) (xs := [a.start]) hy hs3 hb3 ha3 (Ty.reps_one ⟨rfl, kint ⟨hsr.1, by omega⟩⟩) rfl (by unfold maxLen; omega)
    have hv4 : NdV S H3 v3 a := hv3.frame (ha3.mono fun k hk => by have := st2.up (hS k hk); omega)
    (conv => whnf); refine VCall.mk (settledD_c (S2 := Old H3) (L := [a.start]) (fun k hk => st3.up (hS k hk)) (fun k hk => hk) hv4 (st3.view 1 rfl) (by simp) (fun q hq => by rw [List.mem_singleton] at hq; subst hq; exact hst)) ?_
    rintro _ H4 ⟨ha4, ra, rc, rfl, hown⟩
    have st4 := st3.call ha4
    have e : lstS (clS a (· ∈ [a.start])) = lstS (begS a) := lstS_ext fun q => by
      have : (fun q => q ∈ [a.start]) = fun q => q = a.start ∧ a.has a.start = true := funext fun q => propext (by simp [hst])
      unfold begS
      rw [this]
    (conv => whnf)
    rw [e] at hown ⊢
    exact ⟨st4.old, ra, rc, rfl, hown.lower (old_size st3.old)⟩
set_option maxHeartbeats 8000000 in
theorem goD_c {S S2 : Nat → Prop} {H : Heap} {v : Value} {a : NfM} {la : Option Addr} {lc b : Nat} {L : List Int} (hS : ∀ k, S k → k < H.size) (hS2 : ∀ k, S2 k → k < H.size) (h : NdV S H v a) (hL : SlD tIk S2 H la lc L) (hb : b < 256) :
    FnOk Try.prog 29 #[v, .slice la L.length lc, .int .u8 (b : Int)] H fun r H' => OwnI H H' r (lstS (goS a (· ∈ L) b)) := by
  have hr := h.1
  have hl := h.2.1
  refine FnOk.of_vc Try.func29 rfl (Try.call29 _) ?_
  (conv => whnf); refine nd_box h fun ea ec he h1 => ?_
  subst he
  intro p H1 hp hs1 hb1 ha1
  have st1 := ((St.nil H).box hp hs1 hb1 ha1).nils tIk 3
  (conv => whnf)
  refine VLoop.mk [7, 8] (fun x : Nat × List Int × Option Addr × Nat => match x with | (k, out, a6, c6) => [.slice a6 out.length c6, .int .i64 (k : Int)])
    (fun x H6 => x.1 ≤ a.edges.length ∧ x.2.1.Nodup ∧ (∀ q ∈ x.2.1, hopS a (· ∈ L) b q) ∧ (∀ e ∈ a.edges.take x.1, e.sil = false → e.set.getLsbD b = true → e.fr ∈ L → a.has e.to = true → e.to ∈ x.2.1) ∧ St H H6 [pB 34 p (nfL a (.slice ea a.edges.length ec)), pS tIk 3 x.2.2.1 x.2.1.length x.2.2.2 x.2.1]) (fun x _ => a.edges.length - x.1) ?_ ?_
  · (conv => whnf)
    exact ⟨(0, [], none, 0), rfl, Nat.zero_le _, List.Pairwise.nil, (fun q h => by cases h), (fun e h => by cases h), st1⟩
  · rintro ⟨k, out, a6, c6⟩ H6 junk6 ⟨hk, hnd, hhop, hdone, st6⟩
    simp only at hk hnd hhop hdone st6
    have hhas : ∀ q ∈ out, a.has q = true := fun q hq => by obtain ⟨e, _, _, _, _, h5, rfl⟩ := hhop q hq; exact h5
    have hol := dist_le hnd fun q hq => has_rng (X := (· ∈ out)) hhas q hq
    have h16 := h1.frame (st6.old.mono hS)
    (conv => whnf); refine fa fl34_3 ?_
    (conv => whnf); refine ld1 (v := .slice ea a.edges.length ec) ct32 (by rw [(st6.blk 0 rfl).cell]; rfl) trivial ?_
    (conv => whnf); refine VIte.mk (fun hz2 => ?_) (fun hz2 => ?_) <;> simp only [decide_eq_true_eq, decide_eq_false_iff_not] at hz2
    · obtain ⟨e, he⟩ := get_some (l := a.edges) (k := k) (by omega)
      have hem := List.mem_of_getElem? he
      have w1 : IntKind.wrap .i64 ((k : Int) + 1) = (k : Int) + 1 := w64 (by omega) (by omega)
      have stay : ∀ {H' : Heap}, (e.sil = false → e.set.getLsbD b = true → e.fr ∈ L → a.has e.to = true → e.to ∈ out) → St H H' [pB 34 p (nfL a (.slice ea a.edges.length ec)), pS tIk 3 a6 out.length c6 out] →
          ∃ y : Nat × List Int × Option Addr × Nat, [Value.slice a6 out.length c6, .int .i64 ((k : Int) + 1)] = (match y with | (k, out, a6, c6) => [.slice a6 out.length c6, .int .i64 (k : Int)]) ∧
            (y.1 ≤ a.edges.length ∧ y.2.1.Nodup ∧ (∀ q ∈ y.2.1, hopS a (· ∈ L) b q) ∧ (∀ e ∈ a.edges.take y.1, e.sil = false → e.set.getLsbD b = true → e.fr ∈ L → a.has e.to = true → e.to ∈ y.2.1) ∧ St H H' [pB 34 p (nfL a (.slice ea a.edges.length ec)), pS tIk 3 y.2.2.1 y.2.1.length y.2.2.2 y.2.1]) ∧ a.edges.length - y.1 < a.edges.length - k := fun {H'} t3 t4 => by
        refine ⟨(k + 1, out, a6, c6), by simp, ⟨by simp only; omega, hnd, hhop, fun e' he' s1 s2 s3 s4 => ?_, t4⟩, by simp only; omega⟩
        simp only at he'
        rw [take_succ_snoc he, List.mem_append, List.mem_singleton] at he'
        rcases he' with he' | rfl
        · exact hdone e' he' s1 s2 s3 s4
        · exact t3 s1 s2 s3 s4
      (conv => whnf); refine VSeq.run ?_
      (conv => whnf); refine fa fl34_3 ?_
      (conv => whnf); refine ld1 (v := .slice ea a.edges.length ec) ct32 (by rw [(st6.blk 0 rfl).cell]; rfl) trivial ?_
      (conv => whnf); refine ixr (i := k) sl32 h16 he rfl ?_
      rintro b6 o6 c7 hS6 hc6 ⟨rfl, hok⟩
      (conv => whnf); refine ldN (cs := edDL e) (by rw [edDL_len]; exact ag83) hc6 trivial ?_
      (conv => whnf); refine valloc edDZ edZL edgeD_z rfl ?_
      intro x H7 hx hs7 hb7 ha7
      have st7 := st6.box hx hs7 hb7 ha7
      (conv => whnf); refine stNB (cs := edDL e) st7 2 (by rw [edDL_len]; rfl) rfl (by rw [edDL_len, edZL_len]; exact Nat.le_refl _) (edD_ones e) fun H8 st8 => ?_
      rw [splice_all (show (edDL e).length = edZL.length by rw [edDL_len, edZL_len])] at st8
      have hbx := st8.blk 2 rfl
      have hcell : ∀ (o : Nat) (u : Value), (edDL e)[o]? = some u → VC.cell H8 x o = some u := fun o u hu => by rw [hbx.cell]; exact hu
      have hL8 := hL.frame (st8.old.mono hS2)
      (conv => whnf); refine fa fl83_2 ?_
      (conv => whnf); refine ld1 (v := .bool e.sil) ct4 (hcell _ _ rfl) trivial ?_
      cases hes : e.sil with
      | true =>
        (conv => whnf); rw [w1]
        exact ⟨rfl, stay (fun h => by rw [hes] at h; cases h) (st8.pick [0, 1] (by decide))⟩
      | false =>
        have wb : IntKind.wrap .i64 (b : Int) = (b : Int) := w64 (by omega) (by omega)
        (conv => whnf); refine fa fl83_3 ?_
        (conv => whnf); rw [wb]
        (conv => whnf); refine ixa (i := (b : Int)) ar75 (by omega) (by omega) ?_
        (conv => whnf); refine ld1 (v := .bool (e.set.getLsbD b)) ct4 (hcell _ _ (by rw [show 0 + 3 + (b : Int).toNat * 1 = 3 + b by omega]; exact edDL_bit e hb)) trivial ?_
        cases hbit : e.set.getLsbD b with
        | false =>
          (conv => whnf); rw [w1]
          exact ⟨rfl, stay (fun _ h => by rw [hbit] at h; cases h) (st8.pick [0, 1] (by decide))⟩
        | true =>
          (conv => whnf); refine fa fl83_0 ?_
          (conv => whnf); refine ld1 (v := .int .i64 e.fr) ct3 (hcell _ _ rfl) trivial ?_
          (conv => whnf); refine pures (holdsD_p (fun k hk => st8.up (hS2 k hk)) hL8) fun H9 ha9 => ?_
          have st9 := st8.call ha9
          have hcell9 : ∀ (o : Nat) (u : Value), (edDL e)[o]? = some u → VC.cell H9 x o = some u := fun o u hu => by rw [(st9.blk 2 rfl).cell]; exact hu
          by_cases hfl : e.fr ∈ L
          · have d1 : decide (e.fr ∈ L) = true := decide_eq_true hfl
            (conv => whnf); rw [d1]
            (conv => whnf); refine nd_load hr hl (st9.blk 0 rfl) ag34 trivial (h1.frame (st9.old.mono hS)) fun v10 hv10 => ?_
            (conv => whnf); refine fa fl83_1 ?_
            (conv => whnf); refine ld1 (v := .int .i64 e.to) ct3 (hcell9 _ _ rfl) trivial ?_
            (conv => whnf); refine pures (hasD_p hv10) fun H10 ha10 => ?_
            have st10 := st9.call ha10
            have hcell10 : ∀ (o : Nat) (u : Value), (edDL e)[o]? = some u → VC.cell H10 x o = some u := fun o u hu => by rw [(st10.blk 2 rfl).cell]; exact hu
            cases hto : a.has e.to with
            | false =>
              (conv => whnf); rw [w1]
              exact ⟨rfl, stay (fun _ _ _ h => by rw [hto] at h; cases h) (st10.pick [0, 1] (by decide))⟩
            | true =>
              (conv => whnf); refine fa fl83_1 ?_
              (conv => whnf); refine ld1 (v := .int .i64 e.to) ct3 (hcell10 _ _ rfl) trivial ?_
              (conv => whnf); refine pures (holdsD_p (S := Old H10) (fun k hk => hk) (st10.view 1 rfl)) fun H11 ha11 => ?_
              have st11 := st10.call ha11
              by_cases hin : e.to ∈ out
              · have d2 : decide (e.to ∈ out) = true := decide_eq_true hin
                (conv => whnf); rw [d2]
                (conv => whnf); rw [w1]
                exact ⟨rfl, stay (fun _ _ _ _ => hin) (st11.pick [0, 1] (by decide))⟩
              · have d2 : decide (e.to ∈ out) = false := decide_eq_false hin
                have hc11 : VC.cell H11 x 1 = some (.int .i64 e.to) := by rw [(st11.blk 2 rfl).cell]; rfl
                have htr := NfM.has_iff.1 hto
                (conv => whnf); rw [d2]
                (conv => whnf); refine fa fl83_1 ?_
                (conv => whnf); refine ld1 (v := .int .i64 e.to) ct3 hc11 trivial ?_
                (conv => whnf); refine vbuild1 sl47 [.int .i64 e.to] rfl rfl (by decide) (by decide) ?_
                intro q21 H21 hq21 hs21 hb21 ha21
                (conv => whnf); refine app1 (x := e.to) (st11.skip hq21 ha21) 1 sl47 rfl hb21 ⟨rfl, kint ⟨htr.1, by omega⟩⟩ rfl (by omega) (by decide) fun a'' c'' H22 st22 _ => ?_
                (conv => whnf); rw [w1]
                have el : out.length + 1 = (out ++ [e.to]).length := by simp
                rw [el] at st22 ⊢
                refine ⟨rfl, (k + 1, out ++ [e.to], a'', c''), by simp, ⟨by simp only; omega, ?_, fun t ht => ?_, fun e' he' s1 s2 s3 s4 => ?_, st22.pick [0, 1] (by decide)⟩, by simp only; omega⟩
                · exact List.nodup_append.2 ⟨hnd, by simp, fun s hs t ht e1 => by rw [List.mem_singleton] at ht; subst ht; subst e1; exact hin hs⟩
                · simp only at ht
                  rcases List.mem_append.1 ht with ht | ht
                  · exact hhop t ht
                  · rw [List.mem_singleton] at ht; subst ht
                    exact ⟨e, hem, hes, hbit, hfl, hto, rfl⟩
                · simp only at he' ⊢
                  rw [take_succ_snoc he, List.mem_append, List.mem_singleton] at he'
                  rcases he' with he' | rfl
                  · exact List.mem_append.2 (.inl (hdone e' he' s1 s2 s3 s4))
                  · simp
          · have d1 : decide (e.fr ∈ L) = false := decide_eq_false hfl
            (conv => whnf); rw [d1]
            (conv => whnf); rw [w1]
            exact ⟨rfl, stay (fun _ _ h => absurd h hfl) (st9.pick [0, 1] (by decide))⟩
    · obtain rfl : k = a.edges.length := by omega
      rw [List.take_length] at hdone
      (conv => whnf); refine nd_load hr hl (st6.blk 0 rfl) ag34 trivial h16 fun v7 hv7 => ?_
      (conv => whnf); refine VCall.mk (settledD_c (S2 := Old H6) (L := out) (fun k hk => st6.up (hS k hk)) (fun k hk => hk) hv7 (st6.view 1 rfl) hnd hhas) ?_
      rintro _ H8 ⟨ha8, ra, rc, rfl, hown⟩
      have st8 := st6.call ha8
      have e : lstS (clS a (· ∈ out)) = lstS (goS a (· ∈ L) b) := lstS_ext fun q => by
        have : (fun q => q ∈ out) = hopS a (· ∈ L) b := funext fun q => propext ⟨hhop q, fun ⟨e, t1, t2, t3, t4, t5, t6⟩ => by rw [t6]; exact hdone e t1 t2 t3 t4 t5⟩
        unfold goS
        rw [this]
      (conv => whnf)
      rw [e] at hown ⊢
      exact ⟨st8.old, ra, rc, rfl, hown.lower (old_size st6.old)⟩
set_option maxHeartbeats 4000000 in
theorem reachD_c {S : Nat → Prop} {H : Heap} {v : Value} {a : NfM} {s : ByteArray} (hS : ∀ k, S k → k < H.size) (h : NdV S H v a) (hs : s.size ≤ maxLen) :
    FnOk Try.prog 14 #[v, .string s] H fun r H' => OwnI H H' r (rchL a (byN s)) := by
  have hr := h.1
  have hl := h.2.1
  unfold maxLen at hs
  refine FnOk.of_vc Try.func14 rfl (Try.call14 _) ?_
  (conv => whnf); refine nd_box h fun ea ec he h1 => ?_
  subst he
  intro p H1 hp hs1 hb1 ha1
  have st1 := (St.nil H).box hp hs1 hb1 ha1
  (conv => whnf); refine nd_load hr hl (st1.blk 0 rfl) ag34 trivial (h1.frame (st1.old.mono hS)) fun v2 hv2 => ?_
  (conv => whnf); refine VCall.mk (beginD_c (fun k hk => st1.up (hS k hk)) hv2) ?_
  rintro _ H2 ⟨ha2, ra, rc, rfl, hown⟩
  obtain ⟨ra', rc', e2, st2⟩ := st1.got ha2 hown
  injection e2 with e21 e22 e23
  subst e21; subst e23
  (conv => whnf)
  refine VLoop.mk [5, 6] (fun x : Nat × Option Addr × Nat => match x with | (i, a5, c5) => [.slice a5 (rchL a ((byN s).take i)).length c5, .int .i64 (i : Int)])
    (fun x H6 => x.1 ≤ s.size ∧ St H H6 [pB 34 p (nfL a (.slice ea a.edges.length ec)), pS tIk 3 x.2.1 (rchL a ((byN s).take x.1)).length x.2.2 (rchL a ((byN s).take x.1))]) (fun x _ => s.size - x.1) ?_ ?_
  · (conv => whnf)
    exact ⟨(0, ra, rc), rfl, Nat.zero_le _, st2⟩
  · rintro ⟨i, a5, c5⟩ H6 junk6 ⟨hi, st6⟩
    simp only at hi st6
    (conv => whnf); refine VIte.mk (fun hz => ?_) (fun hz => ?_) <;> simp only [decide_eq_true_eq, decide_eq_false_iff_not] at hz
    · obtain ⟨b, hb⟩ := getB (s := s) (k := i) (by omega)
      obtain ⟨L, hL⟩ : ∃ L, L = rchL a ((byN s).take i) := ⟨_, rfl⟩
      have hnext : lstS (goS a (· ∈ L) b.toNat) = rchL a ((byN s).take (i + 1)) := by
        unfold rchL
        rw [take_succ_snoc (byN_get hb), rchS_snoc]
        have : (fun q => q ∈ L) = rchS a ((byN s).take i) := funext fun q => propext (by rw [hL]; exact rchL_mem a _ q)
        rw [this]
      (conv => whnf)
      rw [← hL] at st6 ⊢
      refine VDraw.heldZ (Old H6) [] (sq [0,1,2,3,4] (.f 5 (.f 6 .e))) rfl (by kernel_rfl) ?_
      (conv => whnf); refine nd_load hr hl (st6.blk 0 rfl) ag34 (st6.in_ 0 rfl rfl).2 (h1.frame (st6.old.mono hS)) fun v7 hv7 => ?_
      (conv => whnf); refine vidxs Try.underlying9 rfl hb ?_
      (conv => whnf); refine VCall.mk (goD_c (S2 := Old H6) (fun k hk => st6.up (hS k hk)) (fun k hk => hk) hv7 (st6.view 1 rfl) (UInt8.toNat_lt b)) ?_
      rintro _ H8 ⟨ha8, ra8, rc8, rfl, hown8⟩
      obtain ⟨ra', rc', e8, st8⟩ := st6.got ha8 hown8
      injection e8 with e81 e82 e83
      subst e81; subst e83
      refine ⟨ha8, ?_⟩
      (conv => whnf)
      refine ⟨ha8, ?_⟩
      (conv => whnf); rw [w64 (x := (i : Int) + 1) (by omega) (by omega)]
      rw [hnext] at st8 ⊢
      exact ⟨rfl, (i + 1, ra8, rc8), by simp, ⟨by simp only; omega, st8.pick [0, 2] (by decide)⟩, by simp only; omega⟩
    · obtain rfl : i = s.size := by omega
      rw [List.take_of_length_le (by rw [byN_len]; exact Nat.le_refl _)] at st6
      (conv => whnf)
      rw [List.take_of_length_le (by rw [byN_len]; exact Nat.le_refl _)]
      exact ⟨st6.old, a5, c5, rfl, St.own st6 1 rfl⟩
theorem acc_mem4 {a : NfM} {s : List Nat} : decide (a.fin ∈ rchL a s) = accN a s := by
  have := accN_iff a s
  have h2 := rchL_mem a s a.fin
  cases h : accN a s with
  | true => exact decide_eq_true (h2.2 (this.1 h))
  | false => exact decide_eq_false fun hm => by rw [this.2 (h2.1 hm)] at h; cases h
theorem acc_has {a : NfM} {s : List Nat} (h : a.has a.fin = false) : accN a s = false := by
  cases h2 : accN a s with
  | false => rfl
  | true => have := rchS_has a s _ ((accN_iff a s).1 h2); rw [this] at h; cases h
set_option maxHeartbeats 4000000 in
theorem acceptsD_p {S : Nat → Prop} {H : Heap} {v : Value} {a : NfM} {s : ByteArray} (hS : ∀ k, S k → k < H.size) (h : NdV S H v a) (hs : s.size ≤ maxLen) :
    Pure Try.prog 19 #[v, .string s] H (.bool (accN a (byN s))) := by
  have hr := h.1
  have hl := h.2.1
  refine FnOk.of_vc Try.func19 rfl (Try.call19 _) ?_
  (conv => whnf); refine nd_box h fun ea ec he h1 => ?_
  subst he
  intro p H1 hp hs1 hb1 ha1
  have st1 := (St.nil H).box hp hs1 hb1 ha1
  have hb := st1.blk 0 rfl
  have hpl := hb.lt
  (conv => whnf); refine VDraw.heldG (Old H1) [] (sq [0,1,2] (.f 3 (sq [4,5,6,8,9] (.f 7 (.f 10 (sq [11] (.f 12 .e))))))) rfl (by kernel_rfl) ?_
  (conv => whnf); refine nd_load hr hl hb ag34 hpl (h1.frame (st1.old.mono hS)) fun v2 hv2 => ?_
  (conv => whnf); refine fa fl34_2 ?_
  (conv => whnf); refine ld1 (v := .int .i64 a.fin) ct3 (by rw [hb.cell]; rfl) hpl ?_
  (conv => whnf); refine pures (hasD_p hv2) fun H2 ha2 => ?_
  have st2 := st1.call ha2
  refine ⟨ha2, ?_⟩
  have hb2 := st2.blk 0 rfl
  cases hst : a.has a.fin with
  | false =>
    (conv => whnf)
    refine ⟨ha2, ?_⟩
    (conv => whnf)
    exact ⟨by rw [acc_has hst], st2.old⟩
  | true =>
    (conv => whnf); refine nd_load hr hl hb2 ag34 hpl (h1.frame (st2.old.mono hS)) fun v3 hv3 => ?_
    (conv => whnf); refine fa fl34_2 ?_
    (conv => whnf); refine ld1 (v := .int .i64 a.fin) ct3 (by rw [hb2.cell]; rfl) hpl ?_
    (conv => whnf); refine VCall.mk (reachD_c (fun k hk => st2.up (hS k hk)) hv3 hs) ?_
    rintro _ H4 ⟨ha4, ra, rc, rfl, hown⟩
    obtain ⟨ra', rc', e4, st4⟩ := st2.got ha4 hown
    injection e4 with e41 e42 e43
    subst e41; subst e43
    have h14 : Agr (Old H1) H1 H4 := ha2.trans (ha4.mono fun k hk => old_lt ha2 hk)
    refine ⟨h14, ?_⟩
    (conv => whnf); refine pures (holdsD_p (S := Old H4) (fun k hk => hk) (st4.view 1 rfl)) fun H5 ha5 => ?_
    have st5 := st4.call ha5
    have h15 : Agr (Old H1) H1 H5 := h14.trans (ha5.mono fun k hk => old_lt h14 hk)
    refine ⟨h15, ?_⟩
    (conv => whnf)
    refine ⟨h15, ?_⟩
    (conv => whnf)
    exact ⟨by rw [acc_mem4], st5.old⟩
/-! ### nfa.Accepts -/
theorem isNaN1_p (x : Int) (H : Heap) : Pure Try.prog 57 #[.int .i64 x] H (.bool false) := by
  refine FnOk.of_vc Try.func57 rfl (Try.call57 _) ?_
  have d : (x != x) = false := by simp
  (conv => whnf)
  exact ⟨by rw [d], Agr.refl _ _⟩
theorem isNaN2_p (x : Int) (H : Heap) : Pure Try.prog 48 #[.int .i64 x] H (.bool false) := by
  refine FnOk.of_vc Try.func48 rfl (Try.call48 _) ?_
  have d : (x != x) = false := by simp
  (conv => whnf)
  exact ⟨by rw [d], Agr.refl _ _⟩
theorem less_p (x y : Int) (H : Heap) : Pure Try.prog 47 #[.int .i64 x, .int .i64 y] H (.bool (decide (x < y))) := by
  refine FnOk.of_vc Try.func47 rfl (Try.call47 _) ?_
  (conv => whnf); refine pures (isNaN1_p x H) fun H1 ha1 => ?_
  (conv => whnf)
  exact ⟨rfl, ha1⟩
theorem srt_get {xs : List Int} (h : xs.Pairwise (· < ·)) {i j : Nat} {x y : Int} (hij : i < j) (hx : xs[i]? = some x) (hy : xs[j]? = some y) : x < y := by
  obtain ⟨h1, e1⟩ := List.getElem?_eq_some_iff.1 hx
  obtain ⟨h2, e2⟩ := List.getElem?_eq_some_iff.1 hy
  have := List.pairwise_iff_getElem.1 h i j h1 h2 hij
  rw [e1, e2] at this
  exact this
set_option maxHeartbeats 4000000 in
theorem bsearch_c {S : Nat → Prop} {H : Heap} {a : Option Addr} {c : Nat} {xs : List Int} {t : Int} (hS : ∀ k, S k → k < H.size) (h : SlD tIk S H a c xs) (hsrt : xs.Pairwise (· < ·)) (hlen : xs.length ≤ 65536) :
    FnOk Try.prog 37 #[.slice a xs.length c, .int .i64 t] H fun r H' => Agr (Old H) H H' ∧ ∃ i : Nat, r = .tuple #[.int .i64 (i : Int), .bool (decide (t ∈ xs))] := by
  refine FnOk.of_vc Try.func37 rfl (Try.call37 _) ?_
  (conv => whnf)
  refine VLoop.mk [7, 8] (fun x : Nat × Nat => match x with | (i, j) => [.int .i64 (i : Int), .int .i64 (j : Int)]) (fun x H2 => x.1 ≤ x.2 ∧ x.2 ≤ xs.length ∧ (∀ k y, k < x.1 → xs[k]? = some y → y < t) ∧ (∀ k y, x.2 ≤ k → xs[k]? = some y → t ≤ y) ∧ Agr (Old H) H H2) (fun x _ => x.2 - x.1) ?_ ?_
  · (conv => whnf)
    exact ⟨(0, xs.length), rfl, Nat.zero_le _, Nat.le_refl _, (fun k y h => by omega), (fun k y h1 h2 => by have := (List.getElem?_eq_some_iff.1 h2).1; omega), Agr.refl _ _⟩
  · rintro ⟨i, j⟩ H2 junk ⟨hij, hj, hlo, hhi, ha⟩
    simp only at hij hj hlo hhi ha
    have hd := h.frame (ha.mono hS)
    (conv => whnf); refine VIte.mk (fun hz => ?_) (fun hz => ?_) <;> simp only [decide_eq_true_eq, decide_eq_false_iff_not] at hz
    · obtain ⟨m, hm⟩ : ∃ m, m = (i + j) / 2 := ⟨_, rfl⟩
      have e1 : IntKind.wrap .i64 ((i : Int) + (j : Int)) = ((i + j : Nat) : Int) := by rw [w64 (by omega) (by omega)]; omega
      have e2 : IntKind.wrap .u64 (((i + j : Nat) : Int)) = ((i + j : Nat) : Int) := wrap_in (k := .u64) (inU64 (by omega))
      have e3 : IntKind.wrap .i64 (((i + j : Nat) / 2 ^ 1 : Nat) : Int) = (m : Int) := by rw [w64 (by omega) (by omega), hm]
      obtain ⟨y, hy⟩ := get_some (l := xs) (k := m) (by omega)
      (conv => whnf); rw [e1, e2]
      (conv => whnf); refine vshr (k := .u64) (b := 1) (by decide) ?_
      (conv => whnf); rw [e3]
      (conv => whnf); refine ixr (i := m) sl47 hd hy rfl ?_
      rintro b3 o3 c3 hS3 hc3 ⟨rfl, -⟩
      (conv => whnf); refine ld1 ct3 hc3.one trivial ?_
      (conv => whnf); refine pures (less_p y t H2) fun H3 ha3 => ?_
      have h3 := ha.trans (ha3.mono fun k hk => old_lt ha hk)
      by_cases hlt : y < t
      · have d1 : decide (y < t) = true := decide_eq_true hlt
        (conv => whnf); rw [d1]
        (conv => whnf); rw [w64 (x := (m : Int) + 1) (by omega) (by omega)]
        refine ⟨rfl, (m + 1, j), by simp, ⟨by simp only; omega, hj, fun k z hk hz => ?_, hhi, h3⟩, by simp only; omega⟩
        by_cases hkm : k = m
        · subst hkm; rw [hy] at hz; cases hz; exact hlt
        · have := srt_get hsrt (show k < m by omega) hz hy; omega
      · have d1 : decide (y < t) = false := decide_eq_false hlt
        (conv => whnf); rw [d1]
        (conv => whnf)
        refine ⟨rfl, (i, m), rfl, ⟨by simp only; omega, by simp only; omega, hlo, fun k z hk hz => ?_, h3⟩, by simp only; omega⟩
        by_cases hkm : k = m
        · subst hkm; rw [hy] at hz; cases hz; omega
        · have := srt_get hsrt (show m < k by omega) hy hz; omega
    · obtain rfl : i = j := by omega
      by_cases hin : i < xs.length
      · have d0 : decide ((i : Int) < (xs.length : Int)) = true := decide_eq_true (by omega)
        obtain ⟨y, hy⟩ := get_some (l := xs) (k := i) hin
        (conv => whnf); rw [d0]
        (conv => whnf); refine ixr (i := i) sl47 hd hy rfl ?_
        rintro b3 o3 c3 hS3 hc3 ⟨rfl, -⟩
        (conv => whnf); refine ld1 ct3 hc3.one trivial ?_
        by_cases he : y = t
        · have d1 : (y == t) = true := by rw [he]; simp
          (conv => whnf); rw [d1]
          (conv => whnf)
          exact ⟨ha, i, by rw [decide_eq_true (he ▸ List.mem_of_getElem? hy)]⟩
        · have d1 : (y == t) = false := beq_eq_false_iff_ne.2 he
          have hno : t ∉ xs := fun hm => by
            obtain ⟨k, hk⟩ := List.getElem?_of_mem hm
            rcases Nat.lt_trichotomy k i with h1 | h1 | h1
            · have := hlo k t h1 hk; omega
            · subst h1; rw [hy] at hk; cases hk; exact he rfl
            · have h5 := srt_get hsrt h1 hy hk
              have := hhi i y (Nat.le_refl _) hy
              omega
          (conv => whnf); rw [d1]
          (conv => whnf); refine ixr (i := i) sl47 hd hy rfl ?_
          rintro b4 o4 c4 hS4 hc4 ⟨rfl, -⟩
          (conv => whnf); refine ld1 ct3 hc4.one trivial ?_
          (conv => whnf); refine pures (isNaN2_p y H2) fun H3 ha3 => ?_
          (conv => whnf)
          exact ⟨ha.trans (ha3.mono fun k hk => old_lt ha hk), i, by rw [decide_eq_false hno]⟩
      · have d0 : decide ((i : Int) < (xs.length : Int)) = false := decide_eq_false (by omega)
        have hno : t ∉ xs := fun hm => by
          obtain ⟨k, hk⟩ := List.getElem?_of_mem hm
          have h2 := (List.getElem?_eq_some_iff.1 hk).1
          have := hlo k t (by omega) hk; omega
        (conv => whnf); rw [d0]
        (conv => whnf)
        exact ⟨ha, i, by rw [decide_eq_false hno]⟩
set_option maxHeartbeats 4000000 in
theorem accepts_n {S : Nat → Prop} {H : Heap} {v : Value} {a : NfM} {s : ByteArray} (hS : ∀ k, S k → k < H.size) (h : NfV S H v a) (hs : s.size ≤ maxLen) :
    Pure Try.prog 18 #[v, .string s] H (.bool (accN a (byN s))) := by
  have hr := h.1
  have hl := h.2.1
  refine FnOk.of_vc Try.func18 rfl (Try.call18 _) ?_
  (conv => whnf); refine nf_box h fun ea ec he h1 => ?_
  subst he
  intro p H1 hp hs1 hb1 ha1
  have st1 := (St.nil H).box hp hs1 hb1 ha1
  have hb := st1.blk 0 rfl
  have hpl := hb.lt
  (conv => whnf); refine VDraw.heldZ (Old H1) [] (sq [0,1,3,4] (.f 2 (.f 5 (sq [6,7,8,9] (.f 10 .e))))) rfl (by kernel_rfl) ?_
  (conv => whnf); refine nf_load hr hl hb ag25 hpl (h1.frame (st1.old.mono hS)) fun v2 hv2 => ?_
  (conv => whnf); refine fa fl25_2 ?_
  (conv => whnf); refine ld1 (v := .int .i64 a.fin) ct3 (by rw [hb.cell]; rfl) hpl ?_
  (conv => whnf); refine VCall.mk (reach_n (fun k hk => st1.up (hS k hk)) hv2 hs) ?_
  rintro _ H4 ⟨ha4, ra, rc, rfl, hown⟩
  obtain ⟨ra', rc', e4, st4⟩ := st1.got ha4 hown
  injection e4 with e41 e42 e43
  subst e41; subst e43
  refine ⟨ha4, ?_⟩
  (conv => whnf); refine VCall.mk (bsearch_c (S := Old H4) (t := a.fin) (fun k hk => hk) (st4.view 1 rfl) (lstS_srt _) (lstS_len _)) ?_
  rintro _ H5 ⟨ha5, i, rfl⟩
  have st5 := st4.call ha5
  have h15 : Agr (Old H1) H1 H5 := ha4.trans (ha5.mono fun k hk => old_lt ha4 hk)
  refine ⟨h15, ?_⟩
  (conv => whnf)
  refine ⟨h15, ?_⟩
  (conv => whnf)
  exact ⟨by rw [acc_mem4], st5.old⟩
end Go.Proofs.Ytlnmhfhdjnenoaa
