/- The document's Begin, Go, Reach, Accepts of nondeterministic automata: the walks. -/
import Derived.Test.YtlnmhfhdjnenoaaPNfa4
set_option linter.unusedVariables false
set_option linter.unusedSimpArgs false
set_option maxRecDepth 100000
namespace Go.VC
section
variable {α : Type} {T : Ty α} {e : TypeId} {a : Option Addr} {n cap : Nat} {xs ys : List α} {B S : Nat → Prop} {H0 H : Heap} {ps : List Pc}
/-- append of a slice that is only read. -/
theorem appSD {P : Program} {t ty by_ : Nat} {z : Value} {a2 : Option Addr} {c2 : Nat} {K : Value → Heap → Prop} (hf : T.Free) (hone : T.Ones) (st : StB B H0 H ps) (i : Nat) (ht : SlT P t e T.size by_ z) (hp : ps[i]? = some (pS T e a n cap xs)) (hSB : ∀ k, S k → B k) (hy : SlD T S H a2 c2 ys)
    (h63 : xs.length + ys.length ≤ 4194304) (hby : by_ ≤ 1024)
    (k : ∀ a' cap' H', StB B H0 H' (ps.set i (pS T e a' (xs.length + ys.length) cap' (xs ++ ys))) → K (.slice a' (xs.length + ys.length) cap') H') :
    VEff P (Builtin.append_ #[t, t] ty [.slice a n cap, .slice a2 ys.length c2].toArray) H K := by
  refine vappendD (T := T) (S := S) (lo := 0) ht hone ((st.at_ i hp).1.free hf) (Nat.zero_le _) (fun k hk => ⟨st.up (hSB k hk), fun hb => (st.in_ i hp (.inl hb)).1 (hSB k hk)⟩) hy (by unfold maxLen; omega) (by have := Nat.mul_le_mul h63 hby; omega) ?_
  intro v' H' hown hagr hsz hfr
  have hown : SlO T none_ H' 0 e v' (xs ++ ys) := hown.free hf
  obtain ⟨a', cap', rfl⟩ := hown.hull
  rw [List.length_append] at hown hfr ⊢
  refine k a' cap' H' (st.upd i hp (hagr.mono fun k hk => ⟨hk.1, fun hb => hk.2 (.inl hb)⟩) _ ⟨hown, fun k hk => hk.elim⟩ (fun k hk => ?_) (fun k hk => ?_) hsz)
  · rcases hk with hk | hk
    · rcases hfr k hk with h | h
      · exact .inl (.inl h)
      · exact .inr h
    · exact hk.elim
  · rcases hk with hk | hk
    · exact (hown.lt hk).2
    · exact hk.elim
end
end Go.VC
namespace Go.Proofs.Ytlnmhfhdjnenoaa
open Go.VC
set_option maxHeartbeats 4000000 in
theorem holdsD_p {S : Nat → Prop} {H : Heap} {a : Option Addr} {c : Nat} {xs : List Int} {q : Int} (hS : ∀ k, S k → k < H.size) (h : SlD tIk S H a c xs) :
    Pure Try.prog 39 #[.slice a xs.length c, .int .i64 q] H (.bool (decide (q ∈ xs))) := by
  have hle := h.le
  unfold maxLen at hle
  refine FnOk.of_vc Try.func39 rfl (Try.call39 _) ?_
  (conv => whnf)
  refine VLoop.mk [5] (fun i : Nat => [.int .i64 (i : Int)]) (fun i H2 => i ≤ xs.length ∧ Agr (Old H) H H2 ∧ q ∉ xs.take i) (fun i _ => xs.length - i) ?_ ?_
  · (conv => whnf)
    exact ⟨0, rfl, Nat.zero_le _, Agr.refl _ _, by simp⟩
  · rintro i H2 junk ⟨hi, ha, hno⟩
    (conv => whnf); refine VIte.mk (fun hz => ?_) (fun hz => ?_) <;> simp only [decide_eq_true_eq, decide_eq_false_iff_not] at hz
    · obtain ⟨x, hx⟩ := get_some (l := xs) (k := i) (by omega)
      (conv => whnf); refine ixr (i := i) sl47 (h.frame (ha.mono hS)) hx rfl ?_
      rintro b3 o3 c3 hS3 hc3 ⟨rfl, -⟩
      (conv => whnf); refine ld1 ct3 hc3.one trivial ?_
      by_cases he : x = q
      · have d1 : (x == q) = true := by rw [he]; simp
        (conv => whnf); rw [d1]
        (conv => whnf)
        refine ⟨?_, ha⟩
        rw [decide_eq_true (he ▸ List.mem_of_getElem? hx)]
      · have d1 : (x == q) = false := beq_eq_false_iff_ne.2 he
        (conv => whnf); rw [d1]
        (conv => whnf); rw [w64 (x := (i : Int) + 1) (by omega) (by omega)]
        refine ⟨rfl, i + 1, by simp, ⟨by omega, ha, ?_⟩, by omega⟩
        rw [take_succ_snoc hx, List.mem_append, List.mem_singleton]
        rintro (h1 | h1)
        · exact hno h1
        · exact he h1.symm
    · obtain rfl : i = xs.length := by omega
      rw [List.take_length] at hno
      (conv => whnf)
      exact ⟨by rw [decide_eq_false hno], ha⟩
/-! ### settled -/
/-- What has been gathered. -/
structure GthR (a : NfM) (L out : List Int) : Prop where
  nd : out.Nodup
  sub : ∀ q ∈ L, q ∈ out
  cl : ∀ q ∈ out, clS a (· ∈ L) q
theorem tIk_free : tIk.Free := tInt_free .i64
theorem tIk_ones : tIk.Ones := tInt_ones .i64
theorem dist_le {out : List Int} (hn : out.Nodup) (h : ∀ q ∈ out, 0 ≤ q ∧ q < 65536) : out.length ≤ 65536 := nodupI_len 65536 out hn h
theorem srtd_two {A B : List Int} {x a0 : Int} (h : ((A ++ [a0]) ++ B).Pairwise (· < ·)) (hB : ∀ b ∈ B, x < b) (hx : a0 < x) : ((A ++ [a0]) ++ x :: B).Pairwise (· < ·) := by
  obtain ⟨h1, h2, h3⟩ := List.pairwise_append.1 h
  obtain ⟨h4, h5, h6⟩ := List.pairwise_append.1 h1
  refine List.pairwise_append.2 ⟨h1, List.pairwise_cons.2 ⟨hB, h2⟩, fun p hp q hq => ?_⟩
  rcases List.mem_cons.1 hq with rfl | hq
  · rcases List.mem_append.1 hp with hp | hp
    · have := h6 p hp a0 (by simp); omega
    · rw [List.mem_singleton] at hp; subst hp; exact hx
  · exact h3 p hp q hq
set_option maxHeartbeats 16000000 in
theorem settledD_c {S S2 : Nat → Prop} {H : Heap} {v : Value} {a : NfM} {la : Option Addr} {lc : Nat} {L : List Int} (hS : ∀ k, S k → k < H.size) (hS2 : ∀ k, S2 k → k < H.size) (h : NdV S H v a) (hL : SlD tIk S2 H la lc L) (hnd : L.Nodup) (hhas : ∀ q ∈ L, a.has q = true) :
    FnOk Try.prog 43 #[v, .slice la L.length lc] H fun r H' => Agr (Old H) H H' ∧ ∃ ra rc, r = .slice ra (lstS (clS a (· ∈ L))).length rc ∧ SlO tIk none_ H' H.size 3 (.slice ra (lstS (clS a (· ∈ L))).length rc) (lstS (clS a (· ∈ L))) := by
  have hr := h.1
  have hl := h.2.1
  have hrng : ∀ q, clS a (· ∈ L) q → 0 ≤ q ∧ q < 65536 := has_rng (clS_has hhas)
  have hLl := dist_le hnd fun q hq => has_rng (X := (· ∈ L)) hhas q hq
  refine FnOk.of_vc Try.func43 rfl (Try.call43 _) ?_
  (conv => whnf); refine nd_box h fun ea ec he h1 => ?_
  subst he
  intro p H1 hp hs1 hb1 ha1
  have st1 := (St.nil H).box hp hs1 hb1 ha1
  (conv => whnf); refine vbuild0 sl47 ?_
  intro y H2 hy hs2 hb2 ha2
  have st2 := st1.new (T := tIk) (n := 0) (xs := []) hy hs2 hb2 ha2 rfl rfl (Nat.zero_le _)
  (conv => whnf); refine appSD (S := S2) tIk_free tIk_ones st2 1 sl47 rfl hS2 (hL.frame (st2.old.mono hS2)) (by simp; omega) (by decide) fun a3 c3 H3 st3 => ?_
  simp only [List.length_nil, Nat.zero_add, List.nil_append, List.set_cons_succ, List.set_cons_zero, List.cons_append] at st3 ⊢
  have hex : ∀ {out : List Int}, GthR a L out → out.length ≤ 65536 := fun g => dist_le g.nd fun q hq => hrng q (g.cl q hq)
  have hgh : ∀ {out : List Int}, GthR a L out → ∀ q ∈ out, a.has q = true := fun g q hq => clS_has hhas q (g.cl q hq)
  (conv => whnf)
  refine VLoop.mk [5, 6] (fun x : Nat × List Int × Option Addr × Nat => match x with | (i, out, a5, c5) => [.slice a5 out.length c5, .int .i64 (i : Int)])
    (fun x H4 => x.1 ≤ x.2.1.length ∧ GthR a L x.2.1 ∧ (∀ q ∈ x.2.1.take x.1, ∀ e ∈ a.edges, e.sil = true → e.fr = q → a.has e.to = true → e.to ∈ x.2.1) ∧ St H H4 [pB 34 p (nfL a (.slice ea a.edges.length ec)), pS tIk 3 x.2.2.1 x.2.1.length x.2.2.2 x.2.1]) (fun x _ => 65536 - x.1) ?_ ?_
  · (conv => whnf)
    exact ⟨(0, L, a3, c3), rfl, Nat.zero_le _, ⟨hnd, fun q hq => hq, fun q hq => clS_in hq⟩, (fun q hq => by cases hq), st3⟩
  · rintro ⟨i, out, a5, c5⟩ H5 junk5 ⟨hi, hg, hdone, st5⟩
    simp only at hi hg hdone st5
    have hol := hex hg
    (conv => whnf); refine VIte.mk (fun hz => ?_) (fun hz => ?_) <;> simp only [decide_eq_true_eq, decide_eq_false_iff_not] at hz
    · obtain ⟨q, hq⟩ := get_some (l := out) (k := i) (by omega)
      (conv => whnf)
      refine VLoop.mk [5, 7] (fun x : Nat × List Int × Option Addr × Nat => match x with | (k, more, a6, c6) => [.slice a6 (out ++ more).length c6, .int .i64 (k : Int)])
        (fun x H6 => x.1 ≤ a.edges.length ∧ GthR a L (out ++ x.2.1) ∧ (∀ e ∈ a.edges.take x.1, e.sil = true → e.fr = q → a.has e.to = true → e.to ∈ out ++ x.2.1) ∧ St H H6 [pB 34 p (nfL a (.slice ea a.edges.length ec)), pS tIk 3 x.2.2.1 (out ++ x.2.1).length x.2.2.2 (out ++ x.2.1)]) (fun x _ => a.edges.length - x.1) ?_ ?_
      · (conv => whnf)
        refine ⟨(0, [], a5, c5), by simp only [List.append_nil]; rfl, Nat.zero_le _, by simp only [List.append_nil]; exact hg, (fun e he => by cases he), by simp only [List.append_nil]; exact st5⟩
      · rintro ⟨k, more, a6, c6⟩ H6 junk6 ⟨hk, hg6, hdone6, st6⟩
        simp only at hk hg6 hdone6 st6
        have hol6 := hex hg6
        obtain ⟨out6, ho6⟩ : ∃ o, o = out ++ more := ⟨_, rfl⟩
        (conv => whnf)
        rw [← ho6] at hg6 hdone6 st6 hol6 ⊢
        have hq6 : out6[i]? = some q := by rw [ho6, List.getElem?_append_left (by omega)]; exact hq
        have h16 := h1.frame (st6.old.mono hS)
        (conv => whnf); refine fa fl34_3 ?_
        (conv => whnf); refine ld1 (v := .slice ea a.edges.length ec) ct32 (by rw [(st6.blk 0 rfl).cell]; rfl) trivial ?_
        (conv => whnf); refine VIte.mk (fun hz2 => ?_) (fun hz2 => ?_) <;> simp only [decide_eq_true_eq, decide_eq_false_iff_not] at hz2
        · obtain ⟨e, he⟩ := get_some (l := a.edges) (k := k) (by omega)
          have hem := List.mem_of_getElem? he
          have w1 : IntKind.wrap .i64 ((k : Int) + 1) = (k : Int) + 1 := w64 (by omega) (by omega)
          have stay : ∀ {H' : Heap} {more' : List Int} {a7 : Option Addr} {c7 : Nat}, GthR a L (out ++ more') → (∀ q ∈ out6, q ∈ out ++ more') → (e.sil = true → e.fr = q → a.has e.to = true → e.to ∈ out ++ more') → St H H' [pB 34 p (nfL a (.slice ea a.edges.length ec)), pS tIk 3 a7 (out ++ more').length c7 (out ++ more')] →
              ∃ y : Nat × List Int × Option Addr × Nat, [Value.slice a7 (out ++ more').length c7, .int .i64 ((k : Int) + 1)] = (match y with | (k, more, a6, c6) => [.slice a6 (out ++ more).length c6, .int .i64 (k : Int)]) ∧
                (y.1 ≤ a.edges.length ∧ GthR a L (out ++ y.2.1) ∧ (∀ e ∈ a.edges.take y.1, e.sil = true → e.fr = q → a.has e.to = true → e.to ∈ out ++ y.2.1) ∧ St H H' [pB 34 p (nfL a (.slice ea a.edges.length ec)), pS tIk 3 y.2.2.1 (out ++ y.2.1).length y.2.2.2 (out ++ y.2.1)]) ∧ a.edges.length - y.1 < a.edges.length - k := fun {H' more' a7 c7} t1 t2 t3 t4 => by
            refine ⟨(k + 1, more', a7, c7), by simp, ⟨by simp only; omega, t1, fun e' he' s1 s2 s3 => ?_, t4⟩, by simp only; omega⟩
            simp only at he'
            rw [take_succ_snoc he, List.mem_append, List.mem_singleton] at he'
            rcases he' with he' | rfl
            · exact t2 _ (hdone6 e' he' s1 s2 s3)
            · exact t3 s1 s2 s3
          (conv => whnf); refine VSeq.run ?_
          (conv => whnf); refine fa fl34_3 ?_
          (conv => whnf); refine ld1 (v := .slice ea a.edges.length ec) ct32 (by rw [(st6.blk 0 rfl).cell]; rfl) trivial ?_
          (conv => whnf); refine ixr (i := k) sl32 h16 he rfl ?_
          rintro b6 o6 c7 hS6 hc6 ⟨rfl, hok⟩
          (conv => whnf); refine ldN (cs := edDL e) (by rw [edDL_len]; exact ag83) hc6 trivial ?_
          (conv => whnf); refine valloc edDZ edZL edgeD_z rfl ?_
          intro x H7 hx hs7 hb7 ha7
          have st7 := st6.box hx hs7 hb7 ha7
          (conv => whnf); refine stNB (cs := edDL e) st7 2 (by rw [edDL_len]; rfl) rfl (by rw [edDL_len, edZL_len]; exact Nat.le_refl _) (edD_ones e) fun H8 st8 => ?_
          rw [splice_all (show (edDL e).length = edZL.length by rw [edDL_len, edZL_len])] at st8
          have hbx := st8.blk 2 rfl
          have hxl := (st8.in_ 2 rfl rfl).2
          have hpl := (st8.in_ 0 rfl rfl).2
          have hcell : ∀ (o : Nat) (u : Value), (edDL e)[o]? = some u → VC.cell H8 x o = some u := fun o u hu => by rw [hbx.cell]; exact hu
          have h18 := h1.frame (st8.old.mono hS)
          (conv => whnf); refine VDraw.quiet (Old H8) rfl (by kernel_rfl) ?_
          (conv => whnf); refine fa fl83_2 ?_
          (conv => whnf); refine ld1 (v := .bool e.sil) ct4 (hcell _ _ rfl) hxl ?_
          cases hes : e.sil with
          | false =>
            (conv => whnf)
            intro H9 ha9
            have st9 := st8.call ha9
            (conv => whnf); rw [w1]
            subst ho6
            exact ⟨rfl, stay hg6 (fun _ h => h) (fun h => by rw [hes] at h; cases h) (st9.pick [0, 1] (by decide))⟩
          | true =>
            (conv => whnf); refine fa fl83_0 ?_
            (conv => whnf); refine ld1 (v := .int .i64 e.fr) ct3 (hcell _ _ rfl) hxl ?_
            (conv => whnf); refine ixO (j := i) sl47 st8 1 rfl hq6 rfl fun b9 o9 c9 hO9 hc9 hr9 => ?_
            obtain ⟨rfl, -⟩ := hr9
            (conv => whnf); refine ld1 ct3 hc9.one hO9 ?_
            by_cases hfq : e.fr = q
            · have d1 : (e.fr == q) = true := by rw [hfq]; simp
              (conv => whnf); rw [d1]
              (conv => whnf); refine nd_load hr hl (st8.blk 0 rfl) ag34 hpl h18 fun v10 hv10 => ?_
              (conv => whnf); refine fa fl83_1 ?_
              (conv => whnf); refine ld1 (v := .int .i64 e.to) ct3 (hcell _ _ rfl) hxl ?_
              (conv => whnf); refine pureq (fun H' ha' => hasD_p (hv10.frame (ha'.mono fun k hk => st8.up (hS k hk)))) ?_
              cases hto : a.has e.to with
              | false =>
                (conv => whnf)
                intro H9 ha9
                have st9 := st8.call ha9
                (conv => whnf); rw [w1]
                subst ho6
                exact ⟨rfl, stay hg6 (fun _ h => h) (fun _ _ h => by rw [hto] at h; cases h) (st9.pick [0, 1] (by decide))⟩
              | true =>
                (conv => whnf); refine fa fl83_1 ?_
                (conv => whnf); refine ld1 (v := .int .i64 e.to) ct3 (hcell _ _ rfl) hxl ?_
                (conv => whnf); refine pureq (fun H' ha' => holdsD_p (S := Old H8) (fun k hk => old_lt ha' hk) ((st8.view 1 rfl).frame ha')) ?_
                by_cases hin : e.to ∈ out6
                · have d2 : decide (e.to ∈ out6) = true := decide_eq_true hin
                  (conv => whnf); rw [d2]
                  (conv => whnf)
                  intro H9 ha9
                  have st9 := st8.call ha9
                  (conv => whnf); rw [w1]
                  subst ho6
                  exact ⟨rfl, stay hg6 (fun _ h => h) (fun _ _ _ => hin) (st9.pick [0, 1] (by decide))⟩
                · have d2 : decide (e.to ∈ out6) = false := decide_eq_false hin
                  (conv => whnf); rw [d2]
                  (conv => whnf)
                  intro H9 ha9
                  have st9 := st8.call ha9
                  have hc9 : VC.cell H9 x 1 = some (.int .i64 e.to) := by rw [(st9.blk 2 rfl).cell]; rfl
                  (conv => whnf); refine fa fl83_1 ?_
                  (conv => whnf); refine ld1 (v := .int .i64 e.to) ct3 hc9 trivial ?_
                  (conv => whnf); refine vbuild1 sl47 [.int .i64 e.to] rfl rfl (by decide) (by decide) ?_
                  intro q21 H21 hq21 hs21 hb21 ha21
                  have htr := NfM.has_iff.1 hto
                  (conv => whnf); refine app1 (x := e.to) (st9.skip hq21 ha21) 1 sl47 rfl hb21 ⟨rfl, kint ⟨htr.1, by omega⟩⟩ rfl (by omega) (by decide) fun a'' c'' H22 st22 _ => ?_
                  (conv => whnf); rw [w1]
                  have eo : out6 ++ [e.to] = out ++ (more ++ [e.to]) := by rw [ho6, List.append_assoc]
                  have el : out6.length + 1 = (out ++ (more ++ [e.to])).length := by rw [← eo]; simp
                  rw [eo, el] at st22
                  rw [el]
                  refine ⟨rfl, stay ⟨?_, fun t ht => ?_, fun t ht => ?_⟩ (fun t ht => ?_) (fun _ _ _ => ?_) (st22.pick [0, 1] (by decide))⟩
                  · rw [← eo]
                    exact List.nodup_append.2 ⟨hg6.nd, by simp, fun s hs t ht e1 => by rw [List.mem_singleton] at ht; subst ht; subst e1; exact hin hs⟩
                  · rw [← eo]; exact List.mem_append.2 (.inl (hg6.sub t ht))
                  · rw [← eo] at ht
                    rcases List.mem_append.1 ht with ht | ht
                    · exact hg6.cl t ht
                    · rw [List.mem_singleton] at ht; subst ht
                      exact clS_shut a _ e hem hes hto (by rw [hfq]; exact hg6.cl q (List.mem_of_getElem? hq6))
                  · rw [← eo]; exact List.mem_append.2 (.inl ht)
                  · rw [← eo]; simp
            · have d1 : (e.fr == q) = false := beq_eq_false_iff_ne.2 hfq
              (conv => whnf); rw [d1]
              (conv => whnf)
              intro H9 ha9
              have st9 := st8.call ha9
              (conv => whnf); rw [w1]
              subst ho6
              exact ⟨rfl, stay hg6 (fun _ h => h) (fun _ h => absurd h hfq) (st9.pick [0, 1] (by decide))⟩
        · obtain rfl : k = a.edges.length := by omega
          rw [List.take_length] at hdone6
          (conv => whnf); rw [w64 (x := (i : Int) + 1) (by omega) (by omega)]
          refine ⟨rfl, (i + 1, out6, a6, c6), by simp, ⟨?_, hg6, fun t ht e' s0 s1 s2 s3 => ?_, st6⟩, by simp only; omega⟩
          · have := (List.getElem?_eq_some_iff.1 hq6).1
            simp only; omega
          · simp only at ht ⊢
            have ht2 : t ∈ out.take (i + 1) := by
              rw [ho6, List.take_append_of_le_length (by omega)] at ht
              exact ht
            rw [take_succ_snoc hq, List.mem_append, List.mem_singleton] at ht2
            rcases ht2 with ht2 | rfl
            · rw [ho6]; exact List.mem_append.2 (.inl (hdone t ht2 e' s0 s1 s2 s3))
            · exact hdone6 e' s0 s1 s2 s3
    · obtain rfl : i = out.length := by omega
      rw [List.take_length] at hdone
      have hsh : Shut_ a (· ∈ out) := fun e s0 s1 s2 s3 => hdone e.fr s3 e s0 s1 rfl s2
      have st4 := st5
      have hol := hex hg
      have hmem : ∀ q, q ∈ out ↔ clS a (· ∈ L) q := fun q => ⟨hg.cl q, clS_least (Y := (· ∈ out)) hg.sub hsh q⟩
      (conv => whnf)
      refine VLoop.mk [9] (fun i : Nat => [.int .i64 ((i : Int) + 1)]) (fun i H5 => (i + 1 ≤ out.length ∨ i = 0) ∧ ∃ xs : List Int, xs.Perm out ∧ (xs.take (i + 1)).Pairwise (· < ·) ∧ St H H5 [pB 34 p (nfL a (.slice ea a.edges.length ec)), pS tIk 3 a5 out.length c5 xs]) (fun i _ => out.length - i) ?_ ?_
      · (conv => whnf)
        refine ⟨0, rfl, .inr rfl, out, .refl _, ?_, st4⟩
        cases out with
        | nil => exact List.Pairwise.nil
        | cons x l => exact List.pairwise_singleton _ _
      · rintro i H5 junk5 ⟨hi, xs, hpm, hsrt, st5⟩
        have hxl : xs.length = out.length := hpm.length_eq
        (conv => whnf); refine VIte.mk (fun hz => ?_) (fun hz => ?_) <;> simp only [decide_eq_true_eq, decide_eq_false_iff_not] at hz
        · obtain ⟨x, hx⟩ := get_some (l := xs) (k := i + 1) (by omega)
          obtain ⟨C, hC⟩ : ∃ C, C = xs.drop (i + 2) := ⟨_, rfl⟩
          have hxs : xs = xs.take (i + 1) ++ x :: C := by
            rw [hC]
            have := (List.take_append_drop (i + 1) xs).symm
            rw [List.drop_eq_getElem_cons (List.getElem?_eq_some_iff.1 hx).1, (List.getElem?_eq_some_iff.1 hx).2] at this
            exact this
          have hndx : xs.Nodup := hpm.nodup_iff.2 hg.nd
          (conv => whnf)
          refine VLoop.mk [10] (fun z : List Int × List Int => match z with | (A, Bs) => [.int .i64 (A.length : Int)])
            (fun z H6 => z.1.length + z.2.length = i + 1 ∧ (z.1 ++ z.2).Pairwise (· < ·) ∧ (∀ b ∈ z.2, x < b) ∧ (z.1 ++ x :: z.2 ++ C).Perm out ∧ St H H6 [pB 34 p (nfL a (.slice ea a.edges.length ec)), pS tIk 3 a5 out.length c5 (z.1 ++ x :: z.2 ++ C)]) (fun z _ => z.1.length) ?_ ?_
          · (conv => whnf)
            refine ⟨(xs.take (i + 1), []), ?_, ?_, ?_, (fun b hb => by cases hb), ?_, ?_⟩
            · simp only [List.length_take]
              rw [show min (i + 1) xs.length = i + 1 by omega]
              simp
            · simp only [List.length_take, List.length_nil]; omega
            · simp only [List.append_nil]; exact hsrt
            · simp only [List.append_assoc, List.cons_append, List.nil_append]
              rw [← hxs]; exact hpm
            · simp only [List.append_assoc, List.cons_append, List.nil_append]
              rw [← hxs]; exact st5
          · rintro ⟨A, Bs⟩ H6 junk6 ⟨hlen, hsr, hB, hpm6, st6⟩
            simp only at hlen hsr hB hpm6 st6
            have hnd6 : (A ++ x :: Bs ++ C).Nodup := hpm6.nodup_iff.2 hg.nd
            have hfin : ∀ {H' : Heap}, (A ++ x :: Bs).Pairwise (· < ·) → St H H' [pB 34 p (nfL a (.slice ea a.edges.length ec)), pS tIk 3 a5 out.length c5 (A ++ x :: Bs ++ C)] →
                ∃ y : Nat, [Value.int .i64 (((i : Int) + 1) + 1)] = [.int .i64 ((y : Int) + 1)] ∧ ((y + 1 ≤ out.length ∨ y = 0) ∧ ∃ xs : List Int, xs.Perm out ∧ (xs.take (y + 1)).Pairwise (· < ·) ∧ St H H' [pB 34 p (nfL a (.slice ea a.edges.length ec)), pS tIk 3 a5 out.length c5 xs]) ∧ out.length - y < out.length - i := fun {H'} t1 t2 => by
              refine ⟨i + 1, by simp, ⟨.inl (by omega), _, hpm6, ?_, t2⟩, by omega⟩
              rw [List.take_append_of_le_length (by simp; omega), List.take_of_length_le (by simp; omega)]
              exact t1
            have w1 : IntKind.wrap .i64 (((i : Int) + 1) + 1) = ((i : Int) + 1) + 1 := w64 (by omega) (by omega)
            rcases List.eq_nil_or_concat A with rfl | ⟨A, a0, rfl⟩
            · have d1 : decide (0 < (([] : List Int).length : Int)) = false := by decide
              (conv => whnf); refine VDraw.quiet (Old H6) rfl (by kernel_rfl) ?_
              (conv => whnf)
              intro H7 ha7
              have st7 := st6.call ha7
              (conv => whnf); rw [w1]
              exact ⟨rfl, hfin (List.pairwise_cons.2 ⟨hB, hsr⟩) st7⟩
            · rw [List.concat_eq_append] at *
              have hAl : (A ++ [a0]).length = A.length + 1 := by simp
              have d1 : decide (0 < ((A ++ [a0]).length : Int)) = true := decide_eq_true (by rw [hAl]; omega)
              have hgx : ((A ++ [a0]) ++ x :: Bs ++ C)[A.length + 1]? = some x := by
                rw [List.append_assoc, List.getElem?_append_right (by simp)]
                simp
              have hga : ((A ++ [a0]) ++ x :: Bs ++ C)[A.length]? = some a0 := by
                rw [List.append_assoc, List.append_assoc, List.getElem?_append_right (Nat.le_refl _)]
                simp
              have hne : x ≠ a0 := fun e => by
                rw [List.append_assoc] at hnd6
                exact (List.nodup_append.1 hnd6).2.2 a0 (by simp) x (by simp) e.symm
              have hbig : A.length + 1 < 65536 + 2 := by rw [hAl] at hlen; omega
              have hcast : ((A ++ [a0]).length : Int) = ((A.length + 1 : Nat) : Int) := by rw [hAl]
              (conv => whnf)
              rw [hcast] at d1 ⊢
              have w2 : IntKind.wrap .i64 (((A.length + 1 : Nat) : Int) - 1) = (A.length : Int) := by rw [w64 (by omega) (by omega)]; omega
              (conv => whnf); refine VDraw.quiet (Old H6) rfl (by kernel_rfl) ?_
              (conv => whnf); rw [d1]
              (conv => whnf); refine ixO (j := A.length + 1) sl47 st6 1 rfl hgx rfl fun b9 o9 c9 hO9 hc9 hr9 => ?_
              obtain ⟨rfl, hxk⟩ := hr9
              (conv => whnf); refine ld1 ct3 hc9.one hO9 ?_
              (conv => whnf); rw [w2]
              (conv => whnf); refine ixO (j := A.length) sl47 st6 1 rfl hga rfl fun b8 o8 c8 hO8 hc8 hr8 => ?_
              obtain ⟨rfl, hak⟩ := hr8
              (conv => whnf); refine ld1 ct3 hc8.one hO8 ?_
              by_cases hlt : x < a0
              · have d2 : decide (x < a0) = true := decide_eq_true hlt
                (conv => whnf); rw [d2]
                (conv => whnf)
                intro H7 ha7
                have st7 := st6.call ha7
                obtain ⟨bb, rfl⟩ := st7.adr 1 rfl (by simp; omega)
                (conv => whnf); refine ixO (j := A.length + 1) sl47 st7 1 rfl hgx rfl fun b9 o9 c9 hO9 hc9 hr9 => ?_
                obtain ⟨rfl, -⟩ := hr9
                (conv => whnf); refine ld1 ct3 hc9.one trivial ?_
                (conv => whnf); rw [w2]
                (conv => whnf); refine ixO (j := A.length) sl47 st7 1 rfl hga rfl fun b8 o8 c8 hO8 hc8 hr8 => ?_
                obtain ⟨rfl, -⟩ := hr8
                (conv => whnf); refine ld1 ct3 hc8.one trivial ?_
                (conv => whnf); refine ix sl47 (by omega) (by rw [← hpm6.length_eq]; simp; omega) ?_
                (conv => whnf); refine st1O (x := a0) st7 1 ct3 rfl rfl (by rw [Nat.zero_add, Nat.mul_one, Int.toNat_natCast]) (by simp) rfl (fun _ _ => ⟨rfl, hak⟩) fun H8 st8 => ?_
                (conv => whnf); rw [w2]
                (conv => whnf); refine ix sl47 (by omega) (by rw [← hpm6.length_eq]; simp; omega) ?_
                (conv => whnf); refine st1O (x := x) st8 1 ct3 rfl rfl (by rw [Nat.zero_add, Nat.mul_one, Int.toNat_natCast]) (by simp) rfl (fun _ _ => ⟨rfl, hxk⟩) fun H9 st9 => ?_
                have hset : (((A ++ [a0]) ++ x :: Bs ++ C).set (A.length + 1) a0).set A.length x = A ++ x :: (a0 :: Bs) ++ C := by
                  rw [List.append_assoc, List.append_assoc, List.set_append_right _ _ (by omega), show A.length + 1 - A.length = 1 by omega, List.set_append_right _ _ (Nat.le_refl _), Nat.sub_self]
                  simp
                have st10 : St H H9 [pB 34 p (nfL a (.slice ea a.edges.length ec)), pS tIk 3 (some ⟨bb, 0, none⟩) out.length c5 (A ++ x :: (a0 :: Bs) ++ C)] := by
                  rw [← hset]; exact st9
                (conv => whnf); rw [w2]
                refine ⟨rfl, (A, a0 :: Bs), rfl, ⟨?_, ?_, fun b hb => ?_, ?_, st10⟩, ?_⟩
                · simp only [List.length_cons]; rw [hAl] at hlen; omega
                · simp only
                  rw [List.append_assoc] at hsr
                  exact hsr
                · rcases List.mem_cons.1 hb with rfl | hb
                  · exact hlt
                  · exact hB b hb
                · refine List.Perm.trans ?_ hpm6
                  rw [List.append_assoc, List.append_assoc, List.append_assoc]
                  exact (List.Perm.swap _ _ _).append_left A
                · simp only [hAl]; omega
              · have d2 : decide (x < a0) = false := decide_eq_false hlt
                (conv => whnf); rw [d2]
                (conv => whnf)
                intro H7 ha7
                have st7 := st6.call ha7
                (conv => whnf); rw [w1]
                exact ⟨rfl, hfin (srtd_two hsr hB (by omega)) st7⟩
        · (conv => whnf)
          have hall : xs.Pairwise (· < ·) := by
            rw [List.take_of_length_le (by omega)] at hsrt
            exact hsrt
          have hxe : xs = lstS (clS a (· ∈ L)) := lstS_uniq hrng hall fun q => (hpm.mem_iff).trans (hmem q)
          rw [← hxl] at st5 ⊢
          subst hxe
          exact ⟨st5.old, a5, c5, rfl, St.own st5 1 rfl⟩
end Go.Proofs.Ytlnmhfhdjnenoaa
