/- Parts of the proof: VPush, PKeyS, PBld, PNfa3, PNfa4, PNfa5, PNfa6, PTxt, PTre, PDp1, PDBl, PSpk04 -/
import Derived.Test.YtlnmhfhdjnenoaaGreatDoorKNq4
import Derived.Test.YtlnmhfhdjnenoaaGreatDoorKNq1
import Derived.Test.YtlnmhfhdjnenoaaGreatDoorKNq3
import Derived.Test.YtlnmhfhdjnenoaaGreatDoorKNq2
/- Appending to an own slice that is used on as1 it was; pieces in another order, bundled, put aside. -/
set_option linter.unusedVariables false
set_option linter.unusedSimpArgs false
namespace Go.VC
section
variable {B : Nat → Prop} {H0 H : Heap} {ps qs : List Pc} {p : Pc}
theorem StB.perm (st : StB B H0 H ps) (h : ps.Perm qs) : StB B H0 H qs :=
  ⟨st.old, st.lt0, st.size, fun p hp => st.oks p (h.mem_iff.2 hp), fun p hp => st.rng p (h.mem_iff.2 hp), (h.pairwise_iff fun {x y} hxy k hk hk' => hxy k hk' hk).1 st.dis⟩
theorem StB.sub (st : StB B H0 H ps) (h : qs.Sublist ps) : StB B H0 H qs :=
  ⟨st.old, st.lt0, st.size, fun p hp => st.oks p (h.subset hp), fun p hp => st.rng p (h.subset hp), st.dis.sublist h⟩
/-- Pieces as1 one. -/
def pAll (qs : List Pc) : Pc where
  foot k := ∃ q ∈ qs, q.foot k
  ok H := (∀ q ∈ qs, q.ok H) ∧ qs.Pairwise Dis
  fr h hp := ⟨fun q hq => q.fr (h.mono fun k hk => ⟨q, hq, hk⟩) (hp.1 q hq), hp.2⟩
/-- The bundle looked at by itself. -/
theorem StB.open_ (st : StB B H0 H ps) (i : Nat) (hp : ps[i]? = some (pAll qs)) : StB (fun k => k < H.size ∧ ¬ (pAll qs).foot k) H H qs := by
  obtain ⟨h1, h2⟩ := st.at_ i hp
  exact ⟨Agr.refl _ _, fun k hk => hk.1, Nat.le_refl _, h1, fun q hq k hk => ⟨fun h => h.2 ⟨q, hq, hk⟩, (st.in_ i hp ⟨q, hq, hk⟩).2⟩, h2⟩
theorem StB.close {H' : Heap} {qs' : List Pc} (st : StB B H0 H ps) (i : Nat) (hp : ps[i]? = some (pAll qs)) (st' : StB (fun k => k < H.size ∧ ¬ (pAll qs).foot k) H H' qs') : StB B H0 H' (ps.set i (pAll qs')) := by
  refine st.upd i hp st'.old _ ⟨st'.oks, st'.dis⟩ (fun k hk => ?_) (fun k hk => ?_) st'.size
  · obtain ⟨q, hq, hk⟩ := hk
    have := (st'.rng q hq k hk).1
    by_cases h1 : k < H.size
    · by_cases h2 : (pAll qs).foot k
      · exact .inl h2
      · exact absurd ⟨h1, h2⟩ this
    · exact .inr (by omega)
  · obtain ⟨q, hq, hk⟩ := hk
    exact (st'.rng q hq k hk).2
/-- The first pieces bundled. -/
theorem StB.bundle {rs : List Pc} (st : StB B H0 H (qs ++ rs)) : StB B H0 H (pAll qs :: rs) := by
  obtain ⟨d1, d2, d3⟩ := List.pairwise_append.1 st.dis
  refine ⟨st.old, st.lt0, st.size, fun p hp => ?_, fun p hp k hk => ?_, List.pairwise_cons.2 ⟨fun r hr k hk hk' => ?_, d2⟩⟩
  · rcases List.mem_cons.1 hp with rfl | hp
    · exact ⟨fun q hq => st.oks q (List.mem_append.2 (.inl hq)), d1⟩
    · exact st.oks p (List.mem_append.2 (.inr hp))
  · rcases List.mem_cons.1 hp with rfl | hp
    · obtain ⟨q, hq, hk⟩ := hk
      exact st.rng q (List.mem_append.2 (.inl hq)) k hk
    · exact st.rng p (List.mem_append.2 (.inr hp)) k hk
  · obtain ⟨q, hq, hk⟩ := hk
    exact d3 q hq r hr k hk hk'
theorem StB.unbundle {rs : List Pc} (st : StB B H0 H (pAll qs :: rs)) : StB B H0 H (qs ++ rs) := by
  obtain ⟨d1, d2⟩ := List.pairwise_cons.1 st.dis
  have h0 := st.oks _ (List.mem_cons_self ..)
  refine ⟨st.old, st.lt0, st.size, fun p hp => ?_, fun p hp k hk => ?_, List.pairwise_append.2 ⟨h0.2, d2, fun q hq r hr k hk hk' => d1 r hr k ⟨q, hq, hk⟩ hk'⟩⟩
  · rcases List.mem_append.1 hp with hp | hp
    · exact h0.1 p hp
    · exact st.oks p (List.mem_cons.2 (.inr hp))
  · rcases List.mem_append.1 hp with hp | hp
    · exact st.rng _ (List.mem_cons_self ..) k ⟨p, hp, hk⟩
    · exact st.rng p (List.mem_cons.2 (.inr hp)) k hk
end
section
variable {α : Type} {T : Ty α} {e : TypeId} {a : Option Addr} {n cap : Nat} {xs : List α} {B : Nat → Prop} {H0 H : Heap} {p1 p2 : Pc} {rest : List Pc}
end
end Go.VC
/- slices.Sorted of maps.Keys of a map of ints: the walk. -/
set_option linter.unusedVariables false
set_option linter.unusedSimpArgs false
set_option maxRecDepth 100000
namespace Go.VC
theorem VRound.mk2 {P : Program} {l : Nat} {args : Array Value} {H : Heap} {K : Value → Heap → Prop} (fn : FuncId) (tmps : Array Value) (ps : Array Tmp) (assign body : Code) (D : Nat) (rec : LoopState → Option Code → Loop)
    (hrec : rec = fun st pe => { state := st, pending := pe, fn := fn, tmps := tmps, params := ps, assign := assign, body := body, defers := D }) (hr : H[l]? = some (.loop (rec .ready none))) (hs : args.size = ps.size)
    (h : normK (wrs tmps.toList ps.toList args.toList) fun fr => vcI P (some l) assign fr [] H (fun fr1 ds1 H1 => ds1 = [] ∧ H1[l]? = some (.loop (rec .ready none)) ∧
      vcI P (some l) body fr1 [] (H1.setIfInBounds l (.loop (rec .busy none))) (fun _ _ H2 => H2[l]? = some (.loop (rec .busy none)) ∧ K (.bool true) (H2.setIfInBounds l (.loop (rec .ready none)))) []
        (fun _ _ H2 => H2[l]? = some (.loop (rec .busy none)) ∧ K (.bool false) (H2.setIfInBounds l (.loop (rec .done (some .ret)))))) [] (fun _ _ _ => False)) : VRound P l args H K := by
  subst hrec
  exact VRound.mk _ hr rfl hs h
theorem VRound_mono {P : Program} {l : Nat} {args : Array Value} {H : Heap} {K K' : Value → Heap → Prop} (h : VRound P l args H K) (k : ∀ v H', K v H' → K' v H') : VRound P l args H K' :=
  ⟨fun w hw => by
    obtain ⟨f, t, a, b, h1, h2⟩ := h.out w hw
    exact ⟨f, t, a, b, h1, h2.mono fun e w' ⟨v, h3, h4, h5⟩ => ⟨v, h3, h4, k _ _ h5⟩⟩⟩
/-- The record of a loop over a function. -/
def pLp (L : Nat) (r : Loop) : Pc := ⟨fun k => k = L, fun H => H[L]? = some (.loop r), fun h hp => (h L rfl).trans hp⟩
/-- Marks: blocks for deferred calls, none of which holds any. -/
def pDs (ds : List Nat) : Pc := ⟨fun k => k ∈ ds, fun H => ∀ D ∈ ds, H[D]? = some (.deferred (some [])), fun h hp D hD => (h D hD).trans (hp D hD)⟩
section
variable {B : Nat → Prop} {H0 H : Heap} {ps rest : List Pc}
theorem StB.lpSet {L : Nat} {r : Loop} (st : StB B H0 H ps) (i : Nat) (hp : ps[i]? = some (pLp L r)) (r' : Loop) : StB B H0 (H.setIfInBounds L (.loop r')) (ps.set i (pLp L r')) := by
  have hl : H[L]? = some (.loop r) := st.at_ i hp
  have hlt := (Array.getElem?_eq_some_iff.1 hl).1
  refine st.upd i hp (fun k hk => ?_) _ ?_ (fun k hk => .inl hk) (fun k hk => ?_) (by simp)
  · have : k ≠ L := fun e => hk.2 e
    rw [Array.getElem?_setIfInBounds_ne (Ne.symm this)]
  · show (H.setIfInBounds L _)[L]? = _
    rw [Array.getElem?_setIfInBounds_self_of_lt hlt]
  · have : k = L := hk
    subst this
    simpa using hlt
theorem StB.push (st : StB B H0 H ps) (o : Obj) (p : Pc) (hf : ∀ k, p.foot k → k = H.size) (hok : p.ok (H.push o)) : StB B H0 (H.push o) (ps ++ [p]) :=
  st.add (heap_push_old H o) p hok fun k hk => by have := hf k hk; subst this; simp
theorem StB.pushMark (st : StB B H0 H ps) : StB B H0 (H.push (.deferred (some []))) (ps ++ [pDs [H.size]]) :=
  st.push _ _ (fun k hk => by simpa [pDs] using hk) (fun D hD => by rw [List.mem_singleton] at hD; subst hD; simp)
theorem StB.pushLoop (st : StB B H0 H ps) (r : Loop) : StB B H0 (H.push (.loop r)) (ps ++ [pLp H.size r]) :=
  st.push _ _ (fun k hk => hk) (by show (H.push _)[H.size]? = _; simp)
theorem StB.dsOff {ds : List Nat} {H' : Heap} (st : StB B H0 H (pDs ds :: rest)) (ha : Agr (fun k => k ∉ ds) H H') (hs : H'.size = H.size) : StB B H0 H' rest := by
  have := st.upd 0 (p := pDs ds) rfl (ha.mono fun k hk => hk.2) ⟨fun _ => False, fun _ => True, fun _ _ => trivial⟩ trivial (fun k hk => hk.elim) (fun k hk => hk.elim) (by omega)
  exact this.sub (List.sublist_cons_self _ _)
/-- Some of the first n pieces, in another order, and the others. -/
theorem StB.pickN (st : StB B H0 H ps) (n : Nat) (is : List Nat) (hn : is.Nodup) : StB B H0 H ((is.filterMap fun i => (ps.take n)[i]?) ++ ps.drop n) := by
  have e := List.take_append_drop n ps
  rw [← e] at st
  generalize ps.take n = qs at *
  generalize ps.drop n = rs at *
  obtain ⟨d1, d2, d3⟩ := List.pairwise_append.1 st.dis
  have st1 : StB B H0 H qs := st.sub (List.sublist_append_left _ _)
  have st2 := st1.pick is hn
  have hm : ∀ q, q ∈ is.filterMap (fun i => qs[i]?) → q ∈ qs := fun q hq => by
    obtain ⟨i, -, hi⟩ := List.mem_filterMap.1 hq
    exact List.mem_of_getElem? hi
  refine ⟨st.old, st.lt0, st.size, fun q hq => ?_, fun q hq k hk => ?_, List.pairwise_append.2 ⟨st2.dis, d2, fun q hq r hr => d3 q (hm q hq) r hr⟩⟩
  · rcases List.mem_append.1 hq with hq | hq
    · exact st2.oks q hq
    · exact st.oks q (List.mem_append.2 (.inr hq))
  · rcases List.mem_append.1 hq with hq | hq
    · exact st2.rng q hq k hk
    · exact st.rng q (List.mem_append.2 (.inr hq)) k hk
end
end Go.VC
namespace Go.Proofs.YtlnmhfhdjnenoaaGreatDoor
open Go.VC
abbrev kI : Int → Value := Value.int .i64
theorem keyIW : KeyW Tryz.prog 3 (anyK (α := Int)) kI := KeyW.ofE Tryz.underlying3 (keyI .i64)
theorem mapII : MapTW Tryz.prog 149 3 3 (.int .i64 0) := ⟨rfl, rfl⟩
abbrev Dom (mm : Int → Option Value) : Int → Prop := fun q => (mm q).isSome = true
abbrev tIk : Ty Int := tInt .i64
/-- What a call of yield does: the int is put to the others. -/
def YOkI (l : Nat) (ok : Int → Prop) (Q : List Int → Pc → Prop) : Prop :=
  ∀ {B : Nat → Prop} {H0 H : Heap} {ps : List Pc} (st : StB B H0 H ps) (i : Nat) (p : Pc) (pre : List Int) (x : Int), ps[i]? = some p → Q pre p → pre.length < 65536 → ok x →
    VRound Tryz.prog l #[.int .i64 x] H fun v H' => v = .bool true ∧ ∃ p', Q (pre ++ [x]) p' ∧ StB B H0 H' (ps.set i p')
theorem nodupI_len : ∀ (n : Nat) (l : List Int), l.Nodup → (∀ x ∈ l, 0 ≤ x ∧ x < (n : Int)) → l.length ≤ n
  | 0, l, _, h => by
    cases l with
    | nil => exact Nat.le_refl _
    | cons x l => have := h x List.mem_cons_self; omega
  | n + 1, l, hd, h => by
    have h1 := nodupI_len n (l.filter fun x => decide (x < (n : Int))) (hd.filter _) (fun x hx => by
      obtain ⟨h1, h2⟩ := List.mem_filter.1 hx
      exact ⟨(h x h1).1, by simpa using h2⟩)
    have h2 : l.length ≤ (l.filter fun x => decide (x < (n : Int))).length + 1 := by
      clear h1
      induction l with
      | nil => simp
      | cons x l ih =>
        rw [List.nodup_cons] at hd
        by_cases hx : x < (n : Int)
        · rw [List.filter_cons_of_pos (by simpa using hx)]
          have := ih hd.2 (fun y hy => h y (List.mem_cons_of_mem _ hy))
          simp only [List.length_cons]; omega
        · rw [List.filter_cons_of_neg (by simpa using hx)]
          have hxn : x = (n : Int) := by have := h x List.mem_cons_self; omega
          have : l.filter (fun x => decide (x < (n : Int))) = l := List.filter_eq_self.2 fun y hy => by
            have h3 := h y (List.mem_cons_of_mem _ hy)
            have : y ≠ x := fun e => hd.1 (e ▸ hy)
            rw [decide_eq_true_eq]; omega
          rw [this]; simp
    omega
set_option maxHeartbeats 4000000 in
theorem keys1_c {B : Nat → Prop} {H0 H : Heap} {l nb bx : Nat} {Q : List Int → Pc → Prop} {mm : Int → Option Value} {rest : List Pc} {p : Pc} (hr : ∀ q, Dom mm q → 0 ≤ q ∧ q < 65536) (hy : YOkI l (fun x => 0 ≤ x ∧ x < 65536) Q)
    (st : StB B H0 H (p :: pMW anyK kI nb mm :: pB 149 bx [.map (some nb)] :: rest)) (hQ : Q [] p) :
    FnOk Tryz.prog 90 #[.func (.yield l) #[] #[], .pointer (some ⟨bx, 0, none⟩)] H fun _ H' => ∃ ks p', Q ks p' ∧ ks.Nodup ∧ (∀ q, q ∈ ks ↔ Dom mm q) ∧ StB B H0 H' (p' :: pMW anyK kI nb mm :: pB 149 bx [.map (some nb)] :: rest) := by
  refine FnOk.of_vcI Tryz.func90 rfl (Tryz.call90 _) ?_
  (conv => whnf); refine ld1 (v := .map (some nb)) ct149 (by rw [(st.blk 2 rfl).cell]; rfl) trivial ?_
  (conv => whnf); refine mrangeP st 1 mapII rfl fun r n H1 st1 => ?_
  (conv => whnf)
  refine VLoopD.mk [] (fun _ : List Int × Nat => []) (fun x ds H2 => ds = [] ∧ x.1.Nodup ∧ (∀ q ∈ x.1, Dom mm q) ∧ ∃ D last p', (∀ q, D q ↔ q ∈ x.1) ∧ Q x.1 p' ∧ StB B H0 H2 (p' :: pIW anyK kI nb r mm D last x.2 :: pB 149 bx [.map (some nb)] :: rest)) (fun x _ => x.2) ?_ ?_
  · (conv => whnf)
    exact ⟨([], n), rfl, rfl, List.Pairwise.nil, (fun q h => by cases h), _, none, p, fun q => ⟨fun h => h.elim, fun h => by cases h⟩, hQ, st1⟩
  · rintro ⟨ks, n2⟩ ds H2 junk ⟨rfl, hnd, hin, D, last, p', hD, hQ2, st2⟩
    simp only at hnd hin hD hQ2 st2
    have hlen := nodupI_len 65536 ks hnd fun x hx => hr x (hin x hx)
    (conv => whnf); refine mnextP st2 1 keyIW.inj rfl (fun hall => ?_) fun q v H3 n3 hq hnD hlt st3 => ?_
    · (conv => whnf); refine VRet.nil ?_
      (conv => whnf)
      exact ⟨ks, p', hQ2, hnd, fun q => ⟨hin q, fun h => (hD q).1 (hall q h)⟩, st2.iterEnd 1 rfl⟩
    · have hdq : Dom mm q := by unfold Dom; rw [hq]; rfl
      have hqk : q ∉ ks := fun h => hnD ((hD q).2 h)
      have hlt2 : ks.length < 65536 := by
        have := nodupI_len 65536 (ks ++ [q]) (List.nodup_append.2 ⟨hnd, by simp, fun x hx y hy e => by rw [List.mem_singleton] at hy; subst hy; subst e; exact hqk hx⟩) fun x hx => by
          rcases List.mem_append.1 hx with h | h
          · exact hr x (hin x h)
          · rw [List.mem_singleton] at h; subst h; exact hr x hdq
        simp at this
        omega
      (conv => whnf); refine mhere (st3.iterW 1 rfl) keyIW.inj hq ?_
      (conv => whnf); refine VRound_mono (hy st3 0 p' ks q rfl hQ2 hlt2 (hr q hdq)) fun v' H4 h4 => ?_
      obtain ⟨rfl, p2, hQ4, st4⟩ := h4
      (conv => whnf)
      refine ⟨rfl, (ks ++ [q], n3), rfl, ⟨rfl, List.nodup_append.2 ⟨hnd, by simp, fun x hx y hy e => by rw [List.mem_singleton] at hy; subst hy; subst e; exact hqk hx⟩, fun x hx => ?_, _, _, p2, fun x => ?_, hQ4, st4⟩, hlt⟩
      · rcases List.mem_append.1 hx with h | h
        · exact hin x h
        · rw [List.mem_singleton] at h; subst h; exact hdq
      · simp only [List.mem_append, List.mem_singleton, hD]
/-- What the loop's body holds. -/
def SQ (L : Nat) (rec : LoopState → Option Code → Loop) (b : Nat) (pre : List Int) (p : Pc) : Prop :=
  ∃ a cap, p = pAll [pLp L (rec .ready none), pB 54 b [.slice a pre.length cap], pS tIk 3 a pre.length cap pre]
theorem kint {x : Int} (h : 0 ≤ x ∧ x < 65536) : inK .i64 x := ⟨by simp [IntKind.min, IntKind.signed, IntKind.bits]; omega, by simp [IntKind.max, IntKind.signed, IntKind.bits]; omega⟩
set_option maxHeartbeats 4000000 in
theorem appendSeq_c {B : Nat → Prop} {H0 H : Heap} {nb bx : Nat} {mm : Int → Option Value} {rest : List Pc} (hr : ∀ q, Dom mm q → 0 ≤ q ∧ q < 65536)
    (st : StB B H0 H (pMW anyK kI nb mm :: pB 149 bx [.map (some nb)] :: rest)) :
    FnOk Tryz.prog 103 #[.slice none 0 0, .func (.func 90) #[] #[.pointer (some ⟨bx, 0, none⟩)]] H fun r H' => ∃ ks a cap, r = .slice a ks.length cap ∧ ks.Nodup ∧ (∀ q, q ∈ ks ↔ Dom mm q) ∧ StB B H0 H' (pS tIk 3 a ks.length cap ks :: pMW anyK kI nb mm :: pB 149 bx [.map (some nb)] :: rest) := by
  refine FnOk.of_vcI Tryz.func103 rfl (Tryz.call103 _) ?_
  (conv => whnf); refine vbox [.slice none 0 0] rfl ?_
  intro b2 H1 hb2 hs1 hk1 ha1
  have st1 : StB B H0 H1 (pB 54 b2 [.slice none 0 0] :: pMW anyK kI nb mm :: pB 149 bx [.map (some nb)] :: rest) := (st.box hb2 hs1 hk1 ha1).perm (List.perm_append_singleton _ _)
  have st2 : StB B H0 H1 (pS tIk 3 none 0 0 [] :: pB 54 b2 [.slice none 0 0] :: pMW anyK kI nb mm :: pB 149 bx [.map (some nb)] :: rest) := (st1.nils tIk 3).perm (List.perm_append_singleton _ _)
  (conv => whnf); refine VRF.mk 90 #[.pointer (some ⟨bx, 0, none⟩)] rfl ?_
  rintro rec ⟨fn, hrec⟩
  have st3 := st2.pushMark.perm (List.perm_append_singleton _ _)
  have st4 := (st3.pushLoop (rec .ready none)).perm (List.perm_append_singleton _ _)
  rw [Array.size_push] at st4
  have st5 : StB B H0 _ ([pLp (H1.size + 1) (rec .ready none), pB 54 b2 [.slice none 0 0], pS tIk 3 none 0 0 []] ++ (pMW anyK kI nb mm :: pB 149 bx [.map (some nb)] :: pDs [H1.size] :: rest)) := st4.pickN 6 [0, 3, 2, 4, 5, 1] (by decide)
  have st6 := st5.bundle
  have hy : YOkI (H1.size + 1) (fun x => 0 ≤ x ∧ x < 65536) (SQ (H1.size + 1) rec b2) := by
    intro B' H0' H'' ps st i p pre x hp hQ hle hx
    obtain ⟨a', cap', rfl⟩ := hQ
    have so := st.open_ i hp
    refine VRound.mk2 _ _ _ _ _ _ rec hrec (so.at_ 0 rfl) rfl ?_
    (conv => whnf)
    refine ⟨rfl, so.at_ 0 rfl, ?_⟩
    have so1 := so.lpSet 0 rfl (rec .busy none)
    (conv => whnf); refine ld1 (v := .slice a' pre.length cap') ct54 (by rw [(so1.blk 1 rfl).cell]; rfl) trivial ?_
    (conv => whnf); refine vbuild1 sl54 [.int .i64 x] rfl rfl (by decide) (by decide) ?_
    intro q21 H21 hq21 hs21 hb21 ha21
    (conv => whnf); refine app1 (x := x) (so1.skip hq21 ha21) 2 sl54 rfl hb21 ⟨rfl, kint hx⟩ rfl (by omega) (by decide) fun a'' c'' H22 so2 _ => ?_
    (conv => whnf); refine st1B so2 1 ct54 rfl (by simp) rfl fun H23 so3 => ?_
    (conv => whnf)
    have so4 := so3.lpSet 0 rfl (rec .ready none)
    have el : pre.length + 1 = (pre ++ [x]).length := by simp
    refine ⟨so3.at_ 0 rfl, rfl, _, ⟨a'', c'', rfl⟩, ?_⟩
    rw [el] at so4
    exact st.close i hp so4
  refine (keys1_c (Q := SQ (H1.size + 1) rec b2) hr hy st6 ⟨none, 0, rfl⟩).mono fun _ H8 hE => ?_
  obtain ⟨ks, p1, ⟨a1, c1, rfl⟩, hnd, hin, st7⟩ := hE
  have st8 := st7.unbundle
  refine ⟨.ready, none, by decide, st8.at_ 0 rfl, .inl ⟨rfl, ?_⟩⟩
  have st9 := st8.lpSet 0 rfl (rec .exhausted none)
  have st10 : StB B H0 _ (pDs [H1.size] :: pS tIk 3 a1 ks.length c1 ks :: pMW anyK kI nb mm :: pB 149 bx [.map (some nb)] :: pB 54 b2 [.slice a1 ks.length c1] :: rest) := st9.pickN 6 [5, 2, 3, 4, 1] (by decide)
  (conv => whnf); refine ld1 (v := .slice a1 ks.length c1) ct54 (by rw [(st10.blk 4 rfl).cell]; rfl) trivial ?_
  (conv => whnf)
  refine VRet.in_ (by simp) (st10.at_ 0 rfl) fun H'' ha hs => ?_
  have st11 := st10.dsOff ha hs
  (conv => whnf)
  exact ⟨ks, a1, c1, rfl, hnd, hin, st11.pickN 4 [0, 1, 2] (by decide)⟩
theorem sorted_srt {ks : List Int} (h : ks.Nodup) : (ks.mergeSort fun x y => decide (x ≤ y)).Pairwise (· < ·) := by
  have h1 : (ks.mergeSort fun x y => decide (x ≤ y)).Pairwise (· ≤ ·) := (List.pairwise_mergeSort (fun a b c h1 h2 => by simp only [decide_eq_true_eq] at *; omega) (fun a b => by simp only [Bool.or_eq_true, decide_eq_true_eq]; omega) _).imp fun h => of_decide_eq_true h
  have h2 : (ks.mergeSort fun x y => decide (x ≤ y)).Nodup := (List.mergeSort_perm _ _).nodup_iff.2 h
  exact (h1.and h2).imp fun ⟨h3, h4⟩ => by omega
set_option maxHeartbeats 4000000 in
/-- The keys in order, as1 a list of the call's own. -/
theorem sortedKeys_c {B : Nat → Prop} {H0 H : Heap} {nb bx : Nat} {mm : Int → Option Value} {rest : List Pc} (hr : ∀ q, Dom mm q → 0 ≤ q ∧ q < 65536)
    (st : StB B H0 H (pMW anyK kI nb mm :: pB 149 bx [.map (some nb)] :: rest)) :
    FnOk Tryz.prog 67 #[.func (.func 90) #[] #[.pointer (some ⟨bx, 0, none⟩)]] H fun r H' => ∃ ks a cap, r = .slice a ks.length cap ∧ ks.Pairwise (· < ·) ∧ (∀ q, q ∈ ks ↔ Dom mm q) ∧ StB B H0 H' (pS tIk 3 a ks.length cap ks :: pMW anyK kI nb mm :: pB 149 bx [.map (some nb)] :: rest) := by
  refine FnOk.of_vc Tryz.func67 rfl (Tryz.call67 _) ?_
  (conv => whnf); refine VCall.mk (R := fun r H' => ∃ ks a cap, r = .slice a ks.length cap ∧ ks.Nodup ∧ (∀ q, q ∈ ks ↔ Dom mm q) ∧ StB B H0 H' (pS tIk 3 a ks.length cap ks :: pMW anyK kI nb mm :: pB 149 bx [.map (some nb)] :: rest)) ?_ ?_
  · refine FnOk.of_vc Tryz.func88 rfl (Tryz.call88 _) ?_
    (conv => whnf); refine VCall.mk (appendSeq_c hr st) ?_
    rintro _ H1 ⟨ks, a, cap, rfl, h1, h2, h3⟩
    (conv => whnf)
    exact ⟨ks, a, cap, rfl, h1, h2, h3⟩
  · rintro _ H1 ⟨ks, a, cap, rfl, hnd, hin, st1⟩
    have hlen := nodupI_len 65536 ks hnd fun x hx => hr x ((hin x).1 hx)
    (conv => whnf); refine sortI sorts_ st1 0 rfl (by omega) fun H2 st2 => ?_
    (conv => whnf)
    have el : (ks.mergeSort fun x y => decide (x ≤ y)).length = ks.length := List.length_mergeSort _
    refine ⟨ks.mergeSort fun x y => decide (x ≤ y), a, cap, by rw [el], sorted_srt hnd, fun q => by rw [List.mem_mergeSort]; exact hin q, ?_⟩
    rw [el]
    exact st2
end Go.Proofs.YtlnmhfhdjnenoaaGreatDoor
/- Trees of expressions; the builder of layer 4 over trees without signs: the plain law and the walks. -/
set_option linter.unusedVariables false
set_option linter.unusedSimpArgs false
set_option maxRecDepth 100000
namespace Go.Proofs.YtlnmhfhdjnenoaaGreatDoor
open Go.VC
/-- How many states a tree's automaton has. -/
def stM : ReM → Nat
  | .eps => 2
  | .cls _ => 2
  | .cat a b => stM a + stM b
  | .alt a b => stM a + stM b + 2
  | .star a => stM a + 2
  | .and_ _ _ => 0
  | .minus _ _ => 0
def silE (p q : Nat) : EdM := ⟨p, q, true, 0#256⟩
def setE (p q : Nat) (s : BitVec 256) : EdM := ⟨p, q, false, s⟩
/-- What a tree's rules make from state n on: the start, the end, the edges. -/
def bldM : ReM → Nat → Nat × Nat × List EdM
  | .eps, n => (n, n + 1, [silE n (n + 1)])
  | .cls s, n => (n, n + 1, [setE n (n + 1) s])
  | .cat a b, n => ((bldM a n).1, (bldM b (n + stM a)).2.1, (bldM a n).2.2 ++ (bldM b (n + stM a)).2.2 ++ [silE (bldM a n).2.1 (bldM b (n + stM a)).1])
  | .alt a b, n => (n, n + 1 + stM a + stM b, (bldM a (n + 1)).2.2 ++ (bldM b (n + 1 + stM a)).2.2 ++
      [silE n (bldM a (n + 1)).1, silE n (bldM b (n + 1 + stM a)).1, silE (bldM a (n + 1)).2.1 (n + 1 + stM a + stM b), silE (bldM b (n + 1 + stM a)).2.1 (n + 1 + stM a + stM b)])
  | .star a, n => (n, n + 1 + stM a, (bldM a (n + 1)).2.2 ++ [silE n (bldM a (n + 1)).1, silE n (n + 1 + stM a), silE (bldM a (n + 1)).2.1 (bldM a (n + 1)).1, silE (bldM a (n + 1)).2.1 (n + 1 + stM a)])
  | .and_ _ _, n => (n, n, [])
  | .minus _ _, n => (n, n, [])
theorem bldM_len : ∀ (r : ReM), r.plain = true → ∀ n, (bldM r n).2.2.length + 1 ≤ 2 * stM r
  | .eps, _, n => by simp [bldM, stM]
  | .cls _, _, n => by simp [bldM, stM]
  | .cat a b, h, n => by
    simp only [ReM.plain, Bool.and_eq_true] at h
    have h1 := bldM_len a h.1 n
    have h2 := bldM_len b h.2 (n + stM a)
    simp only [bldM, stM, List.length_append, List.length_cons, List.length_nil]; omega
  | .alt a b, h, n => by
    simp only [ReM.plain, Bool.and_eq_true] at h
    have h1 := bldM_len a h.1 (n + 1)
    have h2 := bldM_len b h.2 (n + 1 + stM a)
    simp only [bldM, stM, List.length_append, List.length_cons, List.length_nil]; omega
  | .star a, h, n => by
    have h1 := bldM_len a h (n + 1)
    simp only [bldM, stM, List.length_append, List.length_cons, List.length_nil]; omega
  | .and_ _ _, h, _ => by cases h
  | .minus _ _, h, _ => by cases h
/-- The ends lie among the states. -/
theorem bldM_in : ∀ (r : ReM), r.plain = true → ∀ n, n ≤ (bldM r n).1 ∧ (bldM r n).1 < n + stM r ∧ n ≤ (bldM r n).2.1 ∧ (bldM r n).2.1 < n + stM r
  | .eps, _, n => by simp only [bldM, stM]; omega
  | .cls _, _, n => by simp only [bldM, stM]; omega
  | .cat a b, h, n => by
    simp only [ReM.plain, Bool.and_eq_true] at h
    have h1 := bldM_in a h.1 n
    have h2 := bldM_in b h.2 (n + stM a)
    simp only [bldM, stM]; omega
  | .alt a b, h, n => by simp only [bldM, stM]; omega
  | .star a, h, n => by simp only [bldM, stM]; omega
  | .and_ _ _, h, _ => by cases h
  | .minus _ _, h, _ => by cases h
/-! ### the builder -/
def bdL (n : Nat) (v sub : Value) : List Value := [.int .i64 (n : Int), .int .i64 0, .int .i64 0, v, sub, .int .i64 0]
abbrev tBd : TypeId := 118
section
variable {B : Nat → Prop} {H0 H : Heap} {rest : List Pc} {bb n : Nat} {v sub : Value}
theorem bstate_v {K : Value → Heap → Prop} (st : StB B H0 H (pB tBd bb (bdL n v sub) :: rest)) (hn : n ≤ 2000000) (k : ∀ H', StB B H0 H' (pB tBd bb (bdL (n + 1) v sub) :: rest) → K (.int .i64 (n : Int)) H') :
    VCall Tryz.prog 70 #[.pointer (some ⟨bb, 0, none⟩)] H K := by
  refine VCall.mk (R := fun r H' => r = .int .i64 (n : Int) ∧ StB B H0 H' (pB tBd bb (bdL (n + 1) v sub) :: rest)) ?_ fun r H' ⟨h1, h2⟩ => by rw [h1]; exact k H' h2
  refine FnOk.of_vc Tryz.func70 rfl (Tryz.call70 _) ?_
  (conv => whnf); refine fa fl118_0 ?_
  (conv => whnf); refine fa fl37_0 ?_
  (conv => whnf); refine ld1 (v := .int .i64 (n : Int)) ct3 (by rw [(st.blk 0 rfl).cell]; rfl) trivial ?_
  (conv => whnf); rw [w64 (x := (n : Int) + 1) (by omega) (by omega)]
  (conv => whnf); refine fa fl118_0 ?_
  (conv => whnf); refine fa fl37_0 ?_
  (conv => whnf); refine st1B st 0 ct3 rfl (show 0 < 6 by decide) rfl fun H1 st1 => ?_
  (conv => whnf); refine fa fl118_0 ?_
  (conv => whnf); refine fa fl37_0 ?_
  (conv => whnf); refine ld1 (v := .int .i64 ((n : Int) + 1)) ct3 (by rw [(st1.blk 0 rfl).cell]; rfl) trivial ?_
  (conv => whnf); rw [w64 (x := (n : Int) + 1 - 1) (by omega) (by omega), show (n : Int) + 1 - 1 = (n : Int) by omega]
  (conv => whnf)
  exact ⟨rfl, st1⟩
theorem edge_ok {p q : Nat} (hp : p ≤ 2000000) (hq : q ≤ 2000000) (s : Bool) (t : BitVec 256) : (EdM.mk p q s t).Ok := ⟨inI64 (by omega), inI64 (by omega)⟩
theorem sil_build (p q : Nat) {S : Nat → Prop} {H : Heap} {K : Value → Prop} (k : K (.agg (edL (silE p q)).toArray)) :
    VDet Tryz.prog (Instr.build 104 [(0, .int .i64 (p : Int)), (1, .int .i64 (q : Int)), (2, .bool true)].toArray) S H K := by
  have e : edL (silE p q) = [.int .i64 (p : Int), .int .i64 (q : Int), .bool true, .int .u64 0, .int .u64 0, .int .u64 0, .int .u64 0] := by
    have h : ∀ i, wd 0#256 i = 0 := fun i => by unfold wd; simp
    simp [edL, silE, h]
  rw [e] at k
  exact vbuildS Tryz.underlying104 rfl _ edge_z _ (by kernel_rfl) k
theorem set_fill (x y : Int) (w0 w1 w2 w3 : Value) {S : Nat → Prop} {H : Heap} {K : Value → Prop} (h0 : w0.oneCell' = true) (h1 : w1.oneCell' = true) (h2 : w2.oneCell' = true) (h3 : w3.oneCell' = true) (k : K (.agg [.int .i64 x, .int .i64 y, .bool false, w0, w1, w2, w3].toArray)) :
    VDet Tryz.prog (Instr.build 104 [(0, .int .i64 x), (1, .int .i64 y), (3, .agg [w0, w1, w2, w3].toArray)].toArray) S H K :=
  vbuildS Tryz.underlying104 rfl _ edge_z [.int .i64 x, .int .i64 y, .bool false, w0, w1, w2, w3] (by kernel_rfl) k
theorem set_build (p q : Nat) (s : BitVec 256) {S : Nat → Prop} {H : Heap} {K : Value → Prop} (k : K (.agg (edL (setE p q s)).toArray)) :
    VDet Tryz.prog (Instr.build 104 [(0, .int .i64 (p : Int)), (1, .int .i64 (q : Int)), (3, .agg (setL s).toArray)].toArray) S H K := by
  unfold setE edL at k
  unfold setL
  exact set_fill _ _ _ _ _ _ rfl rfl rfl rfl k
theorem bsil_v {K : Value → Heap → Prop} {a : Option Addr} {c p q : Nat} {es : List EdM} (st : StB B H0 H (pB tBd bb (bdL n (.slice a es.length c) sub) :: pS tEd 104 a es.length c es :: rest)) (hp : p ≤ 2000000) (hq : q ≤ 2000000) (hl : es.length + 1 ≤ 4194304)
    (k : ∀ a' c' H', StB B H0 H' (pB tBd bb (bdL n (.slice a' (es ++ [silE p q]).length c') sub) :: pS tEd 104 a' (es ++ [silE p q]).length c' (es ++ [silE p q]) :: rest) → K (.tuple #[]) H') :
    VCall Tryz.prog 71 #[.pointer (some ⟨bb, 0, none⟩), .int .i64 (p : Int), .int .i64 (q : Int)] H K := by
  refine VCall.mk (R := fun r H' => r = .tuple #[] ∧ ∃ a' c', StB B H0 H' (pB tBd bb (bdL n (.slice a' (es ++ [silE p q]).length c') sub) :: pS tEd 104 a' (es ++ [silE p q]).length c' (es ++ [silE p q]) :: rest)) ?_ fun r H' ⟨h1, a', c', h2⟩ => by rw [h1]; exact k a' c' H' h2
  refine FnOk.of_vc Tryz.func71 rfl (Tryz.call71 _) ?_
  (conv => whnf); refine fa fl118_0 ?_
  (conv => whnf); refine fa fl37_3 ?_
  (conv => whnf); refine ld1 (v := .slice a es.length c) ct35 (by rw [(st.blk 0 rfl).cell]; rfl) trivial ?_
  (conv => whnf); refine sil_build p q ?_
  (conv => whnf); refine vbuild1 sl35 (edL (silE p q)) rfl rfl (by decide) (by decide) ?_
  intro y H1 hy hs1 hb1 ha1
  have st1 := st.skip hy ha1
  (conv => whnf); refine appO (ys := [silE p q]) st1 1 sl35 rfl (hb1.cells (o := 0) (cs := edL (silE p q)) fun j v hv => by rw [Nat.zero_add]; exact hv) (Ty.reps_one ⟨rfl, edge_ok hp hq _ _⟩) rfl (fun u hu => List.all_eq_true.1 (ed_ones _) u hu) (by simpa using hl) (by decide) fun a9 c9 H9 st9 _ => ?_
  (conv => whnf); refine fa fl118_0 ?_
  (conv => whnf); refine fa fl37_3 ?_
  (conv => whnf); refine st1B st9 0 ct35 rfl (show 3 < 6 by decide) rfl fun H10 st10 => ?_
  (conv => whnf)
  have el : es.length + [silE p q].length = (es ++ [silE p q]).length := by simp
  rw [el] at st10
  exact ⟨rfl, a9, c9, st10⟩
theorem btake_v {K : Value → Heap → Prop} {a : Option Addr} {c : Nat} {es : List EdM} {s : BitVec 256} (st : StB B H0 H (pB tBd bb (bdL n (.slice a es.length c) sub) :: pS tEd 104 a es.length c es :: rest)) (hn : n ≤ 1000000) (hl : es.length + 1 ≤ 4194304)
    (k : ∀ a' c' H', StB B H0 H' (pB tBd bb (bdL (n + 2) (.slice a' (es ++ [setE n (n + 1) s]).length c') sub) :: pS tEd 104 a' (es ++ [setE n (n + 1) s]).length c' (es ++ [setE n (n + 1) s]) :: rest) → K (.tuple #[.int .i64 (n : Int), .int .i64 ((n + 1 : Nat) : Int)]) H') :
    VCall Tryz.prog 72 #[.pointer (some ⟨bb, 0, none⟩), setV s] H K := by
  refine VCall.mk (R := fun r H' => r = .tuple #[.int .i64 (n : Int), .int .i64 ((n + 1 : Nat) : Int)] ∧ ∃ a' c', StB B H0 H' (pB tBd bb (bdL (n + 2) (.slice a' (es ++ [setE n (n + 1) s]).length c') sub) :: pS tEd 104 a' (es ++ [setE n (n + 1) s]).length c' (es ++ [setE n (n + 1) s]) :: rest)) ?_ fun r H' ⟨h1, a', c', h2⟩ => by rw [h1]; exact k a' c' H' h2
  refine FnOk.of_vc Tryz.func72 rfl (Tryz.call72 _) ?_
  (conv => whnf); refine vbox (setL s) rfl ?_
  intro x H1 hx hs1 hb1 ha1
  have st1 := (st.box hx hs1 hb1 ha1).perm (List.perm_append_singleton _ _)
  have st2 : StB B H0 H1 (pB tBd bb (bdL n (.slice a es.length c) sub) :: pB 102 x (setL s) :: pS tEd 104 a es.length c es :: rest) := st1.perm (List.Perm.swap _ _ _)
  (conv => whnf); refine bstate_v st2 (by omega) fun H3 st3 => ?_
  (conv => whnf); refine bstate_v st3 (by omega) fun H4 st4 => ?_
  have hdis := st4.apart2 (i := 0) (j := 2) rfl rfl (by decide)
  have hdis2 := st4.apart2 (i := 1) (j := 2) rfl rfl (by decide)
  (conv => whnf); refine VDraw.heldZ (fun k => k < H4.size ∧ ¬ slB (.slice a es.length c) k) [15] (sq [0,1,2,3,4,5,6,7,8,9] (.f 10 (.f 11 (sq [12,13,14] (.f 15 .e))))) rfl (by kernel_rfl) ?_
  have hb4 : bb < H4.size ∧ ¬ slB (.slice a es.length c) bb := ⟨(st4.in_ 0 rfl rfl).2, fun h => hdis bb rfl (.inl h)⟩
  have hx4 : x < H4.size ∧ ¬ slB (.slice a es.length c) x := ⟨(st4.in_ 1 rfl rfl).2, fun h => hdis2 x rfl (.inl h)⟩
  (conv => whnf); refine fa fl118_0 ?_
  (conv => whnf); refine fa fl37_3 ?_
  (conv => whnf); refine ld1 (v := .slice a es.length c) ct35 (by rw [(st4.blk 0 rfl).cell]; rfl) hb4 ?_
  (conv => whnf); refine ldN (cs := setL s) ag102 ((st4.blk 1 rfl).cells fun j v hv => by rw [Nat.zero_add]; exact hv) hx4 ?_
  (conv => whnf); refine set_build n (n + 1) s ?_
  (conv => whnf); refine vbuild1 sl35 (edL (setE n (n + 1) s)) rfl rfl (by decide) (by decide) ?_
  intro y H5 hy hs5 hb5 ha5
  have st5 := st4.skip hy ha5
  refine ⟨ha5.mono fun k hk => by have := hk.1; omega, ?_⟩
  (conv => whnf); refine appO (ys := [setE n (n + 1) s]) st5 2 sl35 rfl (hb5.cells (o := 0) (cs := edL (setE n (n + 1) s)) fun j v hv => by rw [Nat.zero_add]; exact hv) (Ty.reps_one ⟨rfl, edge_ok (by omega) (by omega) _ _⟩) rfl (fun u hu => List.all_eq_true.1 (ed_ones _) u hu) (by simpa using hl) (by decide) fun a9 c9 H9 st9 ha9 => ?_
  refine ⟨(ha5.mono fun k hk => by have := hk.1; omega).trans (ha9.mono fun k hk => ⟨by have := hk.1; omega, hk.2⟩), ?_⟩
  (conv => whnf); refine fa fl118_0 ?_
  (conv => whnf); refine fa fl37_3 ?_
  (conv => whnf); refine st1B st9 0 ct35 rfl (show 3 < 6 by decide) rfl fun H10 st10 => ?_
  (conv => whnf)
  have el : es.length + [setE n (n + 1) s].length = (es ++ [setE n (n + 1) s]).length := by simp
  rw [el] at st10
  exact ⟨rfl, a9, c9, (st10.perm (List.Perm.swap _ _ _)).sub (List.sublist_cons_self _ _)⟩
end
theorem node_z1 : (Tryz.prog.info? 127).bind (·.zero) = some (.agg #[]) := rfl
theorem node_z2 : (Tryz.prog.info? 130).bind (·.zero) = some (.agg #[.int .u64 0, .int .u64 0, .int .u64 0, .int .u64 0]) := rfl
theorem node_z3 : (Tryz.prog.info? 132).bind (·.zero) = some (.agg #[.nilIface, .nilIface]) := rfl
theorem node_z4 : (Tryz.prog.info? 163).bind (·.zero) = some (.agg #[.nilIface, .nilIface]) := rfl
theorem node_z5 : (Tryz.prog.info? 165).bind (·.zero) = some (.agg #[.nilIface]) := rfl
set_option maxHeartbeats 16000000 in
theorem part_c {B : Nat → Prop} {H0 : Heap} {bb : Nat} {sub : Value} : ∀ (r : ReM), r.plain = true → ∀ {H : Heap} {rest : List Pc} {n : Nat} {a : Option Addr} {c : Nat} {es : List EdM} (st : StB B H0 H (pB tBd bb (bdL n (.slice a es.length c) sub) :: pS tEd 104 a es.length c es :: rest)), n + stM r ≤ 1000000 → es.length + 2 * stM r ≤ 4000000 →
    FnOk Tryz.prog 44 #[.pointer (some ⟨bb, 0, none⟩), nodeV r] H fun v H' => v = .tuple #[.int .i64 ((bldM r n).1 : Nat), .int .i64 ((bldM r n).2.1 : Nat)] ∧ ∃ a' c', StB B H0 H' (pB tBd bb (bdL (n + stM r) (.slice a' (es ++ (bldM r n).2.2).length c') sub) :: pS tEd 104 a' (es ++ (bldM r n).2.2).length c' (es ++ (bldM r n).2.2) :: rest) := fun r => by
  induction r with
  | eps =>
    intro hpl H rest n a c es st hn hl
    simp only [stM] at hn hl
    refine FnOk.of_vc Tryz.func44 rfl (Tryz.call44 _) ?_
    (conv => whnf); refine fa fl118_2 ?_
    (conv => whnf); refine ld1 (v := .int .i64 0) ct25 (by rw [(st.blk 0 rfl).cell]; rfl) trivial ?_
    (conv => whnf); refine vta_yes Tryz.underlying127 (by intro ms h; cases h) ?_
    (conv => whnf); refine valloc (.agg #[]) [] rfl rfl ?_
    intro x H1 hx hs1 hb1 ha1
    have st1 : StB B H0 H1 (pB 127 x [] :: pB tBd bb (bdL n (.slice a es.length c) sub) :: pS tEd 104 a es.length c es :: rest) := (st.box hx hs1 hb1 ha1).perm (List.perm_append_singleton _ _)
    (conv => whnf); refine stNB (cs := []) st1 0 rfl rfl (Nat.le_refl _) rfl fun H2 st2 => ?_
    have st3 : StB B H0 H2 (pB tBd bb (bdL n (.slice a es.length c) sub) :: pS tEd 104 a es.length c es :: rest) := st2.sub (List.sublist_cons_self _ _)
    (conv => whnf); refine bstate_v st3 (by omega) fun H4 st4 => ?_
    (conv => whnf); refine bstate_v st4 (by omega) fun H5 st5 => ?_
    (conv => whnf); refine bsil_v st5 (by omega) (by omega) (by omega) fun a' c' H6 st6 => ?_
    (conv => whnf)
    exact ⟨rfl, a', c', st6⟩
  | cls s =>
    intro hpl H rest n a c es st hn hl
    simp only [stM] at hn hl
    refine FnOk.of_vc Tryz.func44 rfl (Tryz.call44 _) ?_
    (conv => whnf); refine fa fl118_2 ?_
    (conv => whnf); refine ld1 (v := .int .i64 0) ct25 (by rw [(st.blk 0 rfl).cell]; rfl) trivial ?_
    (conv => whnf); refine vta_no Tryz.underlying127 (by intro ms h; cases h) node_z1 (by decide) ?_
    (conv => whnf); refine vta_yes Tryz.underlying130 (by intro ms h; cases h) ?_
    (conv => whnf); refine valloc _ [.int .u64 0, .int .u64 0, .int .u64 0, .int .u64 0] node_z2 rfl ?_
    intro x H1 hx hs1 hb1 ha1
    have st1 : StB B H0 H1 (pB 130 x [.int .u64 0, .int .u64 0, .int .u64 0, .int .u64 0] :: pB tBd bb (bdL n (.slice a es.length c) sub) :: pS tEd 104 a es.length c es :: rest) := (st.box hx hs1 hb1 ha1).perm (List.perm_append_singleton _ _)
    (conv => whnf); refine stNB (cs := setL s) st1 0 rfl rfl (Nat.le_refl _) rfl fun H2 st2 => ?_
    rw [splice_all (show (setL s).length = 4 from rfl)] at st2
    (conv => whnf); refine fa fl130_0 ?_
    (conv => whnf); refine ldN (cs := setL s) ag102 ((st2.blk 0 rfl).cells fun j v hv => by simpa using hv) trivial ?_
    have st3 : StB B H0 H2 (pB tBd bb (bdL n (.slice a es.length c) sub) :: pS tEd 104 a es.length c es :: rest) := st2.sub (List.sublist_cons_self _ _)
    (conv => whnf); refine btake_v st3 (by omega) (by omega) fun a' c' H4 st4 => ?_
    (conv => whnf)
    exact ⟨rfl, a', c', st4⟩
  | cat r1 r2 ih1 ih2 =>
    intro hpl H rest n a c es st hn hl
    simp only [ReM.plain, Bool.and_eq_true] at hpl
    simp only [stM] at hn hl
    have l1 := bldM_len r1 hpl.1 n
    have l2 := bldM_len r2 hpl.2 (n + stM r1)
    have i1 := bldM_in r1 hpl.1 n
    have i2 := bldM_in r2 hpl.2 (n + stM r1)
    refine FnOk.of_vc Tryz.func44 rfl (Tryz.call44 _) ?_
    (conv => whnf); refine fa fl118_2 ?_
    (conv => whnf); refine ld1 (v := .int .i64 0) ct25 (by rw [(st.blk 0 rfl).cell]; rfl) trivial ?_
    (conv => whnf); refine vta_no Tryz.underlying127 (by intro ms h; cases h) node_z1 (by decide) ?_
    (conv => whnf); refine vta_no Tryz.underlying130 (by intro ms h; cases h) node_z2 (by decide) ?_
    (conv => whnf); refine vta_yes Tryz.underlying132 (by intro ms h; cases h) ?_
    (conv => whnf); refine valloc _ [.nilIface, .nilIface] node_z3 rfl ?_
    intro x H1 hx hs1 hb1 ha1
    have st1 : StB B H0 H1 (pB 132 x [.nilIface, .nilIface] :: pB tBd bb (bdL n (.slice a es.length c) sub) :: pS tEd 104 a es.length c es :: rest) := (st.box hx hs1 hb1 ha1).perm (List.perm_append_singleton _ _)
    (conv => whnf); refine stNB (cs := [nodeV r1, nodeV r2]) st1 0 rfl rfl (Nat.le_refl _) (by simp [nodeV_one]) fun H2 st2 => ?_
    rw [splice_all (show [nodeV r1, nodeV r2].length = 2 from rfl)] at st2
    (conv => whnf); refine fa fl132_0 ?_
    (conv => whnf); refine ld1 (v := nodeV r1) ct24 (by rw [(st2.blk 0 rfl).cell]; rfl) trivial ?_
    have st3 : StB B H0 H2 (pB tBd bb (bdL n (.slice a es.length c) sub) :: pS tEd 104 a es.length c es :: pB 132 x [nodeV r1, nodeV r2] :: rest) := st2.pickN 3 [1, 2, 0] (by decide)
    (conv => whnf); refine VCall.mk (ih1 hpl.1 st3 (by omega) (by omega)) ?_
    rintro _ H4 ⟨rfl, a4, c4, st4⟩
    (conv => whnf); refine fa fl132_1 ?_
    (conv => whnf); refine ld1 (v := nodeV r2) ct24 (by rw [(st4.blk 2 rfl).cell]; rfl) trivial ?_
    (conv => whnf); refine VCall.mk (ih2 hpl.2 st4 (by omega) (by rw [List.length_append]; omega)) ?_
    rintro _ H5 ⟨rfl, a5, c5, st5⟩
    (conv => whnf); refine bsil_v st5 (by omega) (by omega) (by rw [List.length_append, List.length_append]; omega) fun a6 c6 H6 st6 => ?_
    (conv => whnf)
    have e1 : es ++ (bldM r1 n).2.2 ++ (bldM r2 (n + stM r1)).2.2 ++ [silE (bldM r1 n).2.1 (bldM r2 (n + stM r1)).1] = es ++ (bldM (.cat r1 r2) n).2.2 := by simp [bldM]
    rw [e1, Nat.add_assoc] at st6
    exact ⟨rfl, a6, c6, st6.pickN 3 [0, 1] (by decide)⟩
  | alt r1 r2 ih1 ih2 =>
    intro hpl H rest n a c es st hn hl
    simp only [ReM.plain, Bool.and_eq_true] at hpl
    simp only [stM] at hn hl
    have l1 := bldM_len r1 hpl.1 (n + 1)
    have l2 := bldM_len r2 hpl.2 (n + 1 + stM r1)
    have i1 := bldM_in r1 hpl.1 (n + 1)
    have i2 := bldM_in r2 hpl.2 (n + 1 + stM r1)
    refine FnOk.of_vc Tryz.func44 rfl (Tryz.call44 _) ?_
    (conv => whnf); refine fa fl118_2 ?_
    (conv => whnf); refine ld1 (v := .int .i64 0) ct25 (by rw [(st.blk 0 rfl).cell]; rfl) trivial ?_
    (conv => whnf); refine vta_no Tryz.underlying127 (by intro ms h; cases h) node_z1 (by decide) ?_
    (conv => whnf); refine vta_no Tryz.underlying130 (by intro ms h; cases h) node_z2 (by decide) ?_
    (conv => whnf); refine vta_no Tryz.underlying132 (by intro ms h; cases h) node_z3 (by decide) ?_
    (conv => whnf); refine vta_yes Tryz.underlying163 (by intro ms h; cases h) ?_
    (conv => whnf); refine valloc _ [.nilIface, .nilIface] node_z4 rfl ?_
    intro x H1 hx hs1 hb1 ha1
    have st1 : StB B H0 H1 (pB 163 x [.nilIface, .nilIface] :: pB tBd bb (bdL n (.slice a es.length c) sub) :: pS tEd 104 a es.length c es :: rest) := (st.box hx hs1 hb1 ha1).perm (List.perm_append_singleton _ _)
    (conv => whnf); refine stNB (cs := [nodeV r1, nodeV r2]) st1 0 rfl rfl (Nat.le_refl _) (by simp [nodeV_one]) fun H2 st2 => ?_
    rw [splice_all (show [nodeV r1, nodeV r2].length = 2 from rfl)] at st2
    have st3 : StB B H0 H2 (pB tBd bb (bdL n (.slice a es.length c) sub) :: pS tEd 104 a es.length c es :: pB 163 x [nodeV r1, nodeV r2] :: rest) := st2.pickN 3 [1, 2, 0] (by decide)
    (conv => whnf); refine bstate_v st3 (by omega) fun H4 st4 => ?_
    (conv => whnf); refine fa fl163_0 ?_
    (conv => whnf); refine ld1 (v := nodeV r1) ct24 (by rw [(st4.blk 2 rfl).cell]; rfl) trivial ?_
    (conv => whnf); refine VCall.mk (ih1 hpl.1 st4 (by omega) (by omega)) ?_
    rintro _ H5 ⟨rfl, a5, c5, st5⟩
    (conv => whnf); refine fa fl163_1 ?_
    (conv => whnf); refine ld1 (v := nodeV r2) ct24 (by rw [(st5.blk 2 rfl).cell]; rfl) trivial ?_
    (conv => whnf); refine VCall.mk (ih2 hpl.2 st5 (by omega) (by rw [List.length_append]; omega)) ?_
    rintro _ H6 ⟨rfl, a6, c6, st6⟩
    (conv => whnf); refine bstate_v st6 (by omega) fun H7 st7 => ?_
    (conv => whnf); refine bsil_v st7 (by omega) (by omega) (by simp only [List.length_append]; omega) fun a8 c8 H8 st8 => ?_
    (conv => whnf); refine bsil_v st8 (by omega) (by omega) (by simp only [List.length_append, List.length_cons, List.length_nil]; omega) fun a9 c9 H9 st9 => ?_
    (conv => whnf); refine bsil_v st9 (by omega) (by omega) (by simp only [List.length_append, List.length_cons, List.length_nil]; omega) fun a10 c10 H10 st10 => ?_
    (conv => whnf); refine bsil_v st10 (by omega) (by omega) (by simp only [List.length_append, List.length_cons, List.length_nil]; omega) fun a11 c11 H11 st11 => ?_
    (conv => whnf)
    have e1 : es ++ (bldM r1 (n + 1)).2.2 ++ (bldM r2 (n + 1 + stM r1)).2.2 ++ [silE n (bldM r1 (n + 1)).1] ++ [silE n (bldM r2 (n + 1 + stM r1)).1] ++ [silE (bldM r1 (n + 1)).2.1 (n + 1 + stM r1 + stM r2)] ++ [silE (bldM r2 (n + 1 + stM r1)).2.1 (n + 1 + stM r1 + stM r2)] = es ++ (bldM (.alt r1 r2) n).2.2 := by simp [bldM]
    rw [e1, show n + 1 + stM r1 + stM r2 + 1 = n + stM (.alt r1 r2) by simp only [stM]; omega] at st11
    exact ⟨rfl, a11, c11, st11.pickN 3 [0, 1] (by decide)⟩
  | star r1 ih1 =>
    intro hpl H rest n a c es st hn hl
    have hpl1 : r1.plain = true := hpl
    simp only [stM] at hn hl
    have l1 := bldM_len r1 hpl1 (n + 1)
    have i1 := bldM_in r1 hpl1 (n + 1)
    refine FnOk.of_vc Tryz.func44 rfl (Tryz.call44 _) ?_
    (conv => whnf); refine fa fl118_2 ?_
    (conv => whnf); refine ld1 (v := .int .i64 0) ct25 (by rw [(st.blk 0 rfl).cell]; rfl) trivial ?_
    (conv => whnf); refine vta_no Tryz.underlying127 (by intro ms h; cases h) node_z1 (by decide) ?_
    (conv => whnf); refine vta_no Tryz.underlying130 (by intro ms h; cases h) node_z2 (by decide) ?_
    (conv => whnf); refine vta_no Tryz.underlying132 (by intro ms h; cases h) node_z3 (by decide) ?_
    (conv => whnf); refine vta_no Tryz.underlying163 (by intro ms h; cases h) node_z4 (by decide) ?_
    (conv => whnf); refine vta_yes Tryz.underlying165 (by intro ms h; cases h) ?_
    (conv => whnf); refine valloc _ [.nilIface] node_z5 rfl ?_
    intro x H1 hx hs1 hb1 ha1
    have st1 : StB B H0 H1 (pB 165 x [.nilIface] :: pB tBd bb (bdL n (.slice a es.length c) sub) :: pS tEd 104 a es.length c es :: rest) := (st.box hx hs1 hb1 ha1).perm (List.perm_append_singleton _ _)
    (conv => whnf); refine stNB (cs := [nodeV r1]) st1 0 rfl rfl (Nat.le_refl _) (by simp [nodeV_one]) fun H2 st2 => ?_
    rw [splice_all (show [nodeV r1].length = 1 from rfl)] at st2
    have st3 : StB B H0 H2 (pB tBd bb (bdL n (.slice a es.length c) sub) :: pS tEd 104 a es.length c es :: pB 165 x [nodeV r1] :: rest) := st2.pickN 3 [1, 2, 0] (by decide)
    (conv => whnf); refine bstate_v st3 (by omega) fun H4 st4 => ?_
    (conv => whnf); refine fa fl165_0 ?_
    (conv => whnf); refine ld1 (v := nodeV r1) ct24 (by rw [(st4.blk 2 rfl).cell]; rfl) trivial ?_
    (conv => whnf); refine VCall.mk (ih1 hpl1 st4 (by omega) (by omega)) ?_
    rintro _ H5 ⟨rfl, a5, c5, st5⟩
    (conv => whnf); refine bstate_v st5 (by omega) fun H7 st7 => ?_
    (conv => whnf); refine bsil_v st7 (by omega) (by omega) (by simp only [List.length_append]; omega) fun a8 c8 H8 st8 => ?_
    (conv => whnf); refine bsil_v st8 (by omega) (by omega) (by simp only [List.length_append, List.length_cons, List.length_nil]; omega) fun a9 c9 H9 st9 => ?_
    (conv => whnf); refine bsil_v st9 (by omega) (by omega) (by simp only [List.length_append, List.length_cons, List.length_nil]; omega) fun a10 c10 H10 st10 => ?_
    (conv => whnf); refine bsil_v st10 (by omega) (by omega) (by simp only [List.length_append, List.length_cons, List.length_nil]; omega) fun a11 c11 H11 st11 => ?_
    (conv => whnf)
    have e1 : es ++ (bldM r1 (n + 1)).2.2 ++ [silE n (bldM r1 (n + 1)).1] ++ [silE n (n + 1 + stM r1)] ++ [silE (bldM r1 (n + 1)).2.1 (bldM r1 (n + 1)).1] ++ [silE (bldM r1 (n + 1)).2.1 (n + 1 + stM r1)] = es ++ (bldM (.star r1) n).2.2 := by simp [bldM]
    rw [e1, show n + 1 + stM r1 + 1 = n + stM (.star r1) by simp only [stM]; omega] at st11
    exact ⟨rfl, a11, c11, st11.pickN 3 [0, 1] (by decide)⟩
  | and_ => intro h; cases h
  | minus => intro h; cases h
end Go.Proofs.YtlnmhfhdjnenoaaGreatDoor
/- nfa.ways, nfa.settle: the walks. -/
set_option linter.unusedVariables false
set_option linter.unusedSimpArgs false
set_option maxRecDepth 100000
namespace Go.VC
/-- What a call has left as1 a piece. -/
theorem StB.addSt {B : Nat → Prop} {H0 H H' : Heap} {ps : List Pc} {p : Pc} (st : StB B H0 H ps) (st' : St H H' [p]) : StB B H0 H' (ps ++ [p]) :=
  st.add st'.old p (st'.at_ 0 rfl) fun k hk => ⟨st'.ge 0 rfl hk, (st'.in_ 0 rfl hk).2⟩
end Go.VC
namespace Go.Proofs.YtlnmhfhdjnenoaaGreatDoor
open Go.VC
theorem mapEd : MapTW Tryz.prog 147 3 35 (.slice none 0 0) := ⟨rfl, rfl⟩
/-- The edges that leave q. -/
def outP (a : NfM) (q : Int) (e : EdM) : Bool := a.has e.fr && a.has e.to && decide (e.fr = q)
def outTo (a : NfM) (k : Nat) (q : Int) : List EdM := (a.edges.take k).filter (outP a q)
def outE (a : NfM) (q : Int) : List EdM := a.edges.filter (outP a q)
theorem outTo_all (a : NfM) : outTo a a.edges.length = outE a := by funext q; unfold outTo outE; rw [List.take_length]
theorem outTo_len (a : NfM) (k : Nat) (q : Int) : (outTo a k q).length ≤ k := Nat.le_trans (List.length_filter_le _ _) (List.length_take_le _ _)
theorem outTo_yes {a : NfM} {k : Nat} {e : EdM} (he : a.edges[k]? = some e) (h1 : a.has e.fr = true) (h2 : a.has e.to = true) : upd (outTo a k) e.fr (outTo a k e.fr ++ [e]) = outTo a (k + 1) := by
  funext q
  unfold outTo
  rw [take_succ_snoc he, List.filter_append]
  by_cases hq : q = e.fr
  · subst hq
    rw [upd_self]
    simp [outP, h1, h2]
  · rw [upd_ne hq]
    simp [outP, h1, h2, Ne.symm hq]
theorem outTo_no {a : NfM} {k : Nat} {e : EdM} (he : a.edges[k]? = some e) (h : (a.has e.fr && a.has e.to) = false) : outTo a k = outTo a (k + 1) := by
  funext q
  unfold outTo
  rw [take_succ_snoc he, List.filter_append]
  simp [outP, h]
theorem outE_mem {a : NfM} {q : Int} {e : EdM} : e ∈ outE a q ↔ e ∈ a.edges ∧ a.has e.fr = true ∧ a.has e.to = true ∧ e.fr = q := by
  unfold outE outP
  simp [List.mem_filter, and_assoc]
set_option maxHeartbeats 4000000 in
theorem ways_c {S : Nat → Prop} {H : Heap} {v : Value} {a : NfM} (hS : ∀ k, S k → k < H.size) (h : NfV S H v a) :
    FnOk Tryz.prog 63 #[v] H fun r H' => ∃ mb m, r = .map (some mb) ∧ St H H' [pMQ anyK kI tEd 104 mb m (outE a)] := by
  have hr := h.1
  have hl := h.2.1
  refine FnOk.of_vc Tryz.func63 rfl (Tryz.call63 _) ?_
  (conv => whnf); refine nf_box h fun ea ec he h1 => ?_
  subst he
  intro p H1 hp hs1 hb1 ha1
  have st1 := (St.nil H).box hp hs1 hb1 ha1
  (conv => whnf); refine mmakeW (Ok := anyK) (enc := kI) fun mb H2 hb2 hs2 hm2 ha2 => ?_
  have st2 := (st1.mapNewW hb2 hs2 hm2 ha2).mqNew (T := tEd) (e := 104) 1 rfl
  (conv => whnf); refine fa fl37_3 ?_
  (conv => whnf); refine ld1 (v := .slice ea a.edges.length ec) ct35 (by rw [(st2.blk 0 rfl).cell]; rfl) trivial ?_
  (conv => whnf)
  refine VLoop.mk [10] (fun k : Nat => [.int .i64 (k : Int)]) (fun k H5 => k ≤ a.edges.length ∧ ∃ m, St H H5 [pB 37 p (nfL a (.slice ea a.edges.length ec)), pMQ anyK kI tEd 104 mb m (outTo a k)]) (fun k _ => a.edges.length - k) ?_ ?_
  · (conv => whnf)
    exact ⟨0, rfl, Nat.zero_le _, _, st2⟩
  · rintro k H5 junk ⟨hk, m, st⟩
    (conv => whnf); refine VIte.mk (fun hz => ?_) (fun hz => ?_) <;> simp only [decide_eq_true_eq, decide_eq_false_iff_not] at hz
    · obtain ⟨e, he⟩ := get_some (l := a.edges) (k := k) (by omega)
      have hlen := outTo_len a k e.fr
      (conv => whnf); refine VSeq.run ?_
      (conv => whnf); refine ixr (i := k) sl35 (h1.frame (st.old.mono hS)) he rfl ?_
      rintro b6 o6 c6 hS6 hc6 ⟨rfl, hok⟩
      (conv => whnf); refine ldN (cs := edL e) ag104 hc6 trivial ?_
      (conv => whnf); refine valloc _ [.int .i64 0, .int .i64 0, .bool false, .int .u64 0, .int .u64 0, .int .u64 0, .int .u64 0] edge_z rfl ?_
      intro x H6 hx hs6 hb6 ha6
      have st6 := st.box hx hs6 hb6 ha6
      (conv => whnf); refine stNB (cs := edL e) st6 2 rfl rfl (Nat.le_refl _) rfl fun H7 st7 => ?_
      rw [splice_all (show (edL e).length = 7 from rfl)] at st7
      have hbx := st7.blk 2 rfl
      have h17 := h1.frame (st7.old.mono hS)
      (conv => whnf); refine nf_load hr hl (st7.blk 0 rfl) ag37 trivial h17 fun v8 hv8 => ?_
      (conv => whnf); refine fa fl104_0 ?_
      (conv => whnf); refine ld1 (v := .int .i64 e.fr) ct3 (by rw [hbx.cell]; rfl) trivial ?_
      (conv => whnf); refine pures (has_p hv8) fun H8 ha8 => ?_
      have st8 := st7.call ha8
      have skip : ∀ {H' : Heap}, (a.has e.fr && a.has e.to) = false → St H H' [pB 37 p (nfL a (.slice ea a.edges.length ec)), pMQ anyK kI tEd 104 mb m (outTo a k), pB 104 x (edL e)] →
          ∃ y : Nat, [Value.int .i64 ((k : Int) + 1)] = [.int .i64 (y : Int)] ∧ (y ≤ a.edges.length ∧ ∃ m, St H H' [pB 37 p (nfL a (.slice ea a.edges.length ec)), pMQ anyK kI tEd 104 mb m (outTo a y)]) ∧ a.edges.length - y < a.edges.length - k := fun hno st' =>
        ⟨k + 1, by simp, ⟨by omega, m, by rw [← outTo_no he hno]; exact st'.pick [0, 1] (by decide)⟩, by omega⟩
      cases hfr : a.has e.fr with
      | false =>
        (conv => whnf); rw [w64 (x := (k : Int) + 1) (by omega) (by omega)]
        exact ⟨rfl, skip (by rw [hfr]; rfl) st8⟩
      | true =>
        have hb8 := st8.blk 2 rfl
        have h18 := h1.frame (st8.old.mono hS)
        (conv => whnf); refine nf_load hr hl (st8.blk 0 rfl) ag37 trivial h18 fun v9 hv9 => ?_
        (conv => whnf); refine fa fl104_1 ?_
        (conv => whnf); refine ld1 (v := .int .i64 e.to) ct3 (by rw [hb8.cell]; rfl) trivial ?_
        (conv => whnf); refine pures (has_p hv9) fun H9 ha9 => ?_
        have st9 := st8.call ha9
        cases hto : a.has e.to with
        | false =>
          (conv => whnf); rw [w64 (x := (k : Int) + 1) (by omega) (by omega)]
          exact ⟨rfl, skip (by rw [hfr, hto]; rfl) st9⟩
        | true =>
          have hb9 := st9.blk 2 rfl
          obtain ⟨-, -, -, hself⟩ := st9.at_ 1 rfl
          have hbl : x < H9.size ∧ ¬ slB (slAt m e.fr) x := ⟨(st9.in_ 2 rfl rfl).2, fun hs => st9.apart2 (i := 1) (j := 2) rfl rfl (by decide) x (.inr ⟨e.fr, hs⟩) rfl⟩
          (conv => whnf); refine VDraw.heldZ (fun k => k < H9.size ∧ ¬ slB (slAt m e.fr) k) [10] (sq [0,1,2,3,4,5,6,7] (.f 8 (.f 9 (.f 10 .e)))) rfl (by kernel_rfl) ?_
          (conv => whnf); refine fa fl104_0 ?_
          (conv => whnf); refine ld1 (v := .int .i64 e.fr) ct3 (by rw [hb9.cell]; rfl) hbl ?_
          (conv => whnf); refine fa fl104_0 ?_
          (conv => whnf); refine ld1 (v := .int .i64 e.fr) ct3 (by rw [hb9.cell]; rfl) hbl ?_
          (conv => whnf); refine mlookW mapEd keyIW trivial (st9.mqMap 1 rfl) ⟨(st9.in_ 1 rfl (.inl rfl)).2, hself e.fr⟩ ?_
          (conv => whnf); refine ldN (cs := edL e) ag104 (hb9.cells fun j v hv => by rw [Nat.zero_add]; exact hv) hbl ?_
          (conv => whnf); refine vbuild1 sl35 (edL e) rfl rfl (by decide) (by decide) ?_
          intro y H10 hy hs10 hb10 ha10
          refine ⟨ha10.mono fun k hk => by have := hk.1; omega, ?_⟩
          have st10 := (st9.skip hy ha10).mqOut 1 rfl e.fr
          (conv => whnf); refine appQo (ys := [e]) st10 1 sl35 rfl (hb10.cells (o := 0) (cs := edL e) fun j v hv => by rw [Nat.zero_add]; exact hv) (Ty.reps_one ⟨rfl, hok⟩) rfl (fun u hu => List.all_eq_true.1 (ed_ones e) u hu) (by simp; unfold maxLen; omega) (by simp; omega) fun v11 H11 st11 ha11 => ?_
          refine ⟨(ha10.mono fun k hk => by have := hk.1; omega).trans (ha11.mono fun k hk => ⟨by have := hk.1; omega, hk.2⟩), ?_⟩
          (conv => whnf); refine mputQo st11 1 mapEd keyIW trivial rfl fun m' H12 st12 => ?_
          rw [outTo_yes he hfr hto] at st12
          (conv => whnf); rw [w64 (x := (k : Int) + 1) (by omega) (by omega)]
          exact ⟨rfl, k + 1, by simp, ⟨by omega, m', st12.pick [0, 1] (by decide)⟩, by omega⟩
    · obtain rfl : k = a.edges.length := by omega
      rw [outTo_all] at st
      (conv => whnf)
      exact ⟨mb, m, rfl, st.pick [1] (by decide)⟩
/-! ### settle -/
/-- The map of the edges, to be read. -/
structure FromV (B : Nat → Prop) (H0 : Heap) (mb : Nat) (a : NfM) : Prop where
  ex : ∃ m, MapW anyK kI H0 mb m ∧ ∀ q, ∃ ad cap, slAt m q = .slice ad (outE a q).length cap ∧ SlD tEd B H0 ad cap (outE a q)
  at_ : B mb
theorem FromV.ofSt {B : Nat → Prop} {H0 H : Heap} {ps : List Pc} {mb : Nat} {m : Int → Option Value} {a : NfM} (st : StB B H0 H ps) (i : Nat) (hp : ps[i]? = some (pMQ anyK kI tEd 104 mb m (outE a))) : FromV (Old H) H mb a :=
  ⟨⟨m, st.mqMap i hp, fun q => st.mqView i hp q⟩, (st.in_ i hp (.inl rfl)).2⟩
structure StlR (a : NfM) (X : PS) (q : Int) (Y : PS) : Prop where
  sub : ∀ p, X p → Y p
  own : Y q
  new : ∀ p, Y p → X p ∨ Sils a q p
  shut : ∀ p, Y p → ¬ X p → ∀ e ∈ a.edges, e.sil = true → e.fr = p → a.has e.to = true → Y e.to
open Classical in
noncomputable def mss (X : PS) : Nat := (lstS fun p => ¬ X p).length
theorem flt_le {p q : Int → Bool} : ∀ (l : List Int), (∀ x, p x = true → q x = true) → (l.filter p).length ≤ (l.filter q).length
  | [], _ => Nat.le_refl _
  | x :: l, h => by
    have ih := flt_le l h
    cases hp : p x with
    | true => rw [List.filter_cons_of_pos hp, List.filter_cons_of_pos (h x hp), List.length_cons, List.length_cons]; omega
    | false =>
      rw [List.filter_cons_of_neg (by rw [hp]; decide)]
      cases hq : q x with
      | true => rw [List.filter_cons_of_pos hq, List.length_cons]; omega
      | false => rw [List.filter_cons_of_neg (by rw [hq]; decide)]; exact ih
theorem flt_lt {p q : Int → Bool} {y : Int} : ∀ (l : List Int), (∀ x, p x = true → q x = true) → y ∈ l → p y = false → q y = true → (l.filter p).length < (l.filter q).length
  | [], _, hy, _, _ => by cases hy
  | x :: l, h, hy, h1, h2 => by
    have le := flt_le l h
    by_cases hxy : x = y
    · subst hxy
      rw [List.filter_cons_of_neg (by rw [h1]; decide), List.filter_cons_of_pos h2, List.length_cons]; omega
    · have hyl : y ∈ l := by
        rcases List.mem_cons.1 hy with e | e
        · exact absurd e.symm hxy
        · exact e
      have ih := flt_lt l h hyl h1 h2
      cases hp : p x with
      | true => rw [List.filter_cons_of_pos hp, List.filter_cons_of_pos (h x hp), List.length_cons, List.length_cons]; omega
      | false =>
        rw [List.filter_cons_of_neg (by rw [hp]; decide)]
        cases hq : q x with
        | true => rw [List.filter_cons_of_pos hq, List.length_cons]; omega
        | false => rw [List.filter_cons_of_neg (by rw [hq]; decide)]; exact ih
theorem mss_lt {X Y : PS} {q : Int} (h : ∀ p, X p → Y p) (h0 : 0 ≤ q) (h1 : q < 65536) (hx : ¬ X q) (hy : Y q) : mss Y < mss X := by
  unfold mss lstS
  refine flt_lt (y := q) _ (fun p hp => ?_) (List.mem_map.2 ⟨q.toNat, List.mem_range.2 (by omega), by omega⟩) ?_ ?_
  · simp only [decide_eq_true_eq] at hp ⊢
    exact fun hx => hp (h p hx)
  · simp [hy]
  · simp [hx]
theorem dom_put {mm : Int → Option Value} {q : Int} {v : Value} (p : Int) : Dom (put mm q (some v)) p ↔ Dom mm p ∨ p = q := by
  unfold Dom
  by_cases h : p = q
  · subst h; rw [put_self]; simp
  · rw [put_ne h]; simp [h]
set_option maxHeartbeats 4000000 in
theorem settle_c {B : Nat → Prop} {H0 : Heap} {a : NfM} {mb : Nat} (hf : FromV B H0 mb a) (hst : a.st ≤ 65536) :
    ∀ (n : Nat) {H : Heap} {rest : List Pc} {nb : Nat} {mm : Int → Option Value} {q : Int} (st : StB B H0 H (pMW anyK kI nb mm :: rest)), a.has q = true → mss (Dom mm) < n →
      FnOk Tryz.prog 65 #[.map (some mb), .map (some nb), .int .i64 q] H fun _ H' => ∃ mm', StB B H0 H' (pMW anyK kI nb mm' :: rest) ∧ StlR a (Dom mm) q (Dom mm') := fun n => by
  induction n with
  | zero => intro H rest nb mm q st hq hn; omega
  | succ n ih =>
    intro H rest nb mm q st hq hn
    have hqr := NfM.has_iff.1 hq
    obtain ⟨m, hmap, hview⟩ := hf.ex
    obtain ⟨ad, cap, hsl, hd⟩ := hview q
    refine FnOk.of_vc Tryz.func65 rfl (Tryz.call65 _) ?_
    (conv => whnf); refine mlookOkW (a := q) mapII keyIW trivial (st.mapW 0 rfl) trivial ?_
    cases hmq : (mm q).isSome with
    | true =>
      (conv => whnf)
      exact ⟨mm, st, fun p hp => hp, hmq, fun p hp => .inl hp, fun p hp hn => absurd hp hn⟩
    | false =>
      have hnq : ¬ Dom mm q := by unfold Dom; rw [hmq]; decide
      (conv => whnf); refine mputPW (a := q) st 0 mapII keyIW trivial rfl rfl fun H1 st1 => ?_
      (conv => whnf); refine mlookW (a := q) (m := m) mapEd keyIW trivial (hmap.agr st1.old hf.at_) trivial ?_
      have e1 : (m q).getD (.slice none 0 0) = .slice ad (outE a q).length cap := hsl
      rw [e1]
      (conv => whnf)
      refine VLoop.mk [23] (fun k : Nat => [.int .i64 (k : Int)]) (fun k H5 => k ≤ (outE a q).length ∧ ∃ my, StB B H0 H5 (pMW anyK kI nb my :: rest) ∧ (∀ p, Dom mm p → Dom my p) ∧ Dom my q ∧ (∀ p, Dom my p → Dom mm p ∨ Sils a q p) ∧
        (∀ p, Dom my p → ¬ Dom mm p → p ≠ q → ∀ e ∈ a.edges, e.sil = true → e.fr = p → a.has e.to = true → Dom my e.to) ∧ ∀ e ∈ (outE a q).take k, e.sil = true → Dom my e.to) (fun k _ => (outE a q).length - k) ?_ ?_
      · (conv => whnf)
        refine ⟨0, rfl, Nat.zero_le _, _, st1, fun p hp => (dom_put p).2 (.inl hp), (dom_put q).2 (.inr rfl), fun p hp => ?_, fun p hp hno hpq => ?_, fun e he => by cases he⟩
        · rcases (dom_put p).1 hp with h | rfl
          · exact .inl h
          · exact .inr (.refl _)
        · rcases (dom_put p).1 hp with h | h
          · exact absurd h hno
          · exact absurd h hpq
      · rintro k H5 junk ⟨hk, my, st5, hsub, hown, hnew, hshut, hdone⟩
        have hd5 := hd.frame st5.old
        (conv => whnf); refine VIte.mk (fun hz => ?_) (fun hz => ?_) <;> simp only [decide_eq_true_eq, decide_eq_false_iff_not] at hz
        · obtain ⟨e, he⟩ := get_some (l := outE a q) (k := k) (by omega)
          obtain ⟨he1, he2, he3, he4⟩ := outE_mem.1 (List.mem_of_getElem? he)
          have hlen := hd5.le
          unfold maxLen at hlen
          (conv => whnf); refine VSeq.run ?_
          (conv => whnf); refine ixr (i := k) sl35 hd5 he rfl ?_
          rintro b6 o6 c6 hS6 hc6 ⟨rfl, hok⟩
          (conv => whnf); refine ldN (cs := edL e) ag104 hc6 trivial ?_
          (conv => whnf); refine valloc _ [.int .i64 0, .int .i64 0, .bool false, .int .u64 0, .int .u64 0, .int .u64 0, .int .u64 0] edge_z rfl ?_
          intro x H6 hx hs6 hb6 ha6
          have st6 : StB B H0 H6 (pB 104 x _ :: pMW anyK kI nb my :: rest) := (st5.box hx hs6 hb6 ha6).perm (List.perm_append_singleton _ _)
          (conv => whnf); refine stNB (cs := edL e) st6 0 rfl rfl (Nat.le_refl _) rfl fun H7 st7 => ?_
          rw [splice_all (show (edL e).length = 7 from rfl)] at st7
          have hbx := st7.blk 0 rfl
          have st7' : StB B H0 H7 (pMW anyK kI nb my :: rest) := st7.sub (List.sublist_cons_self _ _)
          (conv => whnf); refine fa fl104_2 ?_
          (conv => whnf); refine ld1 (v := .bool e.sil) ct4 (by rw [hbx.cell]; rfl) trivial ?_
          cases hes : e.sil with
          | false =>
            (conv => whnf); rw [w64 (x := (k : Int) + 1) (by omega) (by omega)]
            refine ⟨rfl, k + 1, by simp, ⟨by omega, my, st7', hsub, hown, hnew, hshut, fun e' he' hs' => ?_⟩, by omega⟩
            rw [take_succ_snoc he, List.mem_append, List.mem_singleton] at he'
            rcases he' with he' | rfl
            · exact hdone e' he' hs'
            · rw [hes] at hs'; cases hs'
          | true =>
            (conv => whnf); refine fa fl104_1 ?_
            (conv => whnf); refine ld1 (v := .int .i64 e.to) ct3 (by rw [hbx.cell]; rfl) trivial ?_
            have hlt : mss (Dom my) < n := by
              have := mss_lt hsub hqr.1 (by omega) hnq hown
              omega
            (conv => whnf); refine VCall.mk (ih st7' he3 hlt) ?_
            rintro _ H8 ⟨mz, st8, hz1⟩
            (conv => whnf); rw [w64 (x := (k : Int) + 1) (by omega) (by omega)]
            have hstep : Sils a q e.to := by
              have h0 : Sils a q e.fr := by rw [he4]; exact .refl q
              exact .step h0 he1 hes he3
            refine ⟨rfl, k + 1, by simp, ⟨by omega, mz, st8, fun p hp => hz1.sub p (hsub p hp), hz1.sub q hown, fun p hp => ?_, fun p hp hno hpq => ?_, fun e' he' hs' => ?_⟩, by omega⟩
            · rcases hz1.new p hp with h | h
              · exact hnew p h
              · exact .inr (hstep.trans h)
            · by_cases hy : Dom my p
              · exact fun e' h1 h2 h3 h4 => hz1.sub _ (hshut p hy hno hpq e' h1 h2 h3 h4)
              · exact hz1.shut p hp hy
            · rw [take_succ_snoc he, List.mem_append, List.mem_singleton] at he'
              rcases he' with he' | rfl
              · exact hz1.sub _ (hdone e' he' hs')
              · exact hz1.own
        · obtain rfl : k = (outE a q).length := by omega
          rw [List.take_length] at hdone
          (conv => whnf)
          refine ⟨my, st5, hsub, hown, hnew, fun p hp hno => ?_⟩
          by_cases hpq : p = q
          · subst hpq
            exact fun e h1 h2 h3 h4 => hdone e (outE_mem.2 ⟨h1, by rw [h3]; exact hq, h4, h3⟩) h2
          · exact hshut p hp hno hpq
end Go.Proofs.YtlnmhfhdjnenoaaGreatDoor
/- nfa.Reach, nfa.Accepts: the walks. -/
set_option linter.unusedVariables false
set_option linter.unusedSimpArgs false
set_option maxRecDepth 100000
namespace Go.Proofs.YtlnmhfhdjnenoaaGreatDoor
open Go.VC
theorem stl_shut {a : NfM} {X Y : PS} {q : Int} (h : StlR a X q Y) (hX : Shut_ a X) : Shut_ a Y := fun e h1 h2 h3 h4 => by
  by_cases hx : X e.fr
  · exact h.sub _ (hX e h1 h2 h3 hx)
  · exact h.shut _ h4 hx e h1 h2 rfl h3
theorem keys_v {B : Nat → Prop} {H0 H : Heap} {nb : Nat} {ps : List Pc} {K : Value → Heap → Prop} (st : StB B H0 H ps)
    (k : ∀ bx H', StB B H0 H' (ps ++ [pB 149 bx [.map (some nb)]]) → K (.func (.func 90) #[] #[.pointer (some ⟨bx, 0, none⟩)]) H') :
    VCall Tryz.prog 68 #[.map (some nb)] H K := by
  refine VCall.mk (R := fun v H' => ∃ bx, v = .func (.func 90) #[] #[.pointer (some ⟨bx, 0, none⟩)] ∧ StB B H0 H' (ps ++ [pB 149 bx [.map (some nb)]])) ?_ ?_
  · refine FnOk.of_vc Tryz.func68 rfl (Tryz.call68 _) ?_
    (conv => whnf); refine vbox [.map (some nb)] rfl ?_
    intro b1 H1 hb1 hs1 hk1 ha1
    have st1 := st.box hb1 hs1 hk1 ha1
    (conv => whnf)
    exact ⟨b1, rfl, st1⟩
  · rintro _ H' ⟨b1, rfl, st'⟩
    exact k b1 H' st'
set_option maxHeartbeats 8000000 in
theorem reach_n {S : Nat → Prop} {H : Heap} {v : Value} {a : NfM} {s : ByteArray} (hS : ∀ k, S k → k < H.size) (h : NfV S H v a) (hs : s.size ≤ maxLen) :
    FnOk Tryz.prog 41 #[v, .string s] H fun r H' => Agr (Old H) H H' ∧ ∃ ra rc, r = .slice ra (rchL a (byN s)).length rc ∧ SlO tIk none_ H' H.size 3 (.slice ra (rchL a (byN s)).length rc) (rchL a (byN s)) := by
  have hr := h.1
  have hl := h.2.1
  unfold maxLen at hs
  refine FnOk.of_vc Tryz.func41 rfl (Tryz.call41 _) ?_
  (conv => whnf); refine nf_box h fun ea ec he h1 => ?_
  subst he
  intro p H1 hp hs1 hb1 ha1
  have st1 := (St.nil H).box hp hs1 hb1 ha1
  (conv => whnf); refine nf_load hr hl (st1.blk 0 rfl) ag37 trivial (h1.frame (st1.old.mono hS)) fun v1 hv1 => ?_
  (conv => whnf); refine VCall.mk (ways_c (fun k hk => st1.up (hS k hk)) hv1) ?_
  rintro _ H2 ⟨mb, m0, rfl, stw⟩
  have st2 := st1.addSt stw
  have hf : FromV (Old H2) H2 mb a := FromV.ofSt st2 1 rfl
  have h02 := st2.old
  have hb2 := st2.blk 0 rfl
  have hbp : p < H2.size := hb2.lt
  have h12 := h1.frame (h02.mono hS)
  have hS2 : ∀ k, S k → k < H2.size := fun k hk => old_lt h02 (hS k hk)
  have hcl : ∀ {X : PS} {q : Int}, (∀ q, X q → a.has q = true) → X q → 0 ≤ q ∧ q < 65536 := fun hX hq => has_rng hX _ hq
  (conv => whnf); refine mmakeW (Ok := anyK) (enc := kI) fun nb H3 hb3 hs3 hm3 ha3 => ?_
  have st3 : St H2 H3 [pMW anyK kI nb fun _ => none] := (St.nil H2).mapNewW hb3 hs3 hm3 ha3
  have hb3' := hb2.agr st3.old hbp
  (conv => whnf); refine VSeq.cut (α := Nat) [6] (fun nb => [.map (some nb)]) (fun nb H4 => ∃ mm, St H2 H4 [pMW anyK kI nb mm] ∧ ∀ q, Dom mm q ↔ begS a q) ?_ fun nb H4 junk4 hI4 => ?_
  · (conv => whnf); refine nf_load hr hl hb3' ag37 trivial (h12.frame (st3.old.mono hS2)) fun v4 hv4 => ?_
    (conv => whnf); refine fa fl37_1 ?_
    (conv => whnf); refine ld1 (v := .int .i64 a.start) ct3 (by rw [hb3'.cell]; rfl) trivial ?_
    (conv => whnf); refine pures (has_p hv4) fun H4 ha4 => ?_
    have st4 := st3.call ha4
    have hb4 := hb2.agr st4.old hbp
    cases hst : a.has a.start with
    | false =>
      (conv => whnf)
      refine ⟨rfl, nb, rfl, _, st4, fun q => ⟨fun hq => (by cases hq), fun hq => ?_⟩⟩
      obtain ⟨r, ⟨-, h2⟩, -⟩ := hq
      rw [hst] at h2; cases h2
    | true =>
      (conv => whnf); refine fa fl37_1 ?_
      (conv => whnf); refine ld1 (v := .int .i64 a.start) ct3 (by rw [hb4.cell]; rfl) trivial ?_
      (conv => whnf); refine VCall.mk (settle_c hf (NfM.has_iff.1 hst).2.2 _ st4 hst (Nat.lt_succ_self _)) ?_
      rintro _ H5 ⟨mm, st5, hstl⟩
      (conv => whnf)
      refine ⟨rfl, nb, rfl, mm, st5, fun q => ⟨fun hq => ?_, fun hq => ?_⟩⟩
      · rcases hstl.new q hq with h | h
        · cases h
        · exact ⟨a.start, ⟨rfl, hst⟩, h⟩
      · exact clS_least (Y := Dom mm) (fun r hr => by rw [hr.1]; exact hstl.own) (stl_shut hstl fun e _ _ _ h => by cases h) q hq
  obtain ⟨mm4, st4, hmm4⟩ := hI4
  (conv => whnf)
  refine VLoop.mk [6, 26] (fun x : Nat × Nat => match x with | (i, nb) => [.map (some nb), .int .i64 (i : Int)]) (fun x H5 => x.1 ≤ s.size ∧ ∃ mm, St H2 H5 [pMW anyK kI x.2 mm] ∧ ∀ q, Dom mm q ↔ rchS a ((byN s).take x.1) q) (fun x _ => s.size - x.1) ?_ ?_
  · (conv => whnf)
    exact ⟨(0, nb), rfl, Nat.zero_le _, mm4, st4, hmm4⟩
  · rintro ⟨i, nb5⟩ H5 junk5 ⟨hi, mm5, st5, hmm5⟩
    simp only at hi st5 hmm5
    (conv => whnf); refine VIte.mk (fun hz => ?_) (fun hz => ?_) <;> simp only [decide_eq_true_eq, decide_eq_false_iff_not] at hz
    · obtain ⟨b, hb⟩ := getB (s := s) (k := i) (by omega)
      have hX : ∀ q, Dom mm5 q → a.has q = true := fun q hq => rchS_has a _ q ((hmm5 q).1 hq)
      (conv => whnf); refine mmakeW (Ok := anyK) (enc := kI) fun nx H6 hb6 hs6 hm6 ha6 => ?_
      have st6 := st5.mapNewW hb6 hs6 hm6 ha6
      (conv => whnf); refine mrangeP st6 0 mapII rfl fun r n H7 st7 => ?_
      (conv => whnf)
      refine VLoop.mk [] (fun _ : Nat => []) (fun n H8 => ∃ D last my, St H2 H8 [pIW anyK kI nb5 r mm5 D last n, pMW anyK kI nx my] ∧ (∀ q, D q → Dom mm5 q) ∧ (∀ q, Dom my q → goS a (Dom mm5) b.toNat q) ∧ Shut_ a (Dom my) ∧
        ∀ q, D q → ∀ e ∈ outE a q, e.sil = false → e.set.getLsbD b.toNat = true → Dom my e.to) (fun n _ => n) ?_ ?_
      · (conv => whnf)
        exact ⟨n, rfl, _, none, _, st7, fun q h => h.elim, (fun q h => by cases h), (fun e _ _ _ h => by cases h), fun q h => h.elim⟩
      · rintro n8 H8 junk8 ⟨D, last, my, st8, hD, hgo, hsh, hall⟩
        (conv => whnf); refine mnextP st8 0 keyIW.inj rfl (fun hend => ?_) fun q vq H9 n9 hq hnD hlt st9 => ?_
        · (conv => whnf); rw [w64 (x := (i : Int) + 1) (by omega) (by omega)]
          refine ⟨rfl, (i + 1, nx), by simp, ⟨by simp only; omega, my, (st8.pick [1] (by decide)), fun q => ?_⟩, by simp only; omega⟩
          simp only
          rw [take_succ_snoc (byN_get hb), rchS_snoc, ← goS_ext hmm5]
          refine ⟨hgo q, fun hq => clS_least (Y := Dom my) (fun t ht => ?_) hsh q hq⟩
          obtain ⟨e, h1, h2, h3, h4, h5, rfl⟩ := ht
          exact hall e.fr (hend _ h4) e (outE_mem.2 ⟨h1, hX _ h4, h5, rfl⟩) h2 h3
        · have hdq : Dom mm5 q := by unfold Dom; rw [hq]; rfl
          obtain ⟨m, hmap, hview⟩ := hf.ex
          obtain ⟨ad, cap, hsl, hd⟩ := hview q
          (conv => whnf); refine mhere (st9.iterW 0 rfl) keyIW.inj hq ?_
          (conv => whnf); refine mlookW (a := q) (m := m) mapEd keyIW trivial (hmap.agr st9.old hf.at_) trivial ?_
          have e1 : (m q).getD (.slice none 0 0) = .slice ad (outE a q).length cap := hsl
          rw [e1]
          (conv => whnf)
          refine VLoop.mk [40] (fun k : Nat => [.int .i64 (k : Int)]) (fun k H10 => k ≤ (outE a q).length ∧ ∃ my, St H2 H10 [pIW anyK kI nb5 r mm5 (fun x => D x ∨ x = q) (some q) n9, pMW anyK kI nx my] ∧ (∀ q, Dom my q → goS a (Dom mm5) b.toNat q) ∧ Shut_ a (Dom my) ∧
            (∀ q, D q → ∀ e ∈ outE a q, e.sil = false → e.set.getLsbD b.toNat = true → Dom my e.to) ∧ ∀ e ∈ (outE a q).take k, e.sil = false → e.set.getLsbD b.toNat = true → Dom my e.to) (fun k _ => (outE a q).length - k) ?_ ?_
          · (conv => whnf)
            exact ⟨0, rfl, Nat.zero_le _, my, st9, hgo, hsh, hall, fun e he => by cases he⟩
          · rintro k H10 junk10 ⟨hk, my, st10, hgo, hsh, hall, hdone⟩
            have hd10 := hd.frame st10.old
            (conv => whnf); refine VIte.mk (fun hz2 => ?_) (fun hz2 => ?_) <;> simp only [decide_eq_true_eq, decide_eq_false_iff_not] at hz2
            · obtain ⟨e, he⟩ := get_some (l := outE a q) (k := k) (by omega)
              obtain ⟨he1, he2, he3, he4⟩ := outE_mem.1 (List.mem_of_getElem? he)
              have hlen := hd10.le
              unfold maxLen at hlen
              (conv => whnf); refine VSeq.run ?_
              (conv => whnf); refine ixr (i := k) sl35 hd10 he rfl ?_
              rintro b6 o6 c6 hS6 hc6 ⟨rfl, hok⟩
              (conv => whnf); refine ldN (cs := edL e) ag104 hc6 trivial ?_
              (conv => whnf); refine valloc _ [.int .i64 0, .int .i64 0, .bool false, .int .u64 0, .int .u64 0, .int .u64 0, .int .u64 0] edge_z rfl ?_
              intro x H11 hx hs11 hb11 ha11
              have st11 := st10.box hx hs11 hb11 ha11
              (conv => whnf); refine stNB (cs := edL e) st11 2 rfl rfl (Nat.le_refl _) rfl fun H12 st12 => ?_
              rw [splice_all (show (edL e).length = 7 from rfl)] at st12
              have hbx := st12.blk 2 rfl
              have hxl := (st12.in_ 2 rfl rfl).2
              have fin : ∀ {H' : Heap} {mz : Int → Option Value}, St H2 H' [pIW anyK kI nb5 r mm5 (fun x => D x ∨ x = q) (some q) n9, pMW anyK kI nx mz] → (∀ q, Dom my q → Dom mz q) → (∀ q, Dom mz q → goS a (Dom mm5) b.toNat q) → Shut_ a (Dom mz) → (e.sil = false → e.set.getLsbD b.toNat = true → Dom mz e.to) →
                  ∃ y : Nat, [Value.int .i64 ((k : Int) + 1)] = [Value.int .i64 (y : Int)] ∧ (y ≤ (outE a q).length ∧ ∃ my, St H2 H' [pIW anyK kI nb5 r mm5 (fun x => D x ∨ x = q) (some q) n9, pMW anyK kI nx my] ∧ (∀ q, Dom my q → goS a (Dom mm5) b.toNat q) ∧ Shut_ a (Dom my) ∧
                    (∀ q, D q → ∀ e ∈ outE a q, e.sil = false → e.set.getLsbD b.toNat = true → Dom my e.to) ∧ ∀ e ∈ (outE a q).take y, e.sil = false → e.set.getLsbD b.toNat = true → Dom my e.to) ∧ (outE a q).length - y < (outE a q).length - k := fun {H' mz} t1 t2 t3 t4 t5 => by
                refine ⟨k + 1, by simp, ⟨by omega, mz, t1, t3, t4, fun q' h1 e' h2 h3 h4 => t2 _ (hall q' h1 e' h2 h3 h4), fun e' he' h3 h4 => ?_⟩, by omega⟩
                rw [take_succ_snoc he, List.mem_append, List.mem_singleton] at he'
                rcases he' with he' | rfl
                · exact t2 _ (hdone e' he' h3 h4)
                · exact t5 h3 h4
              have w1 : IntKind.wrap .i64 ((k : Int) + 1) = (k : Int) + 1 := w64 (by omega) (by omega)
              (conv => whnf); refine VDraw.quiet (Old H12) rfl (by kernel_rfl) ?_
              (conv => whnf); refine fa fl104_2 ?_
              (conv => whnf); refine ld1 (v := .bool e.sil) ct4 (by rw [hbx.cell]; rfl) hxl ?_
              cases hes : e.sil with
              | true =>
                (conv => whnf)
                intro H13 ha13
                have st13 := st12.call ha13
                (conv => whnf); rw [w1]
                exact ⟨rfl, fin (st13.pick [0, 1] (by decide)) (fun _ h => h) hgo hsh fun h => by rw [hes] at h; cases h⟩
              | false =>
                (conv => whnf); refine fa fl104_3 ?_
                (conv => whnf); refine ldN (cs := setL e.set) ag102 (hbx.cells fun j v hv => edL_set e j v hv) hxl ?_
                (conv => whnf); refine vidxs Tryz.underlying9 rfl hb ?_
                (conv => whnf); refine pureq (fun H' ha' => has_c e.set b.toNat (UInt8.toNat_lt b) H') ?_
                cases hbit : e.set.getLsbD b.toNat with
                | false =>
                  (conv => whnf)
                  intro H13 ha13
                  have st13 := st12.call ha13
                  (conv => whnf); rw [w1]
                  exact ⟨rfl, fin (st13.pick [0, 1] (by decide)) (fun _ h => h) hgo hsh fun _ h => by rw [hbit] at h; cases h⟩
                | true =>
                  (conv => whnf)
                  intro H13 ha13
                  have st13 := st12.call ha13
                  (conv => whnf); refine fa fl104_1 ?_
                  (conv => whnf); refine ld1 (v := .int .i64 e.to) ct3 (by rw [(st13.blk 2 rfl).cell]; rfl) trivial ?_
                  (conv => whnf); refine VCall.mk (settle_c hf (NfM.has_iff.1 he3).2.2 _ (st13.pick [1, 0] (by decide) : St H2 H13 [pMW anyK kI nx my, pIW anyK kI nb5 r mm5 (fun x => D x ∨ x = q) (some q) n9]) he3 (Nat.lt_succ_self _)) ?_
                  rintro _ H14 ⟨mz, st14, hstl⟩
                  (conv => whnf); rw [w1]
                  refine ⟨rfl, fin (st14.pick [1, 0] (by decide)) hstl.sub (fun t ht => ?_) (stl_shut hstl hsh) fun _ _ => hstl.own⟩
                  rcases hstl.new t ht with h | h
                  · exact hgo t h
                  · exact ⟨e.to, ⟨e, he1, hes, hbit, by rw [he4]; exact hdq, he3, rfl⟩, h⟩
            · obtain rfl : k = (outE a q).length := by omega
              rw [List.take_length] at hdone
              (conv => whnf)
              refine ⟨rfl, n9, rfl, ⟨_, _, my, st10, fun t ht => ?_, hgo, hsh, fun t ht => ?_⟩, hlt⟩
              · rcases ht with h | rfl
                · exact hD t h
                · exact hdq
              · rcases ht with h | rfl
                · exact hall t h
                · exact hdone
    · obtain rfl : i = s.size := by omega
      rw [List.take_of_length_le (by rw [byN_len]; exact Nat.le_refl _)] at hmm5
      have hX : ∀ q, Dom mm5 q → a.has q = true := fun q hq => rchS_has a _ q ((hmm5 q).1 hq)
      (conv => whnf); refine keys_v st5 fun bx H6 st6 => ?_
      (conv => whnf); refine VCall.mk (sortedKeys_c (fun q hq => has_rng hX q hq) st6) ?_
      rintro _ H7 ⟨ks, ra, rc, rfl, hsrt, hin, st7⟩
      (conv => whnf)
      have hks : ks = rchL a (byN s) := lstS_uniq (has_rng (rchS_has a (byN s))) hsrt fun q => (hin q).trans (hmm5 q)
      subst hks
      exact ⟨h02.trans (st7.old.mono fun k hk => old_lt h02 hk), ra, rc, rfl, (St.own st7 0 rfl).lower (old_size h02)⟩
end Go.Proofs.YtlnmhfhdjnenoaaGreatDoor
/- The document's Begin, Go, Reach, Accepts of nondeterministic automata: the walks. -/
set_option linter.unusedVariables false
set_option linter.unusedSimpArgs false
set_option maxRecDepth 100000
namespace Go.VC
section
variable {α : Type} {T : Ty α} {e : TypeId} {a : Option Addr} {n cap : Nat} {xs ys : List α} {B S : Nat → Prop} {H0 H : Heap} {ps : List Pc}
end
end Go.VC
namespace Go.Proofs.YtlnmhfhdjnenoaaGreatDoor
open Go.VC
/-! ### settled -/
/-- What has been gathered. -/
structure GthR (a : NfM) (L out : List Int) : Prop where
  nd : out.Nodup
  sub : ∀ q ∈ L, q ∈ out
  cl : ∀ q ∈ out, clS a (· ∈ L) q
end Go.Proofs.YtlnmhfhdjnenoaaGreatDoor
/- The document's Reach and Accepts, nfa.Accepts: the walks. -/
set_option linter.unusedVariables false
set_option linter.unusedSimpArgs false
set_option maxRecDepth 100000
namespace Go.Proofs.YtlnmhfhdjnenoaaGreatDoor
open Go.VC
theorem acc_mem4 {a : NfM} {s : List Nat} : decide (a.fin ∈ rchL a s) = accN a s := by
  have := accN_iff a s
  have h2 := rchL_mem a s a.fin
  cases h : accN a s with
  | true => exact decide_eq_true (h2.2 (this.1 h))
  | false => exact decide_eq_false fun hm => by rw [this.2 (h2.1 hm)] at h; cases h
/-! ### nfa.Accepts -/
theorem isNaN1_p (x : Int) (H : Heap) : Pure Tryz.prog 87 #[.int .i64 x] H (.bool false) := by
  refine FnOk.of_vc Tryz.func87 rfl (Tryz.call87 _) ?_
  have d : (x != x) = false := by simp
  (conv => whnf)
  exact ⟨by rw [d], Agr.refl _ _⟩
theorem isNaN2_p (x : Int) (H : Heap) : Pure Tryz.prog 62 #[.int .i64 x] H (.bool false) := by
  refine FnOk.of_vc Tryz.func62 rfl (Tryz.call62 _) ?_
  have d : (x != x) = false := by simp
  (conv => whnf)
  exact ⟨by rw [d], Agr.refl _ _⟩
theorem less_p (x y : Int) (H : Heap) : Pure Tryz.prog 61 #[.int .i64 x, .int .i64 y] H (.bool (decide (x < y))) := by
  refine FnOk.of_vc Tryz.func61 rfl (Tryz.call61 _) ?_
  (conv => whnf); refine pures (isNaN1_p x H) fun H1 ha1 => ?_
  (conv => whnf)
  exact ⟨rfl, ha1⟩
theorem srt_get {xs : List Int} (h : xs.Pairwise (· < ·)) {i j : Nat} {x y : Int} (hij : i < j) (hx : xs[i]? = some x) (hy : xs[j]? = some y) : x < y := by
  obtain ⟨h1, e1⟩ := List.getElem?_eq_some_iff.1 hx
  obtain ⟨h2, e2⟩ := List.getElem?_eq_some_iff.1 hy
  have := List.pairwise_iff_getElem.1 h i j h1 h2 hij
  rw [e1, e2] at this
  exact this
set_option maxHeartbeats 4000000 in
theorem bsearch_c {S : Nat → Prop} {H : Heap} {a : Option Addr} {c : Nat} {xs : List Int} {t : Int} (hS : ∀ k, S k → k < H.size) (h : SlD tIk S H a c xs) (hsrt : xs.Pairwise (· < ·)) (hlen : xs.length ≤ 65536) :
    FnOk Tryz.prog 40 #[.slice a xs.length c, .int .i64 t] H fun r H' => Agr (Old H) H H' ∧ ∃ i : Nat, r = .tuple #[.int .i64 (i : Int), .bool (decide (t ∈ xs))] := by
  refine FnOk.of_vc Tryz.func40 rfl (Tryz.call40 _) ?_
  (conv => whnf)
  refine VLoop.mk [7, 8] (fun x : Nat × Nat => match x with | (i, j) => [.int .i64 (i : Int), .int .i64 (j : Int)]) (fun x H2 => x.1 ≤ x.2 ∧ x.2 ≤ xs.length ∧ (∀ k y, k < x.1 → xs[k]? = some y → y < t) ∧ (∀ k y, x.2 ≤ k → xs[k]? = some y → t ≤ y) ∧ Agr (Old H) H H2) (fun x _ => x.2 - x.1) ?_ ?_
  · (conv => whnf)
    exact ⟨(0, xs.length), rfl, Nat.zero_le _, Nat.le_refl _, (fun k y h => by omega), (fun k y h1 h2 => by have := (List.getElem?_eq_some_iff.1 h2).1; omega), Agr.refl _ _⟩
  · rintro ⟨i, j⟩ H2 junk ⟨hij, hj, hlo, hhi, ha⟩
    simp only at hij hj hlo hhi ha
    have hd := h.frame (ha.mono hS)
    (conv => whnf); refine VIte.mk (fun hz => ?_) (fun hz => ?_) <;> simp only [decide_eq_true_eq, decide_eq_false_iff_not] at hz
    · obtain ⟨m, hm⟩ : ∃ m, m = (i + j) / 2 := ⟨_, rfl⟩
      have e1 : IntKind.wrap .i64 ((i : Int) + (j : Int)) = ((i + j : Nat) : Int) := by rw [w64 (by omega) (by omega)]; omega
      have e2 : IntKind.wrap .u64 (((i + j : Nat) : Int)) = ((i + j : Nat) : Int) := wrap_in (k := .u64) (inU64 (by omega))
      have e3 : IntKind.wrap .i64 (((i + j : Nat) / 2 ^ 1 : Nat) : Int) = (m : Int) := by rw [w64 (by omega) (by omega), hm]
      obtain ⟨y, hy⟩ := get_some (l := xs) (k := m) (by omega)
      (conv => whnf); rw [e1, e2]
      (conv => whnf); refine vshr (k := .u64) (b := 1) (by decide) ?_
      (conv => whnf); rw [e3]
      (conv => whnf); refine ixr (i := m) sl54 hd hy rfl ?_
      rintro b3 o3 c3 hS3 hc3 ⟨rfl, -⟩
      (conv => whnf); refine ld1 ct3 hc3.one trivial ?_
      (conv => whnf); refine pures (less_p y t H2) fun H3 ha3 => ?_
      have h3 := ha.trans (ha3.mono fun k hk => old_lt ha hk)
      by_cases hlt : y < t
      · have d1 : decide (y < t) = true := decide_eq_true hlt
        (conv => whnf); rw [d1]
        (conv => whnf); rw [w64 (x := (m : Int) + 1) (by omega) (by omega)]
        refine ⟨rfl, (m + 1, j), by simp, ⟨by simp only; omega, hj, fun k z hk hz => ?_, hhi, h3⟩, by simp only; omega⟩
        by_cases hkm : k = m
        · subst hkm; rw [hy] at hz; cases hz; exact hlt
        · have := srt_get hsrt (show k < m by omega) hz hy; omega
      · have d1 : decide (y < t) = false := decide_eq_false hlt
        (conv => whnf); rw [d1]
        (conv => whnf)
        refine ⟨rfl, (i, m), rfl, ⟨by simp only; omega, by simp only; omega, hlo, fun k z hk hz => ?_, h3⟩, by simp only; omega⟩
        by_cases hkm : k = m
        · subst hkm; rw [hy] at hz; cases hz; omega
        · have := srt_get hsrt (show m < k by omega) hy hz; omega
    · obtain rfl : i = j := by omega
      by_cases hin : i < xs.length
      · have d0 : decide ((i : Int) < (xs.length : Int)) = true := decide_eq_true (by omega)
        obtain ⟨y, hy⟩ := get_some (l := xs) (k := i) hin
        (conv => whnf); rw [d0]
        (conv => whnf); refine ixr (i := i) sl54 hd hy rfl ?_
        rintro b3 o3 c3 hS3 hc3 ⟨rfl, -⟩
        (conv => whnf); refine ld1 ct3 hc3.one trivial ?_
        by_cases he : y = t
        · have d1 : (y == t) = true := by rw [he]; simp
          (conv => whnf); rw [d1]
          (conv => whnf)
          exact ⟨ha, i, by rw [decide_eq_true (he ▸ List.mem_of_getElem? hy)]⟩
        · have d1 : (y == t) = false := beq_eq_false_iff_ne.2 he
          have hno : t ∉ xs := fun hm => by
            obtain ⟨k, hk⟩ := List.getElem?_of_mem hm
            rcases Nat.lt_trichotomy k i with h1 | h1 | h1
            · have := hlo k t h1 hk; omega
            · subst h1; rw [hy] at hk; cases hk; exact he rfl
            · have h5 := srt_get hsrt h1 hy hk
              have := hhi i y (Nat.le_refl _) hy
              omega
          (conv => whnf); rw [d1]
          (conv => whnf); refine ixr (i := i) sl54 hd hy rfl ?_
          rintro b4 o4 c4 hS4 hc4 ⟨rfl, -⟩
          (conv => whnf); refine ld1 ct3 hc4.one trivial ?_
          (conv => whnf); refine pures (isNaN2_p y H2) fun H3 ha3 => ?_
          (conv => whnf)
          exact ⟨ha.trans (ha3.mono fun k hk => old_lt ha hk), i, by rw [decide_eq_false hno]⟩
      · have d0 : decide ((i : Int) < (xs.length : Int)) = false := decide_eq_false (by omega)
        have hno : t ∉ xs := fun hm => by
          obtain ⟨k, hk⟩ := List.getElem?_of_mem hm
          have h2 := (List.getElem?_eq_some_iff.1 hk).1
          have := hlo k t (by omega) hk; omega
        (conv => whnf); rw [d0]
        (conv => whnf)
        exact ⟨ha, i, by rw [decide_eq_false hno]⟩
set_option maxHeartbeats 4000000 in
theorem accepts_n {S : Nat → Prop} {H : Heap} {v : Value} {a : NfM} {s : ByteArray} (hS : ∀ k, S k → k < H.size) (h : NfV S H v a) (hs : s.size ≤ maxLen) :
    Pure Tryz.prog 13 #[v, .string s] H (.bool (accN a (byN s))) := by
  have hr := h.1
  have hl := h.2.1
  refine FnOk.of_vc Tryz.func13 rfl (Tryz.call13 _) ?_
  (conv => whnf); refine nf_box h fun ea ec he h1 => ?_
  subst he
  intro p H1 hp hs1 hb1 ha1
  have st1 := (St.nil H).box hp hs1 hb1 ha1
  have hb := st1.blk 0 rfl
  have hpl := hb.lt
  (conv => whnf); refine VDraw.heldZ (Old H1) [] (sq [0,1,3,4] (.f 2 (.f 5 (sq [6,7,8,9] (.f 10 .e))))) rfl (by kernel_rfl) ?_
  (conv => whnf); refine nf_load hr hl hb ag37 hpl (h1.frame (st1.old.mono hS)) fun v2 hv2 => ?_
  (conv => whnf); refine fa fl37_2 ?_
  (conv => whnf); refine ld1 (v := .int .i64 a.fin) ct3 (by rw [hb.cell]; rfl) hpl ?_
  (conv => whnf); refine VCall.mk (reach_n (fun k hk => st1.up (hS k hk)) hv2 hs) ?_
  rintro _ H4 ⟨ha4, ra, rc, rfl, hown⟩
  obtain ⟨ra', rc', e4, st4⟩ := st1.got ha4 hown
  injection e4 with e41 e42 e43
  subst e41; subst e43
  refine ⟨ha4, ?_⟩
  (conv => whnf); refine VCall.mk (bsearch_c (S := Old H4) (t := a.fin) (fun k hk => hk) (st4.view 1 rfl) (lstS_srt _) (lstS_len _)) ?_
  rintro _ H5 ⟨ha5, i, rfl⟩
  have st5 := st4.call ha5
  have h15 : Agr (Old H1) H1 H5 := ha4.trans (ha5.mono fun k hk => old_lt ha4 hk)
  refine ⟨h15, ?_⟩
  (conv => whnf)
  refine ⟨h15, ?_⟩
  (conv => whnf)
  exact ⟨by rw [acc_mem4], st5.old⟩
end Go.Proofs.YtlnmhfhdjnenoaaGreatDoor
/- Trees of texts; Size, Text, Build over trees without signs: the walks. -/
set_option linter.unusedVariables false
set_option linter.unusedSimpArgs false
set_option maxRecDepth 100000
namespace Go.Proofs.YtlnmhfhdjnenoaaGreatDoor
open Go.VC
def nodeT : ReM → TypeId
  | .eps => 127
  | .cls _ => 130
  | .cat _ _ => 132
  | .alt _ _ => 163
  | .star _ => 165
  | .and_ _ _ => 166
  | .minus _ _ => 167
def nodeP : ReM → Value
  | .eps => .agg #[]
  | .cls s => setV s
  | .cat a b => .agg #[nodeV a, nodeV b]
  | .alt a b => .agg #[nodeV a, nodeV b]
  | .star a => .agg #[nodeV a]
  | .and_ a b => .agg #[nodeV a, nodeV b]
  | .minus a b => .agg #[nodeV a, nodeV b]
theorem nodeV_eq (r : ReM) : nodeV r = .iface (nodeT r) (nodeP r) := by cases r <;> rfl
def sizeF : ReM → FuncId
  | .eps => 161
  | .cls _ => 163
  | .cat _ _ => 165
  | .alt _ _ => 168
  | .star _ => 170
  | .and_ _ _ => 172
  | .minus _ _ => 174
theorem size_m (r : ReM) (w : World) : (callMethod (.iface (nodeT r) (nodeP r)) "Size" #[]).run Tryz.prog w = .ok (.enter (sizeF r) #[nodeP r]) w := by
  cases r with
  | eps => exact m_eps_size _ w
  | cls => exact m_cls_size _ w
  | cat => exact m_cat_size _ w
  | alt => exact m_alt_size _ w
  | star => exact m_star_size _ w
  | and_ => exact m_and_size _ w
  | minus => exact m_minus_size _ w
theorem sure_p (r : ReM) (H : Heap) : Pure Tryz.prog 166 #[nodeV r] H (.iface (nodeT r) (nodeP r)) := by
  rw [nodeV_eq]
  refine FnOk.of_vc Tryz.func166 rfl (Tryz.call166 _) ?_
  (conv => whnf); refine ifeq Tryz.underlying24 ?_
  (conv => whnf)
  exact ⟨rfl, Agr.refl _ _⟩
set_option maxHeartbeats 4000000 in
theorem size_p : ∀ (r : ReM), r.nodes ≤ 1000000000 → ∀ (H : Heap), Pure Tryz.prog (sizeF r) #[nodeP r] H (.int .i64 (r.nodes : Int)) := fun r => by
  induction r with
  | eps =>
    intro hn H
    refine FnOk.of_vc Tryz.func161 rfl (Tryz.call161 _) ?_
    (conv => whnf); refine vbox [] rfl ?_
    intro x H1 hx hs1 hb1 ha1
    have st1 := (St.nil H).box hx hs1 hb1 ha1
    (conv => whnf)
    exact ⟨rfl, st1.old⟩
  | cls s =>
    intro hn H
    refine FnOk.of_vc Tryz.func163 rfl (Tryz.call163 _) ?_
    (conv => whnf); refine vbox (setL s) rfl ?_
    intro x H1 hx hs1 hb1 ha1
    have st1 := (St.nil H).box hx hs1 hb1 ha1
    (conv => whnf)
    exact ⟨rfl, st1.old⟩
  | cat a b iha ihb =>
    intro hn H
    simp only [ReM.nodes] at hn
    refine FnOk.of_vc Tryz.func165 rfl (Tryz.call165 _) ?_
    (conv => whnf); refine vbox [nodeV a, nodeV b] rfl ?_
    intro x H1 hx hs1 hb1 ha1
    have st1 := (St.nil H).box hx hs1 hb1 ha1
    have hxl := hb1.lt
    (conv => whnf); refine VDraw.heldZ (Old H1) [] (sq [0,1,5,6] (.f 2 (.f 3 (sq [4] (.f 7 (.f 8 (sq [9] (.f 10 .e)))))))) rfl (by kernel_rfl) ?_
    (conv => whnf); refine fa fl132_0 ?_
    (conv => whnf); refine ld1 (v := nodeV a) ct24 (by rw [hb1.cell]; rfl) hxl ?_
    (conv => whnf); refine fa fl132_1 ?_
    (conv => whnf); refine ld1 (v := nodeV b) ct24 (by rw [hb1.cell]; rfl) hxl ?_
    (conv => whnf); refine pures (sure_p a H1) fun H2 ha2 => ?_
    refine ⟨ha2, ?_⟩
    (conv => whnf); refine VInv.mk (sizeF a) #[nodeP a] (size_m a) (iha (by omega) H2) ?_
    rintro _ H3 ⟨rfl, ha3⟩
    have h13 := ha2.trans (ha3.mono fun k hk => old_lt ha2 hk)
    refine ⟨h13, ?_⟩
    (conv => whnf); rw [w64 (x := 1 + (a.nodes : Int)) (by omega) (by omega)]
    (conv => whnf); refine pures (sure_p b H3) fun H4 ha4 => ?_
    have h14 := h13.trans (ha4.mono fun k hk => old_lt h13 hk)
    refine ⟨h14, ?_⟩
    (conv => whnf); refine VInv.mk (sizeF b) #[nodeP b] (size_m b) (ihb (by omega) H4) ?_
    rintro _ H5 ⟨rfl, ha5⟩
    have h15 := h14.trans (ha5.mono fun k hk => old_lt h14 hk)
    refine ⟨h15, ?_⟩
    (conv => whnf); rw [w64 (x := 1 + (a.nodes : Int) + (b.nodes : Int)) (by omega) (by omega)]
    refine ⟨h15, ?_⟩
    (conv => whnf)
    exact ⟨by simp only [ReM.nodes]; simp, st1.old.trans (h15.mono fun k hk => st1.up hk)⟩
  | alt a b iha ihb =>
    intro hn H
    simp only [ReM.nodes] at hn
    refine FnOk.of_vc Tryz.func168 rfl (Tryz.call168 _) ?_
    (conv => whnf); refine vbox [nodeV a, nodeV b] rfl ?_
    intro x H1 hx hs1 hb1 ha1
    have st1 := (St.nil H).box hx hs1 hb1 ha1
    have hxl := hb1.lt
    (conv => whnf); refine VDraw.heldZ (Old H1) [] (sq [0,1,5,6] (.f 2 (.f 3 (sq [4] (.f 7 (.f 8 (sq [9] (.f 10 .e)))))))) rfl (by kernel_rfl) ?_
    (conv => whnf); refine fa fl163_0 ?_
    (conv => whnf); refine ld1 (v := nodeV a) ct24 (by rw [hb1.cell]; rfl) hxl ?_
    (conv => whnf); refine fa fl163_1 ?_
    (conv => whnf); refine ld1 (v := nodeV b) ct24 (by rw [hb1.cell]; rfl) hxl ?_
    (conv => whnf); refine pures (sure_p a H1) fun H2 ha2 => ?_
    refine ⟨ha2, ?_⟩
    (conv => whnf); refine VInv.mk (sizeF a) #[nodeP a] (size_m a) (iha (by omega) H2) ?_
    rintro _ H3 ⟨rfl, ha3⟩
    have h13 := ha2.trans (ha3.mono fun k hk => old_lt ha2 hk)
    refine ⟨h13, ?_⟩
    (conv => whnf); rw [w64 (x := 1 + (a.nodes : Int)) (by omega) (by omega)]
    (conv => whnf); refine pures (sure_p b H3) fun H4 ha4 => ?_
    have h14 := h13.trans (ha4.mono fun k hk => old_lt h13 hk)
    refine ⟨h14, ?_⟩
    (conv => whnf); refine VInv.mk (sizeF b) #[nodeP b] (size_m b) (ihb (by omega) H4) ?_
    rintro _ H5 ⟨rfl, ha5⟩
    have h15 := h14.trans (ha5.mono fun k hk => old_lt h14 hk)
    refine ⟨h15, ?_⟩
    (conv => whnf); rw [w64 (x := 1 + (a.nodes : Int) + (b.nodes : Int)) (by omega) (by omega)]
    refine ⟨h15, ?_⟩
    (conv => whnf)
    exact ⟨by simp only [ReM.nodes]; simp, st1.old.trans (h15.mono fun k hk => st1.up hk)⟩
  | star a iha =>
    intro hn H
    simp only [ReM.nodes] at hn
    refine FnOk.of_vc Tryz.func170 rfl (Tryz.call170 _) ?_
    (conv => whnf); refine vbox [nodeV a] rfl ?_
    intro x H1 hx hs1 hb1 ha1
    have st1 := (St.nil H).box hx hs1 hb1 ha1
    (conv => whnf); refine fa fl165_0 ?_
    (conv => whnf); refine ld1 (v := nodeV a) ct24 (by rw [hb1.cell]; rfl) trivial ?_
    (conv => whnf); refine pures (sure_p a H1) fun H2 ha2 => ?_
    have st2 := st1.call ha2
    (conv => whnf); refine VInv.mk (sizeF a) #[nodeP a] (size_m a) (iha (by omega) H2) ?_
    rintro _ H3 ⟨rfl, ha3⟩
    have st3 := st2.call ha3
    (conv => whnf); rw [w64 (x := 1 + (a.nodes : Int)) (by omega) (by omega)]
    (conv => whnf)
    exact ⟨by simp only [ReM.nodes]; simp, st3.old⟩
  | and_ a b iha ihb =>
    intro hn H
    simp only [ReM.nodes] at hn
    refine FnOk.of_vc Tryz.func172 rfl (Tryz.call172 _) ?_
    (conv => whnf); refine vbox [nodeV a, nodeV b] rfl ?_
    intro x H1 hx hs1 hb1 ha1
    have st1 := (St.nil H).box hx hs1 hb1 ha1
    have hxl := hb1.lt
    (conv => whnf); refine VDraw.heldZ (Old H1) [] (sq [0,1,5,6] (.f 2 (.f 3 (sq [4] (.f 7 (.f 8 (sq [9] (.f 10 .e)))))))) rfl (by kernel_rfl) ?_
    (conv => whnf); refine fa fl166_0 ?_
    (conv => whnf); refine ld1 (v := nodeV a) ct24 (by rw [hb1.cell]; rfl) hxl ?_
    (conv => whnf); refine fa fl166_1 ?_
    (conv => whnf); refine ld1 (v := nodeV b) ct24 (by rw [hb1.cell]; rfl) hxl ?_
    (conv => whnf); refine pures (sure_p a H1) fun H2 ha2 => ?_
    refine ⟨ha2, ?_⟩
    (conv => whnf); refine VInv.mk (sizeF a) #[nodeP a] (size_m a) (iha (by omega) H2) ?_
    rintro _ H3 ⟨rfl, ha3⟩
    have h13 := ha2.trans (ha3.mono fun k hk => old_lt ha2 hk)
    refine ⟨h13, ?_⟩
    (conv => whnf); rw [w64 (x := 1 + (a.nodes : Int)) (by omega) (by omega)]
    (conv => whnf); refine pures (sure_p b H3) fun H4 ha4 => ?_
    have h14 := h13.trans (ha4.mono fun k hk => old_lt h13 hk)
    refine ⟨h14, ?_⟩
    (conv => whnf); refine VInv.mk (sizeF b) #[nodeP b] (size_m b) (ihb (by omega) H4) ?_
    rintro _ H5 ⟨rfl, ha5⟩
    have h15 := h14.trans (ha5.mono fun k hk => old_lt h14 hk)
    refine ⟨h15, ?_⟩
    (conv => whnf); rw [w64 (x := 1 + (a.nodes : Int) + (b.nodes : Int)) (by omega) (by omega)]
    refine ⟨h15, ?_⟩
    (conv => whnf)
    exact ⟨by simp only [ReM.nodes]; simp, st1.old.trans (h15.mono fun k hk => st1.up hk)⟩
  | minus a b iha ihb =>
    intro hn H
    simp only [ReM.nodes] at hn
    refine FnOk.of_vc Tryz.func174 rfl (Tryz.call174 _) ?_
    (conv => whnf); refine vbox [nodeV a, nodeV b] rfl ?_
    intro x H1 hx hs1 hb1 ha1
    have st1 := (St.nil H).box hx hs1 hb1 ha1
    have hxl := hb1.lt
    (conv => whnf); refine VDraw.heldZ (Old H1) [] (sq [0,1,5,6] (.f 2 (.f 3 (sq [4] (.f 7 (.f 8 (sq [9] (.f 10 .e)))))))) rfl (by kernel_rfl) ?_
    (conv => whnf); refine fa fl167_0 ?_
    (conv => whnf); refine ld1 (v := nodeV a) ct24 (by rw [hb1.cell]; rfl) hxl ?_
    (conv => whnf); refine fa fl167_1 ?_
    (conv => whnf); refine ld1 (v := nodeV b) ct24 (by rw [hb1.cell]; rfl) hxl ?_
    (conv => whnf); refine pures (sure_p a H1) fun H2 ha2 => ?_
    refine ⟨ha2, ?_⟩
    (conv => whnf); refine VInv.mk (sizeF a) #[nodeP a] (size_m a) (iha (by omega) H2) ?_
    rintro _ H3 ⟨rfl, ha3⟩
    have h13 := ha2.trans (ha3.mono fun k hk => old_lt ha2 hk)
    refine ⟨h13, ?_⟩
    (conv => whnf); rw [w64 (x := 1 + (a.nodes : Int)) (by omega) (by omega)]
    (conv => whnf); refine pures (sure_p b H3) fun H4 ha4 => ?_
    have h14 := h13.trans (ha4.mono fun k hk => old_lt h13 hk)
    refine ⟨h14, ?_⟩
    (conv => whnf); refine VInv.mk (sizeF b) #[nodeP b] (size_m b) (ihb (by omega) H4) ?_
    rintro _ H5 ⟨rfl, ha5⟩
    have h15 := h14.trans (ha5.mono fun k hk => old_lt h14 hk)
    refine ⟨h15, ?_⟩
    (conv => whnf); rw [w64 (x := 1 + (a.nodes : Int) + (b.nodes : Int)) (by omega) (by omega)]
    refine ⟨h15, ?_⟩
    (conv => whnf)
    exact ⟨by simp only [ReM.nodes]; simp, st1.old.trans (h15.mono fun k hk => st1.up hk)⟩
/-! ### Build -/
theorem stM_nodes : ∀ r : ReM, stM r ≤ 2 * r.nodes
  | .eps => by simp [stM, ReM.nodes]
  | .cls _ => by simp [stM, ReM.nodes]
  | .cat a b => by have := stM_nodes a; have := stM_nodes b; simp only [stM, ReM.nodes]; omega
  | .alt a b => by have := stM_nodes a; have := stM_nodes b; simp only [stM, ReM.nodes]; omega
  | .star a => by have := stM_nodes a; simp only [stM, ReM.nodes]; omega
  | .and_ a b => by simp [stM]
  | .minus a b => by simp [stM]
def nfaOf (r : ReM) : NfM := ⟨(stM r : Int), ((bldM r 0).1 : Int), ((bldM r 0).2.1 : Int), (bldM r 0).2.2⟩
def zeroNf : Value := .agg #[.int .i64 0, .int .i64 0, .int .i64 0, .slice none 0 0]
/-- What Build of a plain tree answers. -/
def BldR (H H' : Heap) (r : ReM) (v : Value) : Prop := Agr (Old H) H H' ∧ if 2000 < r.nodes then v = .tuple #[zeroNf, .int .i64 24] else
  ∃ ea ec, v = .tuple #[.agg (nfL (nfaOf r) (.slice ea (nfaOf r).edges.length ec)).toArray, .int .i64 0] ∧ SlO tEd none_ H' H.size 104 (.slice ea (nfaOf r).edges.length ec) (nfaOf r).edges
theorem bd_z : (Tryz.prog.info? 118).bind (·.zero) = some (.agg #[.int .i64 0, .int .i64 0, .int .i64 0, .slice none 0 0, .nilFunc, .int .i64 0]) := rfl
set_option maxHeartbeats 4000000 in
theorem buildWith_c (r : ReM) (hpl : r.plain = true) (hb : r.nodes ≤ 1000000000) (H : Heap) : FnOk Tryz.prog 16 #[nodeV r, .nilFunc] H fun v H' => BldR H H' r v := by
  rw [nodeV_eq]
  refine FnOk.of_vc Tryz.func16 rfl (Tryz.call16 _) ?_
  (conv => whnf); refine valloc _ [.int .i64 0, .int .i64 0, .int .i64 0, .slice none 0 0] nfa_z rfl ?_
  intro y H1 hy hs1 hb1 ha1
  have st1 := (St.nil H).box hy hs1 hb1 ha1
  (conv => whnf); refine ifneq Tryz.underlying24 ?_
  (conv => whnf); refine VInv.mk (sizeF r) #[nodeP r] (size_m r) (size_p r hb H1) ?_
  rintro _ H2 ⟨rfl, ha2⟩
  have st2 := st1.call ha2
  by_cases hbig : 2000 < r.nodes
  · have d1 : decide ((2000 : Int) < (r.nodes : Int)) = true := decide_eq_true (by omega)
    (conv => whnf); rw [d1]
    (conv => whnf); refine vbuildS Tryz.underlying37 rfl _ nfa_z [.int .i64 0, .int .i64 0, .int .i64 0, .slice none 0 0] rfl ?_
    (conv => whnf); refine stNB (cs := [.int .i64 0, .int .i64 0, .int .i64 0, .slice none 0 0]) st2 0 rfl rfl (Nat.le_refl _) rfl fun H3 st3 => ?_
    (conv => whnf); refine ldN (cs := [.int .i64 0, .int .i64 0, .int .i64 0, .slice none 0 0]) ag37 ((st3.blk 0 rfl).cells fun j v hv => by rw [Nat.zero_add]; exact hv) trivial ?_
    (conv => whnf)
    exact ⟨st3.old, by rw [if_pos hbig]; rfl⟩
  · have d1 : decide ((2000 : Int) < (r.nodes : Int)) = false := decide_eq_false (by omega)
    have hst := stM_nodes r
    have hin := bldM_in r hpl 0
    (conv => whnf); rw [d1]
    (conv => whnf); refine vbuildS Tryz.underlying118 rfl _ bd_z (bdL 0 (.slice none 0 0) .nilFunc) (by kernel_rfl) ?_
    (conv => whnf); refine vbox (bdL 0 (.slice none 0 0) .nilFunc) rfl ?_
    intro bb H3 hbb hs3 hb3 ha3
    have st3 : St H H3 (pB tBd bb (bdL 0 (.slice none 0 0) .nilFunc) :: pS tEd 104 none 0 0 [] :: [pB 37 y [.int .i64 0, .int .i64 0, .int .i64 0, .slice none 0 0]]) := ((st2.box hbb hs3 hb3 ha3).nils tEd 104).pick [1, 2, 0] (by decide)
    have hp := part_c (sub := .nilFunc) (n := 0) (es := []) r hpl st3 (by omega) (by simp only [List.length_nil]; omega)
    rw [nodeV_eq] at hp
    (conv => whnf); refine VCall.mk hp ?_
    rintro _ H4 ⟨rfl, a4, c4, st4⟩
    rw [List.nil_append, Nat.zero_add] at st4
    (conv => whnf); refine fa fl118_0 ?_
    (conv => whnf); refine fa fl37_1 ?_
    (conv => whnf); refine st1B st4 0 ct3 rfl (show 1 < 6 by decide) rfl fun H5 st5 => ?_
    (conv => whnf); refine fa fl118_0 ?_
    (conv => whnf); refine fa fl37_2 ?_
    (conv => whnf); refine st1B st5 0 ct3 rfl (show 2 < 6 by decide) rfl fun H6 st6 => ?_
    (conv => whnf); refine fa fl118_2 ?_
    (conv => whnf); refine ld1 (v := .int .i64 0) ct25 (by rw [(st6.blk 0 rfl).cell]; rfl) trivial ?_
    (conv => whnf); refine fa fl118_0 ?_
    (conv => whnf); refine fa fl37_0 ?_
    (conv => whnf); refine ld1 (v := .int .i64 (stM r : Int)) ct3 (by rw [(st6.blk 0 rfl).cell]; rfl) trivial ?_
    have d2 : decide ((65536 : Int) < (stM r : Int)) = false := decide_eq_false (by omega)
    (conv => whnf); rw [d2]
    (conv => whnf); refine fa fl118_0 ?_
    have hc6 : Cells H6 bb 0 (nfL (nfaOf r) (.slice a4 (nfaOf r).edges.length c4)) := (st6.blk 0 rfl).cells fun j v hv => by
      rw [Nat.zero_add]
      match j, hv with
      | 0, hv => exact hv
      | 1, hv => exact hv
      | 2, hv => exact hv
      | 3, hv => exact hv
    (conv => whnf); refine ldN (cs := nfL (nfaOf r) (.slice a4 (nfaOf r).edges.length c4)) ag37 hc6 trivial ?_
    (conv => whnf); refine stNB (cs := nfL (nfaOf r) (.slice a4 (nfaOf r).edges.length c4)) st6 2 rfl rfl (Nat.le_refl _) rfl fun H7 st7 => ?_
    rw [splice_all (show (nfL (nfaOf r) (.slice a4 (nfaOf r).edges.length c4)).length = 4 from rfl)] at st7
    (conv => whnf); refine ldN (cs := nfL (nfaOf r) (.slice a4 (nfaOf r).edges.length c4)) ag37 ((st7.blk 2 rfl).cells fun j v hv => by rw [Nat.zero_add]; exact hv) trivial ?_
    (conv => whnf)
    exact ⟨st7.old, by rw [if_neg hbig]; exact ⟨a4, c4, rfl, St.own st7 1 rfl⟩⟩
set_option maxHeartbeats 4000000 in
theorem build_c (r : ReM) (hpl : r.plain = true) (hb : r.nodes ≤ 1000000000) (H : Heap) : FnOk Tryz.prog 9 #[nodeV r] H fun v H' => BldR H H' r v := by
  refine FnOk.of_vc Tryz.func9 rfl (Tryz.call9 _) ?_
  (conv => whnf); refine valloc _ [.int .i64 0, .int .i64 0, .int .i64 0, .slice none 0 0] nfa_z rfl ?_
  intro y H1 hy hs1 hb1 ha1
  have st1 := (St.nil H).box hy hs1 hb1 ha1
  (conv => whnf); refine VCall.mk (buildWith_c r hpl hb H1) ?_
  rintro v H2 ⟨ha2, hv⟩
  have st2 := st1.call ha2
  by_cases hbig : 2000 < r.nodes
  · rw [if_pos hbig] at hv
    subst hv
    (conv => whnf); refine stNB (cs := [.int .i64 0, .int .i64 0, .int .i64 0, .slice none 0 0]) st2 0 rfl rfl (Nat.le_refl _) rfl fun H3 st3 => ?_
    (conv => whnf); refine ldN (cs := [.int .i64 0, .int .i64 0, .int .i64 0, .slice none 0 0]) ag37 ((st3.blk 0 rfl).cells fun j v hv => by rw [Nat.zero_add]; exact hv) trivial ?_
    (conv => whnf)
    exact ⟨st3.old, by rw [if_pos hbig]; rfl⟩
  · rw [if_neg hbig] at hv
    obtain ⟨ea, ec, rfl, hown⟩ := hv
    obtain ⟨ea', ec', e3, st3⟩ := st1.got ha2 hown
    injection e3 with e31 e32 e33
    subst e31; subst e33
    (conv => whnf); refine stNB (cs := nfL (nfaOf r) (.slice ea (nfaOf r).edges.length ec)) st3 0 rfl rfl (Nat.le_refl _) rfl fun H7 st7 => ?_
    rw [splice_all (show (nfL (nfaOf r) (.slice ea (nfaOf r).edges.length ec)).length = 4 from rfl)] at st7
    (conv => whnf); refine ldN (cs := nfL (nfaOf r) (.slice ea (nfaOf r).edges.length ec)) ag37 ((st7.blk 0 rfl).cells fun j v hv => by rw [Nat.zero_add]; exact hv) trivial ?_
    (conv => whnf)
    exact ⟨st7.old, by rw [if_neg hbig]; exact ⟨ea, ec, rfl, St.own st7 1 rfl⟩⟩
/-! ### texts -/
def oneS (b : Nat) : BitVec 256 := ofB 0#256 [b]
def textR : List Nat → ReM
  | [] => .eps
  | b :: l => l.foldl (fun r c => .cat r (.cls (oneS c))) (.cls (oneS b))
theorem textR_snoc {l : List Nat} (h : l ≠ []) (c : Nat) : textR (l ++ [c]) = .cat (textR l) (.cls (oneS c)) := by
  cases l with
  | nil => exact absurd rfl h
  | cons b l => simp [textR, List.foldl_append]
theorem textR_plain (l : List Nat) : (textR l).plain = true := by
  cases l with
  | nil => rfl
  | cons b l =>
    unfold textR
    have key : ∀ (l : List Nat) (r : ReM), r.plain = true → (l.foldl (fun r c => ReM.cat r (.cls (oneS c))) r).plain = true := by
      intro l
      induction l with
      | nil => exact fun r h => h
      | cons c l ih => exact fun r h => ih _ (by simp [ReM.plain, h])
    exact key l _ rfl
def textV (l : List Nat) : Value := match l with | [] => .nilIface | _ => nodeV (textR l)
theorem ext_one {s : ByteArray} {i : Nat} {c : UInt8} (h : s.data[i]? = some c) : byN (s.extract i (i + 1)) = [c.toNat] := by
  have hi := (Array.getElem?_eq_some_iff.1 h).1
  unfold byN
  rw [ByteArray.data_extract, Array.toList_extract, List.extract_eq_take_drop]
  have : (s.data.toList.drop i).take (i + 1 - i) = [c] := by
    rw [show i + 1 - i = 1 by omega]
    have h2 : s.data.toList[i]? = some c := by rw [Array.getElem?_toList]; exact h
    obtain ⟨h3, h4⟩ := List.getElem?_eq_some_iff.1 h2
    rw [List.drop_eq_getElem_cons h3, h4]
    rfl
  rw [this]
  rfl
set_option maxHeartbeats 8000000 in
theorem text_p (s : ByteArray) (hs : s.size ≤ 1048576) (H : Heap) : Pure Tryz.prog 23 #[.string s] H (nodeV (textR (byN s))) := by
  refine FnOk.of_vc Tryz.func23 rfl (Tryz.call23 _) ?_
  have hbl := byN_len s
  by_cases he : s.size = 0
  · have hnil : byN s = [] := List.eq_nil_of_length_eq_zero (by omega)
    have hse : s = ⟨#[]⟩ := text_inj (by
      have : s.data.toList = [] := List.eq_nil_of_length_eq_zero (by rw [Array.length_toList]; exact he)
      rw [this])
    have d0 : (s.toList == (⟨#[]⟩ : ByteArray).toList) = true := by rw [hse]; simp
    (conv => whnf); rw [d0]
    (conv => whnf); refine vbuildS Tryz.underlying127 rfl _ node_z1 [] rfl ?_
    (conv => whnf)
    exact ⟨by rw [hnil]; rfl, Agr.refl _ _⟩
  · have d0 : (s.toList == (⟨#[]⟩ : ByteArray).toList) = false := by
      cases h : (s.toList == (⟨#[]⟩ : ByteArray).toList) with
      | false => rfl
      | true =>
        rw [text_eq] at h
        rw [h] at he
        exact absurd rfl he
    (conv => whnf); rw [d0]
    (conv => whnf)
    refine VLoop.mk [3, 12] (fun i : Nat => [textV ((byN s).take i), .int .i64 (i : Int)]) (fun i H2 => i ≤ s.size ∧ St H H2 []) (fun i _ => s.size - i) ?_ ?_
    · (conv => whnf)
      exact ⟨0, rfl, Nat.zero_le _, St.nil H⟩
    · rintro i H2 junk ⟨hi, st2⟩
      (conv => whnf); refine VIte.mk (fun hz => ?_) (fun hz => ?_) <;> simp only [decide_eq_true_eq, decide_eq_false_iff_not] at hz
      · obtain ⟨c, hc⟩ := getB (s := s) (k := i) (by omega)
        have w1 : IntKind.wrap .i64 ((i : Int) + 1) = ((i + 1 : Nat) : Int) := by rw [w64 (by omega) (by omega)]; omega
        (conv => whnf); refine VSeq.run ?_
        (conv => whnf); rw [w1]
        (conv => whnf); refine vcutS (l := (i : Int)) (h := ((i + 1 : Nat) : Int)) Tryz.underlying9 (by omega) (by omega) (by omega) ?_
        rw [Int.toNat_natCast, Int.toNat_natCast]
        (conv => whnf); refine pures (of_p (s.extract i (i + 1)) (by simp; omega) H2) fun H3 ha3 => ?_
        have st3 := st2.call ha3
        rw [ext_one hc]
        (conv => whnf); refine vbuildS Tryz.underlying130 rfl _ node_z2 (setL (oneS c.toNat)) (by unfold setL; kernel_rfl) ?_
        (conv => whnf); refine valloc _ [.int .u64 0, .int .u64 0, .int .u64 0, .int .u64 0] node_z2 rfl ?_
        intro x H4 hx hs4 hb4 ha4
        have st4 := st3.box hx hs4 hb4 ha4
        (conv => whnf); refine stNB (cs := setL (oneS c.toNat)) st4 0 rfl rfl (Nat.le_refl _) rfl fun H5 st5 => ?_
        rw [splice_all (show (setL (oneS c.toNat)).length = 4 from rfl)] at st5
        have htk := take_succ_snoc (byN_get hc)
        have hb5 : Cells H5 x 0 (setL (oneS c.toNat)) := (st5.blk 0 rfl).cells fun j v hv => by rw [Nat.zero_add]; exact hv
        by_cases hi0 : i = 0
        · subst hi0
          (conv => whnf); refine ifeqN Tryz.underlying24 ?_
          (conv => whnf); refine ldN (cs := setL (oneS c.toNat)) ag130 hb5 trivial ?_
          (conv => whnf); rw [w1]
          refine ⟨rfl, 0 + 1, ?_, ⟨by omega, st5.pick [] (by decide)⟩, by omega⟩
          rw [htk]
          rfl
        · have hne : (byN s).take i ≠ [] := fun e => by
            have h := congrArg List.length e
            rw [List.length_take, hbl, List.length_nil] at h
            omega
          have htv : textV ((byN s).take i) = .iface (nodeT (textR ((byN s).take i))) (nodeP (textR ((byN s).take i))) := by
            rw [← nodeV_eq]
            cases h : (byN s).take i with
            | nil => exact absurd h hne
            | cons b l => rfl
          have htv2 : textV ((byN s).take (i + 1)) = .iface 132 (.agg #[.iface (nodeT (textR ((byN s).take i))) (nodeP (textR ((byN s).take i))), .iface 130 (setV (oneS c.toNat))]) := by
            have : textV ((byN s).take (i + 1)) = nodeV (textR ((byN s).take (i + 1))) := by
              cases h : (byN s).take (i + 1) with
              | nil =>
                have h9 := congrArg List.length h
                rw [List.length_take, hbl, List.length_nil] at h9
                omega
              | cons b l => rfl
            rw [this, htk, textR_snoc hne, ← nodeV_eq]
            rfl
          rw [htv]
          generalize nodeT (textR ((byN s).take i)) = NT at *
          generalize nodeP (textR ((byN s).take i)) = NP at *
          (conv => whnf); refine ifeq Tryz.underlying24 ?_
          (conv => whnf); refine ldN (cs := setL (oneS c.toNat)) ag130 hb5 trivial ?_
          (conv => whnf); refine vbuildS Tryz.underlying132 rfl _ node_z3 [.iface NT NP, .iface 130 (setV (oneS c.toNat))] rfl ?_
          (conv => whnf); rw [w1]
          refine ⟨rfl, i + 1, ?_, ⟨by omega, st5.pick [] (by decide)⟩, by omega⟩
          rw [htv2]
      · obtain rfl : i = s.size := by omega
        (conv => whnf)
        rw [List.take_of_length_le (by rw [hbl]; exact Nat.le_refl _)]
        refine ⟨?_, st2.old⟩
        cases h : byN s with
        | nil => rw [h] at hbl; simp at hbl; omega
        | cons b l => rfl
end Go.Proofs.YtlnmhfhdjnenoaaGreatDoor
/- The document's trees: a list of nodes, each behind its parts; Size, below. -/
set_option linter.unusedVariables false
set_option linter.unusedSimpArgs false
set_option maxRecDepth 100000
namespace Go.Proofs.YtlnmhfhdjnenoaaGreatDoor
open Go.VC
structure RnM where
  op : Int
  set : BitVec 256
  l : Int
  r : Int
  m : Int
  n : Int
def rnCells (op : Value) (bits : List Value) (a b m n : Value) : List Value := [op] ++ (bits ++ [a, b, m, n])
def rnL (d : RnM) : List Value := rnCells (.int .i64 d.op) (bitsL d.set) (.int .i64 d.l) (.int .i64 d.r) (.int .i64 d.m) (.int .i64 d.n)
theorem rnL_len (d : RnM) : (rnL d).length = 261 := by
  unfold rnL rnCells
  simp [bitsL_len]
theorem rn_op (d : RnM) : (rnL d)[0]? = some (.int .i64 d.op) := rfl
theorem rn_l (d : RnM) : (rnL d)[257]? = some (.int .i64 d.l) := by
  unfold rnL rnCells
  rw [List.getElem?_append_right (by simp), List.getElem?_append_right (by simp [bitsL_len])]
  simp [bitsL_len]
theorem rn_r (d : RnM) : (rnL d)[258]? = some (.int .i64 d.r) := by
  unfold rnL rnCells
  rw [List.getElem?_append_right (by simp), List.getElem?_append_right (by simp [bitsL_len])]
  simp [bitsL_len]
theorem rn_set (d : RnM) : ∀ (j : Nat) (v : Value), (bitsL d.set)[j]? = some v → (rnL d)[1 + j]? = some v := by
  intro j v h
  have hj : j < 256 := by have := (List.getElem?_eq_some_iff.1 h).1; rwa [bitsL_len] at this
  unfold rnL rnCells
  rw [List.getElem?_append_right (by simp), List.getElem?_append_left (by rw [bitsL_len]; simp; omega)]
  simpa using h
def RnM.Ok (d : RnM) : Prop := inK .i64 d.op ∧ inK .i64 d.l ∧ inK .i64 d.r ∧ inK .i64 d.m ∧ inK .i64 d.n
def tRn : Ty RnM where
  size := 261
  rep _ _ cs d := cs = rnL d ∧ d.Ok
  len h := by rw [h.1]; exact rnL_len _
  frame h _ := h
  mono h _ := h
theorem rn_ones (d : RnM) : (rnL d).all (·.oneCell') = true := by
  unfold rnL rnCells
  rw [List.all_append, List.all_append, bitsL, bits_ones]
  rfl
/-! ### building nodes -/
def rnZ : List Value := rnCells (.int .i64 0) (List.replicate 256 (.bool false)) (.int .i64 0) (.int .i64 0) (.int .i64 0) (.int .i64 0)
theorem rnZ_len : rnZ.length = 261 := by simp [rnZ, rnCells]
theorem rn_z : (Tryz.prog.info? 94).bind (·.zero) = some (.agg rnZ.toArray) := by kernel_rfl
theorem bitsL_zero : bitsL 0#256 = List.replicate 256 (.bool false) := by
  apply List.ext_getElem?
  intro i
  by_cases hi : i < 256
  · rw [bitsL_get _ hi, List.getElem?_replicate, if_pos hi]; simp
  · rw [List.getElem?_eq_none (by rw [bitsL_len]; omega), List.getElem?_eq_none (by simp; omega)]
section
variable {op op' a a' b b' m n : Value} {bits bits' : List Value}
theorem rs_op : splice (rnCells op bits a b m n) 0 [op'] = rnCells op' bits a b m n := rfl
theorem rs_set (h : bits.length = 256) (h' : bits'.length = 256) : splice (rnCells op bits a b m n) 1 bits' = rnCells op bits' a b m n := by
  unfold splice rnCells
  rw [show ([op] ++ (bits ++ [a, b, m, n])).take 1 = [op] from rfl, h', show 1 + 256 = 256 + 1 by omega, show ([op] ++ (bits ++ [a, b, m, n])).drop (256 + 1) = (bits ++ [a, b, m, n]).drop 256 from rfl, List.drop_left' h, List.append_assoc]
theorem rs_l (h : bits.length = 256) : splice (rnCells op bits a b m n) 257 [a'] = rnCells op bits a' b m n := by
  unfold splice rnCells
  have e1 : ([op] ++ (bits ++ [a, b, m, n])).take 257 = [op] ++ bits := by
    rw [show ([op] ++ (bits ++ [a, b, m, n])).take (256 + 1) = op :: (bits ++ [a, b, m, n]).take 256 from rfl, List.take_left' h]; rfl
  have e2 : ([op] ++ (bits ++ [a, b, m, n])).drop (257 + 1) = [b, m, n] := by
    rw [show ([op] ++ (bits ++ [a, b, m, n])).drop (257 + 1) = (bits ++ [a, b, m, n]).drop 257 from rfl, show (257 : Nat) = bits.length + 1 by omega, List.drop_length_add_append]; rfl
  rw [e1, show 257 + [a'].length = 257 + 1 from rfl, e2]
  simp
theorem rs_r (h : bits.length = 256) : splice (rnCells op bits a b m n) 258 [b'] = rnCells op bits a b' m n := by
  unfold splice rnCells
  have e1 : ([op] ++ (bits ++ [a, b, m, n])).take 258 = [op] ++ (bits ++ [a]) := by
    rw [show ([op] ++ (bits ++ [a, b, m, n])).take (257 + 1) = op :: (bits ++ [a, b, m, n]).take 257 from rfl, show (257 : Nat) = bits.length + 1 by omega, List.take_length_add_append]; rfl
  have e2 : ([op] ++ (bits ++ [a, b, m, n])).drop (258 + 1) = [m, n] := by
    rw [show ([op] ++ (bits ++ [a, b, m, n])).drop (258 + 1) = (bits ++ [a, b, m, n]).drop 258 from rfl, show (258 : Nat) = bits.length + 2 by omega, List.drop_length_add_append]; rfl
  rw [e1, show 258 + [b'].length = 258 + 1 from rfl, e2]
  simp
theorem rnCells_len (h : bits.length = 256) : (rnCells op bits a b m n).length = 261 := by unfold rnCells; simp [h]
end
theorem rn_build1 (x : Int) (s : BitVec 256) {S : Nat → Prop} {H : Heap} {K : Value → Prop} (k : K (.agg (rnL ⟨x, s, 0, 0, 0, 0⟩).toArray)) :
    VDet Tryz.prog (Instr.build 94 [(0, .int .i64 x), (1, .agg (bitsL s).toArray)].toArray) S H K := by
  refine vbuildS Tryz.underlying94 rfl (.agg rnZ.toArray) rn_z (rnL ⟨x, s, 0, 0, 0, 0⟩) ?_ k
  have hr : (List.replicate 256 (Value.bool false)).length = 256 := List.length_replicate
  refine (fill_cons (i := 0) (off := 0) (size := 1) (by kernel_rfl) rfl (by show _ ≤ rnZ.toArray.size; rw [List.size_toArray, rnZ_len]; decide)).trans ?_
  have e0 : splice (Value.agg rnZ.toArray).cells.toList 0 (Value.int .i64 x).cells.toList = rnCells (.int .i64 x) (List.replicate 256 (.bool false)) (.int .i64 0) (.int .i64 0) (.int .i64 0) (.int .i64 0) := rs_op
  rw [e0]
  have ec : (Value.agg (bitsL s).toArray).cells = (bitsL s).toArray := rfl
  refine (fill_cons (i := 1) (off := 1) (size := 256) (by kernel_rfl) (by rw [ec, List.size_toArray, bitsL_len]) (by rw [List.size_toArray, rnCells_len hr]; decide)).trans ?_
  rw [ec, List.toList_toArray, List.toList_toArray, rs_set hr (bitsL_len s)]
  rfl
theorem rn_build2 (x y z : Int) {S : Nat → Prop} {H : Heap} {K : Value → Prop} (k : K (.agg (rnL ⟨x, 0#256, y, z, 0, 0⟩).toArray)) :
    VDet Tryz.prog (Instr.build 94 [(0, .int .i64 x), (2, .int .i64 y), (3, .int .i64 z)].toArray) S H K := by
  refine vbuildS Tryz.underlying94 rfl (.agg rnZ.toArray) rn_z (rnL ⟨x, 0#256, y, z, 0, 0⟩) ?_ k
  have hr : (List.replicate 256 (Value.bool false)).length = 256 := List.length_replicate
  refine (fill_cons (i := 0) (off := 0) (size := 1) (by kernel_rfl) rfl (by show _ ≤ rnZ.toArray.size; rw [List.size_toArray, rnZ_len]; decide)).trans ?_
  have e0 : splice (Value.agg rnZ.toArray).cells.toList 0 (Value.int .i64 x).cells.toList = rnCells (.int .i64 x) (List.replicate 256 (.bool false)) (.int .i64 0) (.int .i64 0) (.int .i64 0) (.int .i64 0) := rs_op
  rw [e0]
  refine (fill_cons (i := 2) (off := 257) (size := 1) (by kernel_rfl) rfl (by rw [List.size_toArray, rnCells_len hr]; decide)).trans ?_
  rw [List.toList_toArray, show (Value.int IntKind.i64 y).cells.toList = [Value.int .i64 y] from rfl, rs_l hr]
  refine (fill_cons (i := 3) (off := 258) (size := 1) (by kernel_rfl) rfl (by rw [List.size_toArray, rnCells_len hr]; decide)).trans ?_
  rw [List.toList_toArray, show (Value.int IntKind.i64 z).cells.toList = [Value.int .i64 z] from rfl, rs_r hr]
  unfold rnL
  rw [show (RnM.mk x 0#256 y z 0 0).set = 0#256 from rfl, bitsL_zero]
  rfl
/-! ### trees -/
def TreeAt (ns : List RnM) : ReM → Nat → Prop
  | .eps, i => ∃ d, ns[i]? = some d ∧ d.op = 0
  | .cls s, i => ∃ d, ns[i]? = some d ∧ d.op = 1 ∧ d.set = s
  | .cat a b, i => ∃ d j k : _, ns[i]? = some d ∧ d.op = 2 ∧ d.l = ((j : Nat) : Int) ∧ d.r = ((k : Nat) : Int) ∧ TreeAt ns a j ∧ TreeAt ns b k
  | .alt a b, i => ∃ d j k : _, ns[i]? = some d ∧ d.op = 3 ∧ d.l = ((j : Nat) : Int) ∧ d.r = ((k : Nat) : Int) ∧ TreeAt ns a j ∧ TreeAt ns b k
  | .star a, i => ∃ d j : _, ns[i]? = some d ∧ d.op = 4 ∧ d.l = ((j : Nat) : Int) ∧ TreeAt ns a j
  | .and_ a b, i => ∃ d j k : _, ns[i]? = some d ∧ d.op = 5 ∧ d.l = ((j : Nat) : Int) ∧ d.r = ((k : Nat) : Int) ∧ TreeAt ns a j ∧ TreeAt ns b k
  | .minus a b, i => ∃ d j k : _, ns[i]? = some d ∧ d.op = 6 ∧ d.l = ((j : Nat) : Int) ∧ d.r = ((k : Nat) : Int) ∧ TreeAt ns a j ∧ TreeAt ns b k
theorem getx {α : Type} {l m : List α} {i : Nat} {x : α} (h : l[i]? = some x) : (l ++ m)[i]? = some x := by
  rw [List.getElem?_append_left (List.getElem?_eq_some_iff.1 h).1]; exact h
theorem TreeAt.more {ns ms : List RnM} : ∀ {r : ReM} {i : Nat}, TreeAt ns r i → TreeAt (ns ++ ms) r i
  | .eps, _, ⟨d, h1, h2⟩ => ⟨d, getx h1, h2⟩
  | .cls _, _, ⟨d, h1, h2⟩ => ⟨d, getx h1, h2⟩
  | .cat a b, _, ⟨d, j, k, h1, h2, h3, h4, h5, h6⟩ => ⟨d, j, k, getx h1, h2, h3, h4, h5.more, h6.more⟩
  | .alt a b, _, ⟨d, j, k, h1, h2, h3, h4, h5, h6⟩ => ⟨d, j, k, getx h1, h2, h3, h4, h5.more, h6.more⟩
  | .star a, _, ⟨d, j, h1, h2, h3, h5⟩ => ⟨d, j, getx h1, h2, h3, h5.more⟩
  | .and_ a b, _, ⟨d, j, k, h1, h2, h3, h4, h5, h6⟩ => ⟨d, j, k, getx h1, h2, h3, h4, h5.more, h6.more⟩
  | .minus a b, _, ⟨d, j, k, h1, h2, h3, h4, h5, h6⟩ => ⟨d, j, k, getx h1, h2, h3, h4, h5.more, h6.more⟩
/-- A tree of the document's, to be read. -/
def reL (v : Value) (root : Int) : List Value := [v, .int .i64 root]
def ReV (S : Nat → Prop) (H : Heap) (v : Value) (ns : List RnM) (root : Int) : Prop := ns.length ≤ 4194304 ∧ ∃ na nc, v = .agg (reL (.slice na ns.length nc) root).toArray ∧ SlD tRn S H na nc ns
section
variable {S S' : Nat → Prop} {H H' : Heap} {v : Value} {ns : List RnM} {root : Int}
theorem ReV.frame (h : ReV S H v ns root) (k : Agr S H H') : ReV S H' v ns root := by
  obtain ⟨h1, na, nc, h2, h3⟩ := h
  exact ⟨h1, na, nc, h2, h3.frame k⟩
theorem re_load {S0 : Nat → Prop} {pb : Nat} {na : Option Addr} {nc : Nat} {K : Value → Prop} {t : TypeId} (hl : ns.length ≤ 4194304) (hb : Blk H pb t (reL (.slice na ns.length nc) root)) (hag : AggT Tryz.prog t 2) (hS : S0 pb) (h1 : SlD tRn S H na nc ns)
    (k : ∀ v, ReV S H v ns root → K v) : VDet Tryz.prog (Instr.loadAt t (.pointer (some ⟨pb, 0, none⟩))) S0 H K :=
  ldN (cs := reL (.slice na ns.length nc) root) hag (hb.cells fun j v hv => by rw [Nat.zero_add]; exact hv) hS (k _ ⟨hl, na, nc, rfl, h1⟩)
end
set_option maxHeartbeats 4000000 in
theorem rsize_p : ∀ (r : ReM), r.nodes ≤ 1000000000 → ∀ {S : Nat → Prop} {H : Heap} {v : Value} {ns : List RnM} {root : Int} {i : Nat}, (∀ k, S k → k < H.size) → ReV S H v ns root → TreeAt ns r i →
    Pure Tryz.prog 60 #[v, .int .i64 (i : Int)] H (.int .i64 (r.nodes : Int)) := fun r => by
  induction r with
  | eps =>
    intro hn S H v ns root i hS hv ht
    obtain ⟨d, hd, hop⟩ := ht
    obtain ⟨hl, na, nc, rfl, h1⟩ := hv
    refine FnOk.of_vc Tryz.func60 rfl (Tryz.call60 _) ?_
    (conv => whnf); refine vbox (reL (.slice na ns.length nc) root) rfl ?_
    intro p H1 hp hs1 hb1 ha1
    have st1 := (St.nil H).box hp hs1 hb1 ha1
    (conv => whnf); refine fa fl32_0 ?_
    (conv => whnf); refine ld1 (v := .slice na ns.length nc) ct30 (by rw [(st1.blk 0 rfl).cell]; rfl) trivial ?_
    (conv => whnf); refine ixr (i := i) sl30 (h1.frame (st1.old.mono hS)) hd rfl ?_
    rintro b2 o2 c2 hS2 hc2 ⟨rfl, hok⟩
    (conv => whnf); refine ldN (cs := rnL d) (by rw [rnL_len]; exact ag94) hc2 trivial ?_
    (conv => whnf); refine valloc _ rnZ rn_z rfl ?_
    intro x H3 hx hs3 hb3 ha3
    have st3 := st1.box hx hs3 hb3 ha3
    (conv => whnf); refine stNB (cs := rnL d) st3 1 (by rw [rnL_len]; rfl) rfl (by rw [rnL_len, rnZ_len]; decide) (rn_ones d) fun H4 st4 => ?_
    rw [splice_all (show (rnL d).length = rnZ.length by rw [rnL_len, rnZ_len])] at st4
    have hb4 := st4.blk 1 rfl
    have hp4 := st4.blk 0 rfl
    have hxl := hb4.lt
    have hpl := hp4.lt
    (conv => whnf); refine fa fl94_0 ?_
    (conv => whnf); refine ld1 (v := .int .i64 d.op) ct3 (by rw [hb4.cell]; exact rn_op d) trivial ?_
    (conv => whnf); rw [hop]
    (conv => whnf)
    exact ⟨rfl, st4.old⟩
  | cls s =>
    intro hn S H v ns root i hS hv ht
    obtain ⟨d, hd, hop, hset⟩ := ht
    obtain ⟨hl, na, nc, rfl, h1⟩ := hv
    refine FnOk.of_vc Tryz.func60 rfl (Tryz.call60 _) ?_
    (conv => whnf); refine vbox (reL (.slice na ns.length nc) root) rfl ?_
    intro p H1 hp hs1 hb1 ha1
    have st1 := (St.nil H).box hp hs1 hb1 ha1
    (conv => whnf); refine fa fl32_0 ?_
    (conv => whnf); refine ld1 (v := .slice na ns.length nc) ct30 (by rw [(st1.blk 0 rfl).cell]; rfl) trivial ?_
    (conv => whnf); refine ixr (i := i) sl30 (h1.frame (st1.old.mono hS)) hd rfl ?_
    rintro b2 o2 c2 hS2 hc2 ⟨rfl, hok⟩
    (conv => whnf); refine ldN (cs := rnL d) (by rw [rnL_len]; exact ag94) hc2 trivial ?_
    (conv => whnf); refine valloc _ rnZ rn_z rfl ?_
    intro x H3 hx hs3 hb3 ha3
    have st3 := st1.box hx hs3 hb3 ha3
    (conv => whnf); refine stNB (cs := rnL d) st3 1 (by rw [rnL_len]; rfl) rfl (by rw [rnL_len, rnZ_len]; decide) (rn_ones d) fun H4 st4 => ?_
    rw [splice_all (show (rnL d).length = rnZ.length by rw [rnL_len, rnZ_len])] at st4
    have hb4 := st4.blk 1 rfl
    have hp4 := st4.blk 0 rfl
    have hxl := hb4.lt
    have hpl := hp4.lt
    (conv => whnf); refine fa fl94_0 ?_
    (conv => whnf); refine ld1 (v := .int .i64 d.op) ct3 (by rw [hb4.cell]; exact rn_op d) trivial ?_
    (conv => whnf); rw [hop]
    (conv => whnf)
    exact ⟨rfl, st4.old⟩
  | cat a b iha ihb =>
    intro hn S H v ns root i hS hv ht
    simp only [ReM.nodes] at hn
    obtain ⟨d, j, k, hd, hop, hl1, hl2, hta, htb⟩ := ht
    obtain ⟨hl, na, nc, rfl, h1⟩ := hv
    refine FnOk.of_vc Tryz.func60 rfl (Tryz.call60 _) ?_
    (conv => whnf); refine vbox (reL (.slice na ns.length nc) root) rfl ?_
    intro p H1 hp hs1 hb1 ha1
    have st1 := (St.nil H).box hp hs1 hb1 ha1
    (conv => whnf); refine fa fl32_0 ?_
    (conv => whnf); refine ld1 (v := .slice na ns.length nc) ct30 (by rw [(st1.blk 0 rfl).cell]; rfl) trivial ?_
    (conv => whnf); refine ixr (i := i) sl30 (h1.frame (st1.old.mono hS)) hd rfl ?_
    rintro b2 o2 c2 hS2 hc2 ⟨rfl, hok⟩
    (conv => whnf); refine ldN (cs := rnL d) (by rw [rnL_len]; exact ag94) hc2 trivial ?_
    (conv => whnf); refine valloc _ rnZ rn_z rfl ?_
    intro x H3 hx hs3 hb3 ha3
    have st3 := st1.box hx hs3 hb3 ha3
    (conv => whnf); refine stNB (cs := rnL d) st3 1 (by rw [rnL_len]; rfl) rfl (by rw [rnL_len, rnZ_len]; decide) (rn_ones d) fun H4 st4 => ?_
    rw [splice_all (show (rnL d).length = rnZ.length by rw [rnL_len, rnZ_len])] at st4
    have hb4 := st4.blk 1 rfl
    have hp4 := st4.blk 0 rfl
    have hxl := hb4.lt
    have hpl := hp4.lt
    (conv => whnf); refine fa fl94_0 ?_
    (conv => whnf); refine ld1 (v := .int .i64 d.op) ct3 (by rw [hb4.cell]; exact rn_op d) trivial ?_
    (conv => whnf); rw [hop]
    (conv => whnf); refine fa fl94_0 ?_
    (conv => whnf); refine ld1 (v := .int .i64 d.op) ct3 (by rw [hb4.cell]; exact rn_op d) trivial ?_
    (conv => whnf); rw [hop]
    (conv => whnf); refine VDraw.heldZ (Old H4) [] (sq [0,1,2,5,6,7] (.f 3 (sq [4] (.f 8 (sq [9] (.f 10 .e)))))) rfl (by kernel_rfl) ?_
    (conv => whnf); refine re_load hl hp4 ag32 hpl (h1.frame (st4.old.mono hS)) fun v5 hv5 => ?_
    (conv => whnf); refine fa fl94_2 ?_
    (conv => whnf); refine ld1 (v := .int .i64 d.l) ct3 (by rw [hb4.cell, Nat.zero_add]; exact rn_l d) hxl ?_
    (conv => whnf); rw [hl1]
    (conv => whnf); refine re_load hl hp4 ag32 hpl (h1.frame (st4.old.mono hS)) fun v6 hv6 => ?_
    (conv => whnf); refine fa fl94_3 ?_
    (conv => whnf); refine ld1 (v := .int .i64 d.r) ct3 (by rw [hb4.cell, Nat.zero_add]; exact rn_r d) hxl ?_
    (conv => whnf); rw [hl2]
    (conv => whnf); refine pures (iha (by omega) (fun k hk => st4.up (hS k hk)) hv5 hta) fun H5 ha5 => ?_
    have st5 := st4.call ha5
    refine ⟨ha5, ?_⟩
    (conv => whnf); rw [w64 (x := 1 + (a.nodes : Int)) (by omega) (by omega)]
    (conv => whnf); refine pures (ihb (by omega) (fun k hk => st5.up (hS k hk)) (hv6.frame (ha5.mono fun k hk => st4.up (hS k hk))) htb) fun H6 ha6 => ?_
    have st6 := st5.call ha6
    have g6 : Agr (Old H4) H4 H6 := ha5.trans (ha6.mono fun k hk => old_lt ha5 hk)
    refine ⟨g6, ?_⟩
    (conv => whnf); rw [w64 (x := 1 + (a.nodes : Int) + (b.nodes : Int)) (by omega) (by omega)]
    refine ⟨g6, ?_⟩
    (conv => whnf)
    exact ⟨by simp only [ReM.nodes]; simp, st6.old⟩
  | alt a b iha ihb =>
    intro hn S H v ns root i hS hv ht
    simp only [ReM.nodes] at hn
    obtain ⟨d, j, k, hd, hop, hl1, hl2, hta, htb⟩ := ht
    obtain ⟨hl, na, nc, rfl, h1⟩ := hv
    refine FnOk.of_vc Tryz.func60 rfl (Tryz.call60 _) ?_
    (conv => whnf); refine vbox (reL (.slice na ns.length nc) root) rfl ?_
    intro p H1 hp hs1 hb1 ha1
    have st1 := (St.nil H).box hp hs1 hb1 ha1
    (conv => whnf); refine fa fl32_0 ?_
    (conv => whnf); refine ld1 (v := .slice na ns.length nc) ct30 (by rw [(st1.blk 0 rfl).cell]; rfl) trivial ?_
    (conv => whnf); refine ixr (i := i) sl30 (h1.frame (st1.old.mono hS)) hd rfl ?_
    rintro b2 o2 c2 hS2 hc2 ⟨rfl, hok⟩
    (conv => whnf); refine ldN (cs := rnL d) (by rw [rnL_len]; exact ag94) hc2 trivial ?_
    (conv => whnf); refine valloc _ rnZ rn_z rfl ?_
    intro x H3 hx hs3 hb3 ha3
    have st3 := st1.box hx hs3 hb3 ha3
    (conv => whnf); refine stNB (cs := rnL d) st3 1 (by rw [rnL_len]; rfl) rfl (by rw [rnL_len, rnZ_len]; decide) (rn_ones d) fun H4 st4 => ?_
    rw [splice_all (show (rnL d).length = rnZ.length by rw [rnL_len, rnZ_len])] at st4
    have hb4 := st4.blk 1 rfl
    have hp4 := st4.blk 0 rfl
    have hxl := hb4.lt
    have hpl := hp4.lt
    (conv => whnf); refine fa fl94_0 ?_
    (conv => whnf); refine ld1 (v := .int .i64 d.op) ct3 (by rw [hb4.cell]; exact rn_op d) trivial ?_
    (conv => whnf); rw [hop]
    (conv => whnf); refine fa fl94_0 ?_
    (conv => whnf); refine ld1 (v := .int .i64 d.op) ct3 (by rw [hb4.cell]; exact rn_op d) trivial ?_
    (conv => whnf); rw [hop]
    (conv => whnf); refine VDraw.heldZ (Old H4) [] (sq [0,1,2,5,6,7] (.f 3 (sq [4] (.f 8 (sq [9] (.f 10 .e)))))) rfl (by kernel_rfl) ?_
    (conv => whnf); refine re_load hl hp4 ag32 hpl (h1.frame (st4.old.mono hS)) fun v5 hv5 => ?_
    (conv => whnf); refine fa fl94_2 ?_
    (conv => whnf); refine ld1 (v := .int .i64 d.l) ct3 (by rw [hb4.cell, Nat.zero_add]; exact rn_l d) hxl ?_
    (conv => whnf); rw [hl1]
    (conv => whnf); refine re_load hl hp4 ag32 hpl (h1.frame (st4.old.mono hS)) fun v6 hv6 => ?_
    (conv => whnf); refine fa fl94_3 ?_
    (conv => whnf); refine ld1 (v := .int .i64 d.r) ct3 (by rw [hb4.cell, Nat.zero_add]; exact rn_r d) hxl ?_
    (conv => whnf); rw [hl2]
    (conv => whnf); refine pures (iha (by omega) (fun k hk => st4.up (hS k hk)) hv5 hta) fun H5 ha5 => ?_
    have st5 := st4.call ha5
    refine ⟨ha5, ?_⟩
    (conv => whnf); rw [w64 (x := 1 + (a.nodes : Int)) (by omega) (by omega)]
    (conv => whnf); refine pures (ihb (by omega) (fun k hk => st5.up (hS k hk)) (hv6.frame (ha5.mono fun k hk => st4.up (hS k hk))) htb) fun H6 ha6 => ?_
    have st6 := st5.call ha6
    have g6 : Agr (Old H4) H4 H6 := ha5.trans (ha6.mono fun k hk => old_lt ha5 hk)
    refine ⟨g6, ?_⟩
    (conv => whnf); rw [w64 (x := 1 + (a.nodes : Int) + (b.nodes : Int)) (by omega) (by omega)]
    refine ⟨g6, ?_⟩
    (conv => whnf)
    exact ⟨by simp only [ReM.nodes]; simp, st6.old⟩
  | and_ a b iha ihb =>
    intro hn S H v ns root i hS hv ht
    simp only [ReM.nodes] at hn
    obtain ⟨d, j, k, hd, hop, hl1, hl2, hta, htb⟩ := ht
    obtain ⟨hl, na, nc, rfl, h1⟩ := hv
    refine FnOk.of_vc Tryz.func60 rfl (Tryz.call60 _) ?_
    (conv => whnf); refine vbox (reL (.slice na ns.length nc) root) rfl ?_
    intro p H1 hp hs1 hb1 ha1
    have st1 := (St.nil H).box hp hs1 hb1 ha1
    (conv => whnf); refine fa fl32_0 ?_
    (conv => whnf); refine ld1 (v := .slice na ns.length nc) ct30 (by rw [(st1.blk 0 rfl).cell]; rfl) trivial ?_
    (conv => whnf); refine ixr (i := i) sl30 (h1.frame (st1.old.mono hS)) hd rfl ?_
    rintro b2 o2 c2 hS2 hc2 ⟨rfl, hok⟩
    (conv => whnf); refine ldN (cs := rnL d) (by rw [rnL_len]; exact ag94) hc2 trivial ?_
    (conv => whnf); refine valloc _ rnZ rn_z rfl ?_
    intro x H3 hx hs3 hb3 ha3
    have st3 := st1.box hx hs3 hb3 ha3
    (conv => whnf); refine stNB (cs := rnL d) st3 1 (by rw [rnL_len]; rfl) rfl (by rw [rnL_len, rnZ_len]; decide) (rn_ones d) fun H4 st4 => ?_
    rw [splice_all (show (rnL d).length = rnZ.length by rw [rnL_len, rnZ_len])] at st4
    have hb4 := st4.blk 1 rfl
    have hp4 := st4.blk 0 rfl
    have hxl := hb4.lt
    have hpl := hp4.lt
    (conv => whnf); refine fa fl94_0 ?_
    (conv => whnf); refine ld1 (v := .int .i64 d.op) ct3 (by rw [hb4.cell]; exact rn_op d) trivial ?_
    (conv => whnf); rw [hop]
    (conv => whnf); refine fa fl94_0 ?_
    (conv => whnf); refine ld1 (v := .int .i64 d.op) ct3 (by rw [hb4.cell]; exact rn_op d) trivial ?_
    (conv => whnf); rw [hop]
    (conv => whnf); refine VDraw.heldZ (Old H4) [] (sq [0,1,2,5,6,7] (.f 3 (sq [4] (.f 8 (sq [9] (.f 10 .e)))))) rfl (by kernel_rfl) ?_
    (conv => whnf); refine re_load hl hp4 ag32 hpl (h1.frame (st4.old.mono hS)) fun v5 hv5 => ?_
    (conv => whnf); refine fa fl94_2 ?_
    (conv => whnf); refine ld1 (v := .int .i64 d.l) ct3 (by rw [hb4.cell, Nat.zero_add]; exact rn_l d) hxl ?_
    (conv => whnf); rw [hl1]
    (conv => whnf); refine re_load hl hp4 ag32 hpl (h1.frame (st4.old.mono hS)) fun v6 hv6 => ?_
    (conv => whnf); refine fa fl94_3 ?_
    (conv => whnf); refine ld1 (v := .int .i64 d.r) ct3 (by rw [hb4.cell, Nat.zero_add]; exact rn_r d) hxl ?_
    (conv => whnf); rw [hl2]
    (conv => whnf); refine pures (iha (by omega) (fun k hk => st4.up (hS k hk)) hv5 hta) fun H5 ha5 => ?_
    have st5 := st4.call ha5
    refine ⟨ha5, ?_⟩
    (conv => whnf); rw [w64 (x := 1 + (a.nodes : Int)) (by omega) (by omega)]
    (conv => whnf); refine pures (ihb (by omega) (fun k hk => st5.up (hS k hk)) (hv6.frame (ha5.mono fun k hk => st4.up (hS k hk))) htb) fun H6 ha6 => ?_
    have st6 := st5.call ha6
    have g6 : Agr (Old H4) H4 H6 := ha5.trans (ha6.mono fun k hk => old_lt ha5 hk)
    refine ⟨g6, ?_⟩
    (conv => whnf); rw [w64 (x := 1 + (a.nodes : Int) + (b.nodes : Int)) (by omega) (by omega)]
    refine ⟨g6, ?_⟩
    (conv => whnf)
    exact ⟨by simp only [ReM.nodes]; simp, st6.old⟩
  | minus a b iha ihb =>
    intro hn S H v ns root i hS hv ht
    simp only [ReM.nodes] at hn
    obtain ⟨d, j, k, hd, hop, hl1, hl2, hta, htb⟩ := ht
    obtain ⟨hl, na, nc, rfl, h1⟩ := hv
    refine FnOk.of_vc Tryz.func60 rfl (Tryz.call60 _) ?_
    (conv => whnf); refine vbox (reL (.slice na ns.length nc) root) rfl ?_
    intro p H1 hp hs1 hb1 ha1
    have st1 := (St.nil H).box hp hs1 hb1 ha1
    (conv => whnf); refine fa fl32_0 ?_
    (conv => whnf); refine ld1 (v := .slice na ns.length nc) ct30 (by rw [(st1.blk 0 rfl).cell]; rfl) trivial ?_
    (conv => whnf); refine ixr (i := i) sl30 (h1.frame (st1.old.mono hS)) hd rfl ?_
    rintro b2 o2 c2 hS2 hc2 ⟨rfl, hok⟩
    (conv => whnf); refine ldN (cs := rnL d) (by rw [rnL_len]; exact ag94) hc2 trivial ?_
    (conv => whnf); refine valloc _ rnZ rn_z rfl ?_
    intro x H3 hx hs3 hb3 ha3
    have st3 := st1.box hx hs3 hb3 ha3
    (conv => whnf); refine stNB (cs := rnL d) st3 1 (by rw [rnL_len]; rfl) rfl (by rw [rnL_len, rnZ_len]; decide) (rn_ones d) fun H4 st4 => ?_
    rw [splice_all (show (rnL d).length = rnZ.length by rw [rnL_len, rnZ_len])] at st4
    have hb4 := st4.blk 1 rfl
    have hp4 := st4.blk 0 rfl
    have hxl := hb4.lt
    have hpl := hp4.lt
    (conv => whnf); refine fa fl94_0 ?_
    (conv => whnf); refine ld1 (v := .int .i64 d.op) ct3 (by rw [hb4.cell]; exact rn_op d) trivial ?_
    (conv => whnf); rw [hop]
    (conv => whnf); refine fa fl94_0 ?_
    (conv => whnf); refine ld1 (v := .int .i64 d.op) ct3 (by rw [hb4.cell]; exact rn_op d) trivial ?_
    (conv => whnf); rw [hop]
    (conv => whnf); refine VDraw.heldZ (Old H4) [] (sq [0,1,2,5,6,7] (.f 3 (sq [4] (.f 8 (sq [9] (.f 10 .e)))))) rfl (by kernel_rfl) ?_
    (conv => whnf); refine re_load hl hp4 ag32 hpl (h1.frame (st4.old.mono hS)) fun v5 hv5 => ?_
    (conv => whnf); refine fa fl94_2 ?_
    (conv => whnf); refine ld1 (v := .int .i64 d.l) ct3 (by rw [hb4.cell, Nat.zero_add]; exact rn_l d) hxl ?_
    (conv => whnf); rw [hl1]
    (conv => whnf); refine re_load hl hp4 ag32 hpl (h1.frame (st4.old.mono hS)) fun v6 hv6 => ?_
    (conv => whnf); refine fa fl94_3 ?_
    (conv => whnf); refine ld1 (v := .int .i64 d.r) ct3 (by rw [hb4.cell, Nat.zero_add]; exact rn_r d) hxl ?_
    (conv => whnf); rw [hl2]
    (conv => whnf); refine pures (iha (by omega) (fun k hk => st4.up (hS k hk)) hv5 hta) fun H5 ha5 => ?_
    have st5 := st4.call ha5
    refine ⟨ha5, ?_⟩
    (conv => whnf); rw [w64 (x := 1 + (a.nodes : Int)) (by omega) (by omega)]
    (conv => whnf); refine pures (ihb (by omega) (fun k hk => st5.up (hS k hk)) (hv6.frame (ha5.mono fun k hk => st4.up (hS k hk))) htb) fun H6 ha6 => ?_
    have st6 := st5.call ha6
    have g6 : Agr (Old H4) H4 H6 := ha5.trans (ha6.mono fun k hk => old_lt ha5 hk)
    refine ⟨g6, ?_⟩
    (conv => whnf); rw [w64 (x := 1 + (a.nodes : Int) + (b.nodes : Int)) (by omega) (by omega)]
    refine ⟨g6, ?_⟩
    (conv => whnf)
    exact ⟨by simp only [ReM.nodes]; simp, st6.old⟩
  | star a iha =>
    intro hn S H v ns root i hS hv ht
    simp only [ReM.nodes] at hn
    obtain ⟨d, j, hd, hop, hl1, hta⟩ := ht
    obtain ⟨hl, na, nc, rfl, h1⟩ := hv
    refine FnOk.of_vc Tryz.func60 rfl (Tryz.call60 _) ?_
    (conv => whnf); refine vbox (reL (.slice na ns.length nc) root) rfl ?_
    intro p H1 hp hs1 hb1 ha1
    have st1 := (St.nil H).box hp hs1 hb1 ha1
    (conv => whnf); refine fa fl32_0 ?_
    (conv => whnf); refine ld1 (v := .slice na ns.length nc) ct30 (by rw [(st1.blk 0 rfl).cell]; rfl) trivial ?_
    (conv => whnf); refine ixr (i := i) sl30 (h1.frame (st1.old.mono hS)) hd rfl ?_
    rintro b2 o2 c2 hS2 hc2 ⟨rfl, hok⟩
    (conv => whnf); refine ldN (cs := rnL d) (by rw [rnL_len]; exact ag94) hc2 trivial ?_
    (conv => whnf); refine valloc _ rnZ rn_z rfl ?_
    intro x H3 hx hs3 hb3 ha3
    have st3 := st1.box hx hs3 hb3 ha3
    (conv => whnf); refine stNB (cs := rnL d) st3 1 (by rw [rnL_len]; rfl) rfl (by rw [rnL_len, rnZ_len]; decide) (rn_ones d) fun H4 st4 => ?_
    rw [splice_all (show (rnL d).length = rnZ.length by rw [rnL_len, rnZ_len])] at st4
    have hb4 := st4.blk 1 rfl
    have hp4 := st4.blk 0 rfl
    have hxl := hb4.lt
    have hpl := hp4.lt
    (conv => whnf); refine fa fl94_0 ?_
    (conv => whnf); refine ld1 (v := .int .i64 d.op) ct3 (by rw [hb4.cell]; exact rn_op d) trivial ?_
    (conv => whnf); rw [hop]
    (conv => whnf); refine fa fl94_0 ?_
    (conv => whnf); refine ld1 (v := .int .i64 d.op) ct3 (by rw [hb4.cell]; exact rn_op d) trivial ?_
    (conv => whnf); rw [hop]
    (conv => whnf); refine re_load hl hp4 ag32 trivial (h1.frame (st4.old.mono hS)) fun v5 hv5 => ?_
    (conv => whnf); refine fa fl94_2 ?_
    (conv => whnf); refine ld1 (v := .int .i64 d.l) ct3 (by rw [hb4.cell, Nat.zero_add]; exact rn_l d) trivial ?_
    (conv => whnf); rw [hl1]
    (conv => whnf); refine pures (iha (by omega) (fun k hk => st4.up (hS k hk)) hv5 hta) fun H5 ha5 => ?_
    have st5 := st4.call ha5
    (conv => whnf); rw [w64 (x := 1 + (a.nodes : Int)) (by omega) (by omega)]
    (conv => whnf)
    exact ⟨by simp only [ReM.nodes]; simp, st5.old⟩
set_option maxHeartbeats 4000000 in
theorem below_p : ∀ (r : ReM), r.plain = true → ∀ {S : Nat → Prop} {H : Heap} {v : Value} {ns : List RnM} {root : Int} {i : Nat}, (∀ k, S k → k < H.size) → ReV S H v ns root → TreeAt ns r i →
    Pure Tryz.prog 38 #[v, .int .i64 (i : Int)] H (.bool true) := fun r => by
  induction r with
  | eps =>
    intro hpl S H v ns root i hS hv ht
    obtain ⟨d, hd, hop⟩ := ht
    obtain ⟨hl, na, nc, rfl, h1⟩ := hv
    refine FnOk.of_vc Tryz.func38 rfl (Tryz.call38 _) ?_
    (conv => whnf); refine vbox (reL (.slice na ns.length nc) root) rfl ?_
    intro p H1 hp hs1 hb1 ha1
    have st1 := (St.nil H).box hp hs1 hb1 ha1
    (conv => whnf); refine fa fl32_0 ?_
    (conv => whnf); refine ld1 (v := .slice na ns.length nc) ct30 (by rw [(st1.blk 0 rfl).cell]; rfl) trivial ?_
    (conv => whnf); refine ixr (i := i) sl30 (h1.frame (st1.old.mono hS)) hd rfl ?_
    rintro b2 o2 c2 hS2 hc2 ⟨rfl, hok⟩
    (conv => whnf); refine ldN (cs := rnL d) (by rw [rnL_len]; exact ag94) hc2 trivial ?_
    (conv => whnf); refine valloc _ rnZ rn_z rfl ?_
    intro x H3 hx hs3 hb3 ha3
    have st3 := st1.box hx hs3 hb3 ha3
    (conv => whnf); refine stNB (cs := rnL d) st3 1 (by rw [rnL_len]; rfl) rfl (by rw [rnL_len, rnZ_len]; decide) (rn_ones d) fun H4 st4 => ?_
    rw [splice_all (show (rnL d).length = rnZ.length by rw [rnL_len, rnZ_len])] at st4
    have hb4 := st4.blk 1 rfl
    have hp4 := st4.blk 0 rfl
    have hxl := hb4.lt
    have hpl := hp4.lt
    (conv => whnf); refine fa fl94_0 ?_
    (conv => whnf); refine ld1 (v := .int .i64 d.op) ct3 (by rw [hb4.cell]; exact rn_op d) trivial ?_
    (conv => whnf); rw [hop]
    (conv => whnf); refine VSeq.run ?_
    (conv => whnf)
    exact ⟨rfl, st4.old⟩
  | cls s =>
    intro hpl S H v ns root i hS hv ht
    obtain ⟨d, hd, hop, hset⟩ := ht
    obtain ⟨hl, na, nc, rfl, h1⟩ := hv
    refine FnOk.of_vc Tryz.func38 rfl (Tryz.call38 _) ?_
    (conv => whnf); refine vbox (reL (.slice na ns.length nc) root) rfl ?_
    intro p H1 hp hs1 hb1 ha1
    have st1 := (St.nil H).box hp hs1 hb1 ha1
    (conv => whnf); refine fa fl32_0 ?_
    (conv => whnf); refine ld1 (v := .slice na ns.length nc) ct30 (by rw [(st1.blk 0 rfl).cell]; rfl) trivial ?_
    (conv => whnf); refine ixr (i := i) sl30 (h1.frame (st1.old.mono hS)) hd rfl ?_
    rintro b2 o2 c2 hS2 hc2 ⟨rfl, hok⟩
    (conv => whnf); refine ldN (cs := rnL d) (by rw [rnL_len]; exact ag94) hc2 trivial ?_
    (conv => whnf); refine valloc _ rnZ rn_z rfl ?_
    intro x H3 hx hs3 hb3 ha3
    have st3 := st1.box hx hs3 hb3 ha3
    (conv => whnf); refine stNB (cs := rnL d) st3 1 (by rw [rnL_len]; rfl) rfl (by rw [rnL_len, rnZ_len]; decide) (rn_ones d) fun H4 st4 => ?_
    rw [splice_all (show (rnL d).length = rnZ.length by rw [rnL_len, rnZ_len])] at st4
    have hb4 := st4.blk 1 rfl
    have hp4 := st4.blk 0 rfl
    have hxl := hb4.lt
    have hpl := hp4.lt
    (conv => whnf); refine fa fl94_0 ?_
    (conv => whnf); refine ld1 (v := .int .i64 d.op) ct3 (by rw [hb4.cell]; exact rn_op d) trivial ?_
    (conv => whnf); rw [hop]
    (conv => whnf); refine VSeq.run ?_
    (conv => whnf)
    exact ⟨rfl, st4.old⟩
  | cat a b iha ihb =>
    intro hpln S H v ns root i hS hv ht
    simp only [ReM.plain, Bool.and_eq_true] at hpln
    obtain ⟨d, j, k, hd, hop, hl1, hl2, hta, htb⟩ := ht
    obtain ⟨hl, na, nc, rfl, h1⟩ := hv
    refine FnOk.of_vc Tryz.func38 rfl (Tryz.call38 _) ?_
    (conv => whnf); refine vbox (reL (.slice na ns.length nc) root) rfl ?_
    intro p H1 hp hs1 hb1 ha1
    have st1 := (St.nil H).box hp hs1 hb1 ha1
    (conv => whnf); refine fa fl32_0 ?_
    (conv => whnf); refine ld1 (v := .slice na ns.length nc) ct30 (by rw [(st1.blk 0 rfl).cell]; rfl) trivial ?_
    (conv => whnf); refine ixr (i := i) sl30 (h1.frame (st1.old.mono hS)) hd rfl ?_
    rintro b2 o2 c2 hS2 hc2 ⟨rfl, hok⟩
    (conv => whnf); refine ldN (cs := rnL d) (by rw [rnL_len]; exact ag94) hc2 trivial ?_
    (conv => whnf); refine valloc _ rnZ rn_z rfl ?_
    intro x H3 hx hs3 hb3 ha3
    have st3 := st1.box hx hs3 hb3 ha3
    (conv => whnf); refine stNB (cs := rnL d) st3 1 (by rw [rnL_len]; rfl) rfl (by rw [rnL_len, rnZ_len]; decide) (rn_ones d) fun H4 st4 => ?_
    rw [splice_all (show (rnL d).length = rnZ.length by rw [rnL_len, rnZ_len])] at st4
    have hb4 := st4.blk 1 rfl
    have hp4 := st4.blk 0 rfl
    have hxl := hb4.lt
    have hpl := hp4.lt
    (conv => whnf); refine fa fl94_0 ?_
    (conv => whnf); refine ld1 (v := .int .i64 d.op) ct3 (by rw [hb4.cell]; exact rn_op d) trivial ?_
    (conv => whnf); rw [hop]
    (conv => whnf); refine VSeq.run ?_
    (conv => whnf); refine VSeq.run ?_
    (conv => whnf); refine re_load hl hp4 ag32 trivial (h1.frame (st4.old.mono hS)) fun v5 hv5 => ?_
    (conv => whnf); refine fa fl94_2 ?_
    (conv => whnf); refine ld1 (v := .int .i64 d.l) ct3 (by rw [hb4.cell, Nat.zero_add]; exact rn_l d) trivial ?_
    (conv => whnf); rw [hl1]
    (conv => whnf); refine pures (iha hpln.1 (fun k hk => st4.up (hS k hk)) hv5 hta) fun H5 ha5 => ?_
    have st5 := st4.call ha5
    have hb5 := st5.blk 1 rfl
    (conv => whnf); refine re_load hl (st5.blk 0 rfl) ag32 trivial (h1.frame (st5.old.mono hS)) fun v6 hv6 => ?_
    (conv => whnf); refine fa fl94_3 ?_
    (conv => whnf); refine ld1 (v := .int .i64 d.r) ct3 (by rw [hb5.cell, Nat.zero_add]; exact rn_r d) trivial ?_
    (conv => whnf); rw [hl2]
    (conv => whnf); refine pures (ihb hpln.2 (fun k hk => st5.up (hS k hk)) hv6 htb) fun H6 ha6 => ?_
    have st6 := st5.call ha6
    (conv => whnf)
    exact ⟨rfl, st6.old⟩
  | alt a b iha ihb =>
    intro hpln S H v ns root i hS hv ht
    simp only [ReM.plain, Bool.and_eq_true] at hpln
    obtain ⟨d, j, k, hd, hop, hl1, hl2, hta, htb⟩ := ht
    obtain ⟨hl, na, nc, rfl, h1⟩ := hv
    refine FnOk.of_vc Tryz.func38 rfl (Tryz.call38 _) ?_
    (conv => whnf); refine vbox (reL (.slice na ns.length nc) root) rfl ?_
    intro p H1 hp hs1 hb1 ha1
    have st1 := (St.nil H).box hp hs1 hb1 ha1
    (conv => whnf); refine fa fl32_0 ?_
    (conv => whnf); refine ld1 (v := .slice na ns.length nc) ct30 (by rw [(st1.blk 0 rfl).cell]; rfl) trivial ?_
    (conv => whnf); refine ixr (i := i) sl30 (h1.frame (st1.old.mono hS)) hd rfl ?_
    rintro b2 o2 c2 hS2 hc2 ⟨rfl, hok⟩
    (conv => whnf); refine ldN (cs := rnL d) (by rw [rnL_len]; exact ag94) hc2 trivial ?_
    (conv => whnf); refine valloc _ rnZ rn_z rfl ?_
    intro x H3 hx hs3 hb3 ha3
    have st3 := st1.box hx hs3 hb3 ha3
    (conv => whnf); refine stNB (cs := rnL d) st3 1 (by rw [rnL_len]; rfl) rfl (by rw [rnL_len, rnZ_len]; decide) (rn_ones d) fun H4 st4 => ?_
    rw [splice_all (show (rnL d).length = rnZ.length by rw [rnL_len, rnZ_len])] at st4
    have hb4 := st4.blk 1 rfl
    have hp4 := st4.blk 0 rfl
    have hxl := hb4.lt
    have hpl := hp4.lt
    (conv => whnf); refine fa fl94_0 ?_
    (conv => whnf); refine ld1 (v := .int .i64 d.op) ct3 (by rw [hb4.cell]; exact rn_op d) trivial ?_
    (conv => whnf); rw [hop]
    (conv => whnf); refine VSeq.run ?_
    (conv => whnf); refine VSeq.run ?_
    (conv => whnf); refine re_load hl hp4 ag32 trivial (h1.frame (st4.old.mono hS)) fun v5 hv5 => ?_
    (conv => whnf); refine fa fl94_2 ?_
    (conv => whnf); refine ld1 (v := .int .i64 d.l) ct3 (by rw [hb4.cell, Nat.zero_add]; exact rn_l d) trivial ?_
    (conv => whnf); rw [hl1]
    (conv => whnf); refine pures (iha hpln.1 (fun k hk => st4.up (hS k hk)) hv5 hta) fun H5 ha5 => ?_
    have st5 := st4.call ha5
    have hb5 := st5.blk 1 rfl
    (conv => whnf); refine re_load hl (st5.blk 0 rfl) ag32 trivial (h1.frame (st5.old.mono hS)) fun v6 hv6 => ?_
    (conv => whnf); refine fa fl94_3 ?_
    (conv => whnf); refine ld1 (v := .int .i64 d.r) ct3 (by rw [hb5.cell, Nat.zero_add]; exact rn_r d) trivial ?_
    (conv => whnf); rw [hl2]
    (conv => whnf); refine pures (ihb hpln.2 (fun k hk => st5.up (hS k hk)) hv6 htb) fun H6 ha6 => ?_
    have st6 := st5.call ha6
    (conv => whnf)
    exact ⟨rfl, st6.old⟩
  | star a iha =>
    intro hpln S H v ns root i hS hv ht
    simp only [ReM.plain] at hpln
    obtain ⟨d, j, hd, hop, hl1, hta⟩ := ht
    obtain ⟨hl, na, nc, rfl, h1⟩ := hv
    refine FnOk.of_vc Tryz.func38 rfl (Tryz.call38 _) ?_
    (conv => whnf); refine vbox (reL (.slice na ns.length nc) root) rfl ?_
    intro p H1 hp hs1 hb1 ha1
    have st1 := (St.nil H).box hp hs1 hb1 ha1
    (conv => whnf); refine fa fl32_0 ?_
    (conv => whnf); refine ld1 (v := .slice na ns.length nc) ct30 (by rw [(st1.blk 0 rfl).cell]; rfl) trivial ?_
    (conv => whnf); refine ixr (i := i) sl30 (h1.frame (st1.old.mono hS)) hd rfl ?_
    rintro b2 o2 c2 hS2 hc2 ⟨rfl, hok⟩
    (conv => whnf); refine ldN (cs := rnL d) (by rw [rnL_len]; exact ag94) hc2 trivial ?_
    (conv => whnf); refine valloc _ rnZ rn_z rfl ?_
    intro x H3 hx hs3 hb3 ha3
    have st3 := st1.box hx hs3 hb3 ha3
    (conv => whnf); refine stNB (cs := rnL d) st3 1 (by rw [rnL_len]; rfl) rfl (by rw [rnL_len, rnZ_len]; decide) (rn_ones d) fun H4 st4 => ?_
    rw [splice_all (show (rnL d).length = rnZ.length by rw [rnL_len, rnZ_len])] at st4
    have hb4 := st4.blk 1 rfl
    have hp4 := st4.blk 0 rfl
    have hxl := hb4.lt
    have hpl := hp4.lt
    (conv => whnf); refine fa fl94_0 ?_
    (conv => whnf); refine ld1 (v := .int .i64 d.op) ct3 (by rw [hb4.cell]; exact rn_op d) trivial ?_
    (conv => whnf); rw [hop]
    (conv => whnf); refine VSeq.run ?_
    (conv => whnf); refine VSeq.run ?_
    (conv => whnf); refine re_load hl hp4 ag32 trivial (h1.frame (st4.old.mono hS)) fun v5 hv5 => ?_
    (conv => whnf); refine fa fl94_2 ?_
    (conv => whnf); refine ld1 (v := .int .i64 d.l) ct3 (by rw [hb4.cell, Nat.zero_add]; exact rn_l d) trivial ?_
    (conv => whnf); rw [hl1]
    (conv => whnf); refine pures (iha hpln (fun k hk => st4.up (hS k hk)) hv5 hta) fun H5 ha5 => ?_
    have st5 := st4.call ha5
    (conv => whnf)
    exact ⟨rfl, st5.old⟩
  | and_ => intro h; cases h
  | minus => intro h; cases h
end Go.Proofs.YtlnmhfhdjnenoaaGreatDoor
/- The document's parser: raw nodes, frames; the plain law. -/
set_option linter.unusedVariables false
set_option linter.unusedSimpArgs false
set_option maxRecDepth 100000
namespace Go.Proofs.YtlnmhfhdjnenoaaGreatDoor
open Go.VC Go.Lib
/-! ### raw trees -/
inductive RwM
  | eps
  | cls (s : BitVec 256)
  | cat (a b : RwM)
  | alt (a b : RwM)
  | and_ (a b : RwM)
  | minus (a b : RwM)
  | rep (a : RwM) (m n : Int)
def lowM (m : Int) : Nat := if m = -2 then 1 else m.toNat
def RwM.den : RwM → ReM
  | .eps => .eps
  | .cls s => .cls s
  | .cat a b => .cat a.den b.den
  | .alt a b => .alt a.den b.den
  | .and_ a b => .and_ a.den b.den
  | .minus a b => .minus a.den b.den
  | .rep a m n => repR a.den (lowM m) n
def binN (op x y : Int) : RnM := ⟨op, 0#256, x, y, 0, 0⟩
def clsD (s : BitVec 256) : RnM := ⟨1, s, 0, 0, 0, 0⟩
def repN (x m n : Int) : RnM := ⟨7, 0#256, x, 0, m, n⟩
/-- The numbers of a repeat. -/
def RepOk (m n : Int) : Prop := (m = -2 ∧ n = -1) ∨ (0 ≤ m ∧ m ≤ 255 ∧ -1 ≤ n ∧ n ≤ 255 ∧ (0 ≤ n → m ≤ n))
/-- The node d stands for w; its parts stand ahead of it. -/
def NodeR (ws : List RwM) (d : RnM) : RwM → Prop
  | .eps => d = binN 0 0 0
  | .cls s => d = clsD s
  | .cat a b => ∃ j k : Nat, d = binN 2 j k ∧ ws[j]? = some a ∧ ws[k]? = some b
  | .alt a b => ∃ j k : Nat, d = binN 3 j k ∧ ws[j]? = some a ∧ ws[k]? = some b
  | .and_ a b => ∃ j k : Nat, d = binN 5 j k ∧ ws[j]? = some a ∧ ws[k]? = some b
  | .minus a b => ∃ j k : Nat, d = binN 6 j k ∧ ws[j]? = some a ∧ ws[k]? = some b
  | .rep a m n => ∃ j : Nat, d = repN j m n ∧ ws[j]? = some a ∧ RepOk m n
/-- The nodes ds stand for the trees ws. -/
inductive Raw : List RnM → List RwM → Prop
  | nil : Raw [] []
  | add {ds : List RnM} {ws : List RwM} {d : RnM} {w : RwM} : Raw ds ws → NodeR ws d w → Raw (ds ++ [d]) (ws ++ [w])
theorem Raw.len {ds : List RnM} {ws : List RwM} (h : Raw ds ws) : ds.length = ws.length := by
  induction h with
  | nil => rfl
  | add _ _ ih => simp [ih]
theorem NodeR.more {ws us : List RwM} {d : RnM} : ∀ {w : RwM}, NodeR ws d w → NodeR (ws ++ us) d w
  | .eps, h => h
  | .cls s, h => h
  | .cat a b, ⟨j, k, h1, h2, h3⟩ => ⟨j, k, h1, getx h2, getx h3⟩
  | .alt a b, ⟨j, k, h1, h2, h3⟩ => ⟨j, k, h1, getx h2, getx h3⟩
  | .and_ a b, ⟨j, k, h1, h2, h3⟩ => ⟨j, k, h1, getx h2, getx h3⟩
  | .minus a b, ⟨j, k, h1, h2, h3⟩ => ⟨j, k, h1, getx h2, getx h3⟩
  | .rep a m n, ⟨j, h1, h2, h3⟩ => ⟨j, h1, getx h2, h3⟩
theorem get_last {α : Type} {l : List α} {x y : α} {i : Nat} (h : (l ++ [x])[i]? = some y) : l[i]? = some y ∨ (i = l.length ∧ y = x) := by
  by_cases hi : i < l.length
  · rw [List.getElem?_append_left hi] at h; exact .inl h
  · rw [List.getElem?_append_right (by omega)] at h
    have : i - l.length = 0 := by
      have := (List.getElem?_eq_some_iff.1 h).1
      simp at this; omega
    rw [this] at h
    exact .inr ⟨by omega, by simpa using h.symm⟩
theorem Raw.at_ {ds : List RnM} {ws : List RwM} (h : Raw ds ws) : ∀ {i : Nat} {w : RwM}, ws[i]? = some w → ∃ d us vs, ds[i]? = some d ∧ ws = us ++ vs ∧ us.length = i ∧ NodeR us d w := by
  induction h with
  | nil => intro i w hw; cases hw
  | @add ds ws d w h1 h2 ih =>
    intro i w' hw
    rcases get_last hw with hw | ⟨rfl, rfl⟩
    · obtain ⟨d', us, vs, h3, rfl, h4, h5⟩ := ih hw
      exact ⟨d', us, vs ++ [w], getx h3, by simp, h4, h5⟩
    · refine ⟨d, ws, [w'], ?_, rfl, rfl, h2⟩
      rw [← h1.len]; simp
theorem Raw.at2 {ds : List RnM} {ws : List RwM} (h : Raw ds ws) {i : Nat} {w : RwM} (hw : ws[i]? = some w) : ∃ d, ds[i]? = some d ∧ NodeR ws d w := by
  obtain ⟨d, us, vs, h1, rfl, -, h3⟩ := h.at_ hw
  exact ⟨d, h1, h3.more⟩
/-! ### frames -/
structure FrD where
  place : Int
  alt : Int
  meet : Int
  sign : Nat
  row : Int
  factor : Int
def frL (f : FrD) : List Value := [.int .i64 f.place, .int .i64 f.alt, .int .i64 f.meet, .int .u8 (f.sign : Int), .int .i64 f.row, .int .i64 f.factor]
def tFr : Ty FrD where
  size := 6
  rep _ _ cs d := cs = frL d
  len h := by rw [h]; rfl
  frame h _ := h
  mono h _ := h
theorem fr_ones (d : FrD) : (frL d).all (·.oneCell') = true := rfl
def IxR (ws : List RwM) (x : Int) : Option ReM → Prop
  | none => x = -1
  | some r => ∃ (j : Nat) (w : RwM), x = (j : Int) ∧ ws[j]? = some w ∧ w.den = r
structure FrR (ws : List RwM) (f : FrD) (a : AF) : Prop where
  place : f.place = a.place
  alt : IxR ws f.alt a.alt
  meet : IxR ws f.meet a.meet
  sign : f.sign = a.sign
  row : IxR ws f.row a.row
  factor : IxR ws f.factor a.factor
theorem IxR.more {ws us : List RwM} {x : Int} : ∀ {o : Option ReM}, IxR ws x o → IxR (ws ++ us) x o
  | none, h => h
  | some r, ⟨j, w, h1, h2, h3⟩ => ⟨j, w, h1, getx h2, h3⟩
theorem FrR.more {ws us : List RwM} {f : FrD} {a : AF} (h : FrR ws f a) : FrR (ws ++ us) f a := ⟨h.place, h.alt.more, h.meet.more, h.sign, h.row.more, h.factor.more⟩
theorem IxR.neg {ws : List RwM} {x : Int} {o : Option ReM} (h : IxR ws x o) : x < 0 ↔ o = none := by
  cases o with
  | none => exact ⟨fun _ => rfl, fun _ => by rw [show x = -1 from h]; decide⟩
  | some r =>
    obtain ⟨j, w, rfl, -⟩ := h
    exact ⟨fun h => absurd h (by omega), fun h => by cases h⟩
/-- The new node. -/
theorem IxR.new {ds : List RnM} {ws : List RwM} {w : RwM} {r : ReM} (h : Raw ds ws) (hr : w.den = r) : IxR (ws ++ [w]) (ds.length : Int) (some r) := ⟨ds.length, w, rfl, by rw [h.len]; simp, hr⟩
def settleD (ds : List RnM) (f : FrD) : List RnM × FrD :=
  if f.factor < 0 then (ds, f) else if f.row < 0 then (ds, { f with row := f.factor, factor := -1 }) else (ds ++ [binN 2 f.row f.factor], { f with row := ds.length, factor := -1 })
def emptyD (ds : List RnM) (f : FrD) : List RnM × FrD := if f.row < 0 then (ds ++ [binN 0 0 0], { f with row := ds.length }) else (ds, f)
def meetD (ds : List RnM) (f : FrD) : List RnM × FrD :=
  if f.meet < 0 then (ds, { f with meet := f.row, row := -1 }) else (ds ++ [binN (if f.sign = 38 then 5 else 6) f.meet f.row], { f with meet := ds.length, row := -1 })
def foldD (ds : List RnM) (f : FrD) : List RnM × FrD := meetD (emptyD (settleD ds f).1 (settleD ds f).2).1 (emptyD (settleD ds f).1 (settleD ds f).2).2
def altD (ds : List RnM) (f : FrD) : List RnM × FrD :=
  if f.alt < 0 then (ds, { f with alt := f.meet, meet := -1 }) else (ds ++ [binN 3 f.alt f.meet], { f with alt := ds.length, meet := -1 })
def closeD (ds : List RnM) (f : FrD) : List RnM × FrD := altD (foldD ds f).1 (foldD ds f).2
theorem settleD_len (ds : List RnM) (f : FrD) : (settleD ds f).1.length ≤ ds.length + 1 := by
  unfold settleD; split; · simp
  split <;> simp
theorem emptyD_len (ds : List RnM) (f : FrD) : (emptyD ds f).1.length ≤ ds.length + 1 := by unfold emptyD; split <;> simp
theorem meetD_len (ds : List RnM) (f : FrD) : (meetD ds f).1.length ≤ ds.length + 1 := by unfold meetD; split <;> simp
theorem altD_len (ds : List RnM) (f : FrD) : (altD ds f).1.length ≤ ds.length + 1 := by unfold altD; split <;> simp
theorem foldD_len (ds : List RnM) (f : FrD) : (foldD ds f).1.length ≤ ds.length + 3 := by
  unfold foldD
  have h1 := settleD_len ds f
  have h2 := emptyD_len (settleD ds f).1 (settleD ds f).2
  have h3 := meetD_len (emptyD (settleD ds f).1 (settleD ds f).2).1 (emptyD (settleD ds f).1 (settleD ds f).2).2
  omega
theorem closeD_len (ds : List RnM) (f : FrD) : (closeD ds f).1.length ≤ ds.length + 4 := by
  unfold closeD
  have h1 := foldD_len ds f
  have h2 := altD_len (foldD ds f).1 (foldD ds f).2
  omega
/-- How a step on a frame goes with the machine's. -/
structure Goes (ws : List RwM) (q : List RnM × FrD) (a : AF) : Prop where
  ex : ∃ us, Raw q.1 (ws ++ us) ∧ FrR (ws ++ us) q.2 a
theorem Goes.then_ {ws : List RwM} {q q' : List RnM × FrD} {a a' : AF} (h : Goes ws q a) (k : ∀ ws', Raw q.1 ws' → FrR ws' q.2 a → Goes ws' q' a') : Goes ws q' a' := by
  obtain ⟨us, h1, h2⟩ := h
  obtain ⟨vs, h3, h4⟩ := k _ h1 h2
  rw [List.append_assoc] at h3 h4
  exact ⟨_, h3, h4⟩
theorem settle_goes {ds : List RnM} {ws : List RwM} {f : FrD} {a : AF} (h : Raw ds ws) (g : FrR ws f a) : Goes ws (settleD ds f) (settleF a) := by
  unfold settleD settleF
  cases hf : a.factor with
  | none =>
    rw [if_pos (g.factor.neg.2 hf)]
    exact ⟨[], by simpa using h, by simpa using g⟩
  | some p =>
    rw [if_neg (fun e => by have := g.factor.neg.1 e; rw [hf] at this; cases this)]
    have gf := g.factor
    rw [hf] at gf
    cases hr : a.row with
    | none =>
      rw [if_pos (g.row.neg.2 hr)]
      exact ⟨[], by simpa using h, by simpa using ⟨g.place, g.alt, g.meet, g.sign, gf, rfl⟩⟩
    | some q =>
      rw [if_neg (fun e => by have := g.row.neg.1 e; rw [hr] at this; cases this)]
      have gr := g.row
      rw [hr] at gr
      obtain ⟨j, w, e1, e2, e3⟩ := gr
      obtain ⟨k, v, e4, e5, e6⟩ := gf
      refine ⟨[.cat w v], h.add ⟨j, k, by rw [e1, e4], e2, e5⟩, ⟨g.place, g.alt.more, g.meet.more, g.sign, ?_, rfl⟩⟩
      exact IxR.new h (by rw [← e3, ← e6]; rfl)
theorem fold_goes {ds : List RnM} {ws : List RwM} {f : FrD} {a : AF} (h : Raw ds ws) (g : FrR ws f a) : Goes ws (foldD ds f) (foldF a) := by
  refine (settle_goes h g).then_ fun ws1 h1 g1 => ?_
  unfold foldD
  generalize settleD ds f = q1 at *
  obtain ⟨ds1, f1⟩ := q1
  have he : Goes ws1 (emptyD ds1 f1) { settleF a with row := some ((settleF a).row.getD .eps) } := by
    unfold emptyD
    cases hr : (settleF a).row with
    | none =>
      rw [if_pos (g1.row.neg.2 hr)]
      exact ⟨[.eps], h1.add rfl, ⟨g1.place, g1.alt.more, g1.meet.more, g1.sign, IxR.new h1 rfl, g1.factor.more⟩⟩
    | some q =>
      rw [if_neg (fun e => by have := g1.row.neg.1 e; rw [hr] at this; cases this)]
      have gr := g1.row
      rw [hr] at gr
      exact ⟨[], by simpa using h1, by simpa using ⟨g1.place, g1.alt, g1.meet, g1.sign, gr, g1.factor⟩⟩
  refine he.then_ fun ws2 h2 g2 => ?_
  generalize emptyD ds1 f1 = q2 at *
  obtain ⟨ds2, f2⟩ := q2
  obtain ⟨j, w, e1, e2, e3⟩ := g2.row
  unfold meetD
  cases hm : (settleF a).meet with
  | none =>
    rw [if_pos (g2.meet.neg.2 hm)]
    refine ⟨[], by simpa using h2, ?_⟩
    rw [List.append_nil]
    refine ⟨g2.place, g2.alt, ?_, g2.sign, rfl, g2.factor⟩
    show IxR ws2 f2.row (some (match (settleF a).meet with | none => _ | some q => _))
    rw [hm]
    exact ⟨j, w, e1, e2, e3⟩
  | some q =>
    rw [if_neg (fun e => by have := g2.meet.neg.1 e; rw [show ({ settleF a with row := some ((settleF a).row.getD .eps) } : AF).meet = (settleF a).meet from rfl, hm] at this; cases this)]
    have gm := g2.meet
    rw [show ({ settleF a with row := some ((settleF a).row.getD .eps) } : AF).meet = (settleF a).meet from rfl, hm] at gm
    obtain ⟨k, v, e4, e5, e6⟩ := gm
    have hs : f2.sign = (settleF a).sign := g2.sign
    have fin : ∀ (x : RwM) (op : Int), NodeR ws2 (binN op f2.meet f2.row) x → some x.den = (foldF a).meet → Goes ws2 (ds2 ++ [binN op f2.meet f2.row], { f2 with meet := (ds2.length : Int), row := -1 }) (foldF a) := fun x op hx hxd =>
      ⟨[x], h2.add hx, ⟨g2.place, g2.alt.more, by show IxR _ _ (foldF a).meet; rw [← hxd]; exact IxR.new h2 rfl, g2.sign, rfl, g2.factor.more⟩⟩
    by_cases h38 : f2.sign = 38
    · rw [if_pos h38]
      refine fin (.and_ v w) 5 ⟨k, j, by rw [e1, e4], e5, e2⟩ ?_
      show some (ReM.and_ v.den w.den) = some (match (settleF a).meet with | none => _ | some q => _)
      rw [hm]
      show _ = some (if (settleF a).sign = 38 then _ else _)
      rw [if_pos (by rw [← hs]; exact h38), e3, e6]
    · rw [if_neg h38]
      refine fin (.minus v w) 6 ⟨k, j, by rw [e1, e4], e5, e2⟩ ?_
      show some (ReM.minus v.den w.den) = some (match (settleF a).meet with | none => _ | some q => _)
      rw [hm]
      show _ = some (if (settleF a).sign = 38 then _ else _)
      rw [if_neg (by rw [← hs]; exact h38), e3, e6]
theorem close_goes {ds : List RnM} {ws : List RwM} {f : FrD} {a : AF} (h : Raw ds ws) (g : FrR ws f a) : Goes ws (closeD ds f) (closeF a) := by
  refine (fold_goes h g).then_ fun ws2 h2 g2 => ?_
  unfold closeD
  generalize foldD ds f = q2 at *
  obtain ⟨ds2, f2⟩ := q2
  have gm := g2.meet
  have hfm : (foldF a).meet = some ((foldF a).meet.getD .eps) := rfl
  rw [hfm] at gm
  obtain ⟨j, w, e1, e2, e3⟩ := gm
  unfold altD
  cases hm : (foldF a).alt with
  | none =>
    rw [if_pos (g2.alt.neg.2 hm)]
    refine ⟨[], by simpa using h2, ?_⟩
    rw [List.append_nil]
    refine ⟨g2.place, ?_, rfl, g2.sign, g2.row, g2.factor⟩
    show IxR ws2 f2.meet (some (match (foldF a).alt with | none => _ | some q => _))
    rw [hm]
    exact ⟨j, w, e1, e2, e3⟩
  | some q =>
    rw [if_neg (fun e => by have := g2.alt.neg.1 e; rw [hm] at this; cases this)]
    have ga := g2.alt
    rw [hm] at ga
    obtain ⟨k, v, e4, e5, e6⟩ := ga
    refine ⟨[.alt v w], h2.add ⟨k, j, by rw [e1, e4], e5, e2⟩, ⟨g2.place, ?_, rfl, g2.sign, g2.row.more, g2.factor.more⟩⟩
    show IxR _ _ (some (match (foldF a).alt with | none => _ | some q => _))
    rw [hm]
    exact IxR.new h2 (by show ReM.alt v.den w.den = _; rw [e3, e6])
end Go.Proofs.YtlnmhfhdjnenoaaGreatDoor
/- The document's rules for nondeterministic automata: silent, part over trees without signs. -/
set_option linter.unusedVariables false
set_option linter.unusedSimpArgs false
set_option maxRecDepth 100000
namespace Go.Proofs.YtlnmhfhdjnenoaaGreatDoor
open Go.VC
theorem fill3 {place : Nat → Option (Nat × Nat)} {c0 c1 c2 v0 v1 v2 : Value} {zs : List Value} (p0 : place 0 = some (0, 1)) (p1 : place 1 = some (1, 1)) (p2 : place 2 = some (2, 1))
    (h0 : v0.cells = #[v0]) (h1 : v1.cells = #[v1]) (h2 : v2.cells = #[v2]) : Instr.fill place ([c0, c1, c2] ++ zs).toArray [(0, v0), (1, v1), (2, v2)] = some ([v0, v1, v2] ++ zs).toArray := by
  have e0 : splice ([c0, c1, c2] ++ zs) 0 [v0] = [v0, c1, c2] ++ zs := rfl
  have e1 : splice ([v0, c1, c2] ++ zs) 1 [v1] = [v0, v1, c2] ++ zs := rfl
  have e2 : splice ([v0, v1, c2] ++ zs) 2 [v2] = [v0, v1, v2] ++ zs := rfl
  rw [fill_cons p0 (by rw [h0]; rfl) (by simp), h0, List.toList_toArray, e0, fill_cons p1 (by rw [h1]; rfl) (by simp), h1, List.toList_toArray, e1, fill_cons p2 (by rw [h2]; rfl) (by simp), h2, List.toList_toArray, List.toList_toArray, e2]
  rfl
theorem fill3b {place : Nat → Option (Nat × Nat)} {c0 c1 c2 v0 v1 : Value} {zs bs : List Value} (hl : bs.length = zs.length) (p0 : place 0 = some (0, 1)) (p1 : place 1 = some (1, 1)) (p3 : place 3 = some (3, zs.length))
    (h0 : v0.cells = #[v0]) (h1 : v1.cells = #[v1]) : Instr.fill place ([c0, c1, c2] ++ zs).toArray [(0, v0), (1, v1), (3, .agg bs.toArray)] = some ([v0, v1, c2] ++ bs).toArray := by
  have e0 : splice ([c0, c1, c2] ++ zs) 0 [v0] = [v0, c1, c2] ++ zs := rfl
  have e1 : splice ([v0, c1, c2] ++ zs) 1 [v1] = [v0, v1, c2] ++ zs := rfl
  have e3 : splice ([v0, v1, c2] ++ zs) 3 bs = [v0, v1, c2] ++ bs := by
    unfold splice
    rw [show ([v0, v1, c2] ++ zs).take 3 = [v0, v1, c2] from rfl, List.drop_eq_nil_of_le (by simp; omega), List.append_nil]
  have ec : (Value.agg bs.toArray).cells = bs.toArray := rfl
  rw [fill_cons p0 (by rw [h0]; rfl) (by simp), h0, List.toList_toArray, e0, fill_cons p1 (by rw [h1]; rfl) (by simp), h1, List.toList_toArray, e1, fill_cons p3 (by rw [ec]; simpa using hl) (by simp; omega), ec, List.toList_toArray, List.toList_toArray, e3]
  rfl
theorem silD_build (p q : Nat) {S : Nat → Prop} {H : Heap} {K : Value → Prop} (k : K (.agg (edDL (silE p q)).toArray)) :
    VDet Tryz.prog (Instr.build 106 [(0, .int .i64 (p : Int)), (1, .int .i64 (q : Int)), (2, .bool true)].toArray) S H K := by
  refine vbuildS Tryz.underlying106 rfl edDZ edgeD_z (edDL (silE p q)) ?_ k
  unfold edDL
  rw [show (silE p q).set = 0#256 from rfl, bitsL_zero]
  exact fill3 (by kernel_rfl) (by kernel_rfl) (by kernel_rfl) rfl rfl rfl
theorem setD_build (p q : Nat) (s : BitVec 256) {S : Nat → Prop} {H : Heap} {K : Value → Prop} (k : K (.agg (edDL (setE p q s)).toArray)) :
    VDet Tryz.prog (Instr.build 106 [(0, .int .i64 (p : Int)), (1, .int .i64 (q : Int)), (3, .agg (bitsL s).toArray)].toArray) S H K :=
  vbuildS Tryz.underlying106 rfl edDZ edgeD_z (edDL (setE p q s)) (fill3b (zs := List.replicate 256 (Value.bool false)) (by rw [show (bitsL s).length = 256 from bitsTo_len _ _, List.length_replicate]) (by kernel_rfl) (by kernel_rfl) (by rw [List.length_replicate]; kernel_rfl) rfl rfl) k
def dbL (n : Nat) (v : Value) : List Value := [.int .i64 (n : Int), .int .i64 0, .int .i64 0, v]
abbrev tDb : TypeId := 42
section
variable {B : Nat → Prop} {H0 H : Heap} {rest : List Pc} {bb n : Nat} {v : Value}
theorem dsil_v {K : Value → Heap → Prop} {a : Option Addr} {c p q : Nat} {es : List EdM} (st : StB B H0 H (pB tDb bb (dbL n (.slice a es.length c)) :: pS tEdD 106 a es.length c es :: rest)) (hp : p ≤ 2000000) (hq : q ≤ 2000000) (hl : es.length + 1 ≤ 4194304)
    (k : ∀ a' c' H', StB B H0 H' (pB tDb bb (dbL n (.slice a' (es ++ [silE p q]).length c')) :: pS tEdD 106 a' (es ++ [silE p q]).length c' (es ++ [silE p q]) :: rest) → K (.tuple #[]) H') :
    VCall Tryz.prog 75 #[.pointer (some ⟨bb, 0, none⟩), .int .i64 (p : Int), .int .i64 (q : Int)] H K := by
  refine VCall.mk (R := fun r H' => r = .tuple #[] ∧ ∃ a' c', StB B H0 H' (pB tDb bb (dbL n (.slice a' (es ++ [silE p q]).length c')) :: pS tEdD 106 a' (es ++ [silE p q]).length c' (es ++ [silE p q]) :: rest)) ?_ fun r H' ⟨h1, a', c', h2⟩ => by rw [h1]; exact k a' c' H' h2
  refine FnOk.of_vc Tryz.func75 rfl (Tryz.call75 _) ?_
  (conv => whnf); refine fa fl42_3 ?_
  (conv => whnf); refine ld1 (v := .slice a es.length c) ct40 (by rw [(st.blk 0 rfl).cell]; rfl) trivial ?_
  (conv => whnf); refine silD_build p q ?_
  (conv => whnf); refine vbuild1 sl40 (edDL (silE p q)) rfl (edDL_len _) (by decide) (by decide) ?_
  intro y H1 hy hs1 hb1 ha1
  have st1 := st.skip hy ha1
  (conv => whnf); refine appO (ys := [silE p q]) st1 1 sl40 rfl (hb1.cells (o := 0) (cs := edDL (silE p q)) fun j v hv => by rw [Nat.zero_add]; exact hv) (Ty.reps_one ⟨rfl, edge_ok hp hq _ _⟩) rfl (fun u hu => List.all_eq_true.1 (edD_ones _) u hu) (by simpa using hl) (by decide) fun a9 c9 H9 st9 _ => ?_
  (conv => whnf); refine fa fl42_3 ?_
  (conv => whnf); refine st1B st9 0 ct40 rfl (show 3 < 4 by decide) rfl fun H10 st10 => ?_
  (conv => whnf)
  have el : es.length + [silE p q].length = (es ++ [silE p q]).length := by simp
  rw [el] at st10
  exact ⟨rfl, a9, c9, st10⟩
end
set_option maxHeartbeats 16000000 in
theorem partD_c {B : Nat → Prop} {H0 : Heap} {bb : Nat} {ns : List RnM} {root : Int} {v0 : Value} (hv0 : ReV B H0 v0 ns root) : ∀ (r : ReM), r.plain = true → ∀ {H : Heap} {rest : List Pc} {n i : Nat} {a : Option Addr} {c : Nat} {es : List EdM} {v : Value}, TreeAt ns r i → v = v0 →
    (st : StB B H0 H (pB tDb bb (dbL n (.slice a es.length c)) :: pS tEdD 106 a es.length c es :: rest)) → n + stM r ≤ 1000000 → es.length + 2 * stM r ≤ 4000000 →
    FnOk Tryz.prog 47 #[.pointer (some ⟨bb, 0, none⟩), v, .int .i64 (i : Int), .slice none 0 0] H fun u H' => u = .tuple #[.int .i64 ((bldM r n).1 : Nat), .int .i64 ((bldM r n).2.1 : Nat)] ∧ ∃ a' c', StB B H0 H' (pB tDb bb (dbL (n + stM r) (.slice a' (es ++ (bldM r n).2.2).length c')) :: pS tEdD 106 a' (es ++ (bldM r n).2.2).length c' (es ++ (bldM r n).2.2) :: rest) := fun r => by
  obtain ⟨hl, na, nc, rfl, h1⟩ := hv0
  have hlt : ∀ {H : Heap} {ps : List Pc}, StB B H0 H ps → ∀ k, B k → k < H0.size := fun st => st.lt0
  induction r with
  | eps =>
    intro hpl H rest n i a c es v ht hv st hn hl2
    subst hv
    simp only [stM] at hn hl2
    obtain ⟨d, hd, hop⟩ := ht
    refine FnOk.of_vc Tryz.func47 rfl (Tryz.call47 _) ?_
    (conv => whnf); refine vbox (reL (.slice na ns.length nc) root) rfl ?_
    intro p H1 hp hs1 hb1 ha1
    have st1 := (st.box hp hs1 hb1 ha1).perm (List.perm_append_singleton _ _)
    (conv => whnf); refine fa fl32_0 ?_
    (conv => whnf); refine ld1 (v := .slice na ns.length nc) ct30 (by rw [(st1.blk 0 rfl).cell]; rfl) trivial ?_
    (conv => whnf); refine ixr (i := i) sl30 (h1.frame st1.old) hd rfl ?_
    rintro b2 o2 c2 hS2 hc2 ⟨rfl, hok⟩
    (conv => whnf); refine ldN (cs := rnL d) (by rw [rnL_len]; exact ag94) hc2 trivial ?_
    (conv => whnf); refine valloc _ rnZ rn_z rfl ?_
    intro x H3 hx hs3 hb3 ha3
    have st3 := (st1.box hx hs3 hb3 ha3).perm (List.perm_append_singleton _ _)
    (conv => whnf); refine stNB (cs := rnL d) st3 0 (by rw [rnL_len]; rfl) rfl (by rw [rnL_len, rnZ_len]; decide) (rn_ones d) fun H4 st4 => ?_
    rw [splice_all (show (rnL d).length = rnZ.length by rw [rnL_len, rnZ_len])] at st4
    replace st4 : StB B H0 H4 (pB tDb bb (dbL n (.slice a es.length c)) :: pS tEdD 106 a es.length c es :: pB 94 x (rnL d) :: pB 32 p (reL (.slice na ns.length nc) root) :: rest) := st4.pickN 4 [2, 3, 0, 1] (by decide)
    (conv => whnf); refine fa fl42_0 ?_
    (conv => whnf); refine ld1 (v := .int .i64 (n : Int)) ct3 (by rw [(st4.blk 0 rfl).cell]; rfl) trivial ?_
    (conv => whnf); refine fa fl94_0 ?_
    (conv => whnf); refine ld1 (v := .int .i64 d.op) ct3 (by rw [(st4.blk 2 rfl).cell]; exact rn_op d) trivial ?_
    (conv => whnf); rw [hop]
    (conv => whnf); refine fa fl42_0 ?_
    (conv => whnf); refine ld1 (v := .int .i64 ((n : Nat) : Int)) ct3 (by rw [(st4.blk 0 rfl).cell]; rfl) trivial ?_
    (conv => whnf); rw [w64 (x := ((n : Nat) : Int) + 2) (by omega) (by omega), show ((n : Nat) : Int) + 2 = ((n + 2 : Nat) : Int) by omega]
    (conv => whnf); refine fa fl42_0 ?_
    (conv => whnf); refine st1B st4 0 ct3 rfl (show 0 < 4 by decide) rfl fun H5 st5 => ?_
    (conv => whnf); rw [w64 (x := (n : Int) + 1) (by omega) (by omega), show (n : Int) + 1 = ((n + 1 : Nat) : Int) by omega]
    (conv => whnf); refine dsil_v st5 (by omega) (by omega) (by first | omega | (simp only [List.length_append, List.length_cons, List.length_nil]; omega)) fun a6 c6 H6 st6 => ?_
    (conv => whnf); rw [w64 (x := (n : Int) + 1) (by omega) (by omega), show (n : Int) + 1 = ((n + 1 : Nat) : Int) by omega]
    (conv => whnf)
    exact ⟨rfl, a6, c6, st6.pickN 4 [0, 1] (by decide)⟩
  | cls s =>
    intro hpl H rest n i a c es v ht hv st hn hl2
    subst hv
    simp only [stM] at hn hl2
    obtain ⟨d, hd, hop, hset⟩ := ht
    refine FnOk.of_vc Tryz.func47 rfl (Tryz.call47 _) ?_
    (conv => whnf); refine vbox (reL (.slice na ns.length nc) root) rfl ?_
    intro p H1 hp hs1 hb1 ha1
    have st1 := (st.box hp hs1 hb1 ha1).perm (List.perm_append_singleton _ _)
    (conv => whnf); refine fa fl32_0 ?_
    (conv => whnf); refine ld1 (v := .slice na ns.length nc) ct30 (by rw [(st1.blk 0 rfl).cell]; rfl) trivial ?_
    (conv => whnf); refine ixr (i := i) sl30 (h1.frame st1.old) hd rfl ?_
    rintro b2 o2 c2 hS2 hc2 ⟨rfl, hok⟩
    (conv => whnf); refine ldN (cs := rnL d) (by rw [rnL_len]; exact ag94) hc2 trivial ?_
    (conv => whnf); refine valloc _ rnZ rn_z rfl ?_
    intro x H3 hx hs3 hb3 ha3
    have st3 := (st1.box hx hs3 hb3 ha3).perm (List.perm_append_singleton _ _)
    (conv => whnf); refine stNB (cs := rnL d) st3 0 (by rw [rnL_len]; rfl) rfl (by rw [rnL_len, rnZ_len]; decide) (rn_ones d) fun H4 st4 => ?_
    rw [splice_all (show (rnL d).length = rnZ.length by rw [rnL_len, rnZ_len])] at st4
    replace st4 : StB B H0 H4 (pB tDb bb (dbL n (.slice a es.length c)) :: pS tEdD 106 a es.length c es :: pB 94 x (rnL d) :: pB 32 p (reL (.slice na ns.length nc) root) :: rest) := st4.pickN 4 [2, 3, 0, 1] (by decide)
    (conv => whnf); refine fa fl42_0 ?_
    (conv => whnf); refine ld1 (v := .int .i64 (n : Int)) ct3 (by rw [(st4.blk 0 rfl).cell]; rfl) trivial ?_
    (conv => whnf); refine fa fl94_0 ?_
    (conv => whnf); refine ld1 (v := .int .i64 d.op) ct3 (by rw [(st4.blk 2 rfl).cell]; exact rn_op d) trivial ?_
    (conv => whnf); rw [hop]
    (conv => whnf); refine fa fl42_0 ?_
    (conv => whnf); refine ld1 (v := .int .i64 ((n : Nat) : Int)) ct3 (by rw [(st4.blk 0 rfl).cell]; rfl) trivial ?_
    (conv => whnf); rw [w64 (x := ((n : Nat) : Int) + 2) (by omega) (by omega), show ((n : Nat) : Int) + 2 = ((n + 2 : Nat) : Int) by omega]
    (conv => whnf); refine fa fl42_0 ?_
    (conv => whnf); refine st1B st4 0 ct3 rfl (show 0 < 4 by decide) rfl fun H5 st5 => ?_
    have hdis := st5.apart2 (i := 0) (j := 1) rfl rfl (by decide)
    have hdis2 := st5.apart2 (i := 2) (j := 1) rfl rfl (by decide)
    have hb5 : bb < H5.size ∧ ¬ slB (.slice a es.length c) bb := ⟨(st5.in_ 0 rfl rfl).2, fun h => hdis bb rfl (.inl h)⟩
    have hx5 : x < H5.size ∧ ¬ slB (.slice a es.length c) x := ⟨(st5.in_ 2 rfl rfl).2, fun h => hdis2 x rfl (.inl h)⟩
    (conv => whnf); refine VDraw.heldZ (fun k => k < H5.size ∧ ¬ slB (.slice a es.length c) k) [15] (sq [0,1,2,3,4,5,6,7,8,9,10] (.f 11 (.f 12 (sq [13,14] (.f 15 .e))))) rfl (by kernel_rfl) ?_
    (conv => whnf); refine fa fl42_3 ?_
    (conv => whnf); refine ld1 (v := .slice a es.length c) ct40 (by rw [(st5.blk 0 rfl).cell]; rfl) hb5 ?_
    (conv => whnf); rw [w64 (x := (n : Int) + 1) (by omega) (by omega), show (n : Int) + 1 = ((n + 1 : Nat) : Int) by omega]
    (conv => whnf); refine fa fl94_1 ?_
    (conv => whnf); refine ldN (cs := bitsL d.set) (by rw [bitsL_len]; exact ag92) ((st5.blk 2 rfl).cells fun j v hv => rn_set d j v hv) hx5 ?_
    (conv => whnf); rw [hset]
    refine setD_build n (n + 1) s ?_
    (conv => whnf); refine vbuild1 sl40 (edDL (setE n (n + 1) s)) rfl (edDL_len _) (by decide) (by decide) ?_
    intro y H6 hy hs6 hb6 ha6
    have st6 := st5.skip hy ha6
    refine ⟨ha6.mono fun k hk => by have := hk.1; omega, ?_⟩
    (conv => whnf); refine appO (ys := [setE n (n + 1) s]) st6 1 sl40 rfl (hb6.cells (o := 0) (cs := edDL (setE n (n + 1) s)) fun j v hv => by rw [Nat.zero_add]; exact hv) (Ty.reps_one ⟨rfl, edge_ok (by omega) (by omega) _ _⟩) rfl (fun u hu => List.all_eq_true.1 (edD_ones _) u hu) (by simp only [List.length_cons, List.length_nil]; omega) (by decide) fun a9 c9 H9 st9 ha9 => ?_
    refine ⟨(ha6.mono fun k hk => by have := hk.1; omega).trans (ha9.mono fun k hk => ⟨by have := hk.1; omega, hk.2⟩), ?_⟩
    (conv => whnf); refine fa fl42_3 ?_
    (conv => whnf); refine st1B st9 0 ct40 rfl (show 3 < 4 by decide) rfl fun H10 st10 => ?_
    (conv => whnf); rw [w64 (x := (n : Int) + 1) (by omega) (by omega), show (n : Int) + 1 = ((n + 1 : Nat) : Int) by omega]
    (conv => whnf)
    have el : es.length + [setE n (n + 1) s].length = (es ++ [setE n (n + 1) s]).length := by simp
    rw [el] at st10
    exact ⟨rfl, a9, c9, st10.pickN 4 [0, 1] (by decide)⟩
  | cat r1 r2 ih1 ih2 =>
    intro hpl H rest n i a c es v ht hv st hn hl2
    subst hv
    simp only [ReM.plain, Bool.and_eq_true] at hpl
    simp only [stM] at hn hl2
    obtain ⟨d, j, k, hd, hop, hl1, hl2', hta, htb⟩ := ht
    have hm1 := bldM_len r1 hpl.1 n
    have hm2 := bldM_len r2 hpl.2 (n + stM r1)
    have hi1 := bldM_in r1 hpl.1 n
    have hi2 := bldM_in r2 hpl.2 (n + stM r1)
    refine FnOk.of_vc Tryz.func47 rfl (Tryz.call47 _) ?_
    (conv => whnf); refine vbox (reL (.slice na ns.length nc) root) rfl ?_
    intro p H1 hp hs1 hb1 ha1
    have st1 := (st.box hp hs1 hb1 ha1).perm (List.perm_append_singleton _ _)
    (conv => whnf); refine fa fl32_0 ?_
    (conv => whnf); refine ld1 (v := .slice na ns.length nc) ct30 (by rw [(st1.blk 0 rfl).cell]; rfl) trivial ?_
    (conv => whnf); refine ixr (i := i) sl30 (h1.frame st1.old) hd rfl ?_
    rintro b2 o2 c2 hS2 hc2 ⟨rfl, hok⟩
    (conv => whnf); refine ldN (cs := rnL d) (by rw [rnL_len]; exact ag94) hc2 trivial ?_
    (conv => whnf); refine valloc _ rnZ rn_z rfl ?_
    intro x H3 hx hs3 hb3 ha3
    have st3 := (st1.box hx hs3 hb3 ha3).perm (List.perm_append_singleton _ _)
    (conv => whnf); refine stNB (cs := rnL d) st3 0 (by rw [rnL_len]; rfl) rfl (by rw [rnL_len, rnZ_len]; decide) (rn_ones d) fun H4 st4 => ?_
    rw [splice_all (show (rnL d).length = rnZ.length by rw [rnL_len, rnZ_len])] at st4
    replace st4 : StB B H0 H4 (pB tDb bb (dbL n (.slice a es.length c)) :: pS tEdD 106 a es.length c es :: pB 94 x (rnL d) :: pB 32 p (reL (.slice na ns.length nc) root) :: rest) := st4.pickN 4 [2, 3, 0, 1] (by decide)
    (conv => whnf); refine fa fl42_0 ?_
    (conv => whnf); refine ld1 (v := .int .i64 (n : Int)) ct3 (by rw [(st4.blk 0 rfl).cell]; rfl) trivial ?_
    (conv => whnf); refine fa fl94_0 ?_
    (conv => whnf); refine ld1 (v := .int .i64 d.op) ct3 (by rw [(st4.blk 2 rfl).cell]; exact rn_op d) trivial ?_
    (conv => whnf); rw [hop]
    (conv => whnf); refine ldN (cs := reL (.slice na ns.length nc) root) ag32 ((st4.blk 3 rfl).cells fun j v hv => by rw [Nat.zero_add]; exact hv) trivial ?_
    (conv => whnf); refine fa fl94_2 ?_
    (conv => whnf); refine ld1 (v := .int .i64 d.l) ct3 (by rw [(st4.blk 2 rfl).cell, Nat.zero_add]; exact rn_l d) trivial ?_
    (conv => whnf); rw [hl1]
    (conv => whnf); refine VCall.mk (ih1 hpl.1 hta rfl st4 (by omega) (by first | omega | (simp only [List.length_append]; omega))) ?_
    rintro _ H5 ⟨rfl, a5, c5, st5⟩
    (conv => whnf); refine ldN (cs := reL (.slice na ns.length nc) root) ag32 ((st5.blk 3 rfl).cells fun j v hv => by rw [Nat.zero_add]; exact hv) trivial ?_
    (conv => whnf); refine fa fl94_3 ?_
    (conv => whnf); refine ld1 (v := .int .i64 d.r) ct3 (by rw [(st5.blk 2 rfl).cell, Nat.zero_add]; exact rn_r d) trivial ?_
    (conv => whnf); rw [hl2']
    (conv => whnf); refine VCall.mk (ih2 hpl.2 htb rfl st5 (by omega) (by first | omega | (simp only [List.length_append]; omega))) ?_
    rintro _ H6 ⟨rfl, a6, c6, st6⟩
    (conv => whnf); refine dsil_v st6 (by omega) (by omega) (by first | omega | (simp only [List.length_append, List.length_cons, List.length_nil]; omega)) fun a7 c7 H7 st7 => ?_
    (conv => whnf)
    have e1 : es ++ (bldM r1 n).2.2 ++ (bldM r2 (n + stM r1)).2.2 ++ [silE (bldM r1 n).2.1 (bldM r2 (n + stM r1)).1] = es ++ (bldM (.cat r1 r2) n).2.2 := by simp [bldM]
    rw [e1, show n + stM r1 + stM r2 = n + stM (.cat r1 r2) by simp only [stM]; omega] at st7
    exact ⟨rfl, a7, c7, st7.pickN 4 [0, 1] (by decide)⟩
  | alt r1 r2 ih1 ih2 =>
    intro hpl H rest n i a c es v ht hv st hn hl2
    subst hv
    simp only [ReM.plain, Bool.and_eq_true] at hpl
    simp only [stM] at hn hl2
    obtain ⟨d, j, k, hd, hop, hl1, hl2', hta, htb⟩ := ht
    have hm1 := bldM_len r1 hpl.1 (n + 1)
    have hm2 := bldM_len r2 hpl.2 (n + 1 + stM r1)
    have hi1 := bldM_in r1 hpl.1 (n + 1)
    have hi2 := bldM_in r2 hpl.2 (n + 1 + stM r1)
    refine FnOk.of_vc Tryz.func47 rfl (Tryz.call47 _) ?_
    (conv => whnf); refine vbox (reL (.slice na ns.length nc) root) rfl ?_
    intro p H1 hp hs1 hb1 ha1
    have st1 := (st.box hp hs1 hb1 ha1).perm (List.perm_append_singleton _ _)
    (conv => whnf); refine fa fl32_0 ?_
    (conv => whnf); refine ld1 (v := .slice na ns.length nc) ct30 (by rw [(st1.blk 0 rfl).cell]; rfl) trivial ?_
    (conv => whnf); refine ixr (i := i) sl30 (h1.frame st1.old) hd rfl ?_
    rintro b2 o2 c2 hS2 hc2 ⟨rfl, hok⟩
    (conv => whnf); refine ldN (cs := rnL d) (by rw [rnL_len]; exact ag94) hc2 trivial ?_
    (conv => whnf); refine valloc _ rnZ rn_z rfl ?_
    intro x H3 hx hs3 hb3 ha3
    have st3 := (st1.box hx hs3 hb3 ha3).perm (List.perm_append_singleton _ _)
    (conv => whnf); refine stNB (cs := rnL d) st3 0 (by rw [rnL_len]; rfl) rfl (by rw [rnL_len, rnZ_len]; decide) (rn_ones d) fun H4 st4 => ?_
    rw [splice_all (show (rnL d).length = rnZ.length by rw [rnL_len, rnZ_len])] at st4
    replace st4 : StB B H0 H4 (pB tDb bb (dbL n (.slice a es.length c)) :: pS tEdD 106 a es.length c es :: pB 94 x (rnL d) :: pB 32 p (reL (.slice na ns.length nc) root) :: rest) := st4.pickN 4 [2, 3, 0, 1] (by decide)
    (conv => whnf); refine fa fl42_0 ?_
    (conv => whnf); refine ld1 (v := .int .i64 (n : Int)) ct3 (by rw [(st4.blk 0 rfl).cell]; rfl) trivial ?_
    (conv => whnf); refine fa fl94_0 ?_
    (conv => whnf); refine ld1 (v := .int .i64 d.op) ct3 (by rw [(st4.blk 2 rfl).cell]; exact rn_op d) trivial ?_
    (conv => whnf); rw [hop]
    (conv => whnf); refine fa fl42_0 ?_
    (conv => whnf); refine ld1 (v := .int .i64 ((n : Nat) : Int)) ct3 (by rw [(st4.blk 0 rfl).cell]; rfl) trivial ?_
    (conv => whnf); rw [w64 (x := ((n : Nat) : Int) + 1) (by omega) (by omega), show ((n : Nat) : Int) + 1 = ((n + 1 : Nat) : Int) by omega]
    (conv => whnf); refine fa fl42_0 ?_
    (conv => whnf); refine st1B st4 0 ct3 rfl (show 0 < 4 by decide) rfl fun H5 st5 => ?_
    replace st5 : StB B H0 H5 (pB tDb bb (dbL (n + 1) (.slice a es.length c)) :: pS tEdD 106 a es.length c es :: pB 94 x (rnL d) :: pB 32 p (reL (.slice na ns.length nc) root) :: rest) := st5
    (conv => whnf); refine ldN (cs := reL (.slice na ns.length nc) root) ag32 ((st5.blk 3 rfl).cells fun j v hv => by rw [Nat.zero_add]; exact hv) trivial ?_
    (conv => whnf); refine fa fl94_2 ?_
    (conv => whnf); refine ld1 (v := .int .i64 d.l) ct3 (by rw [(st5.blk 2 rfl).cell, Nat.zero_add]; exact rn_l d) trivial ?_
    (conv => whnf); rw [hl1]
    (conv => whnf); refine VCall.mk (ih1 hpl.1 hta rfl st5 (by omega) (by first | omega | (simp only [List.length_append]; omega))) ?_
    rintro _ H6 ⟨rfl, a6, c6, st6⟩
    (conv => whnf); refine ldN (cs := reL (.slice na ns.length nc) root) ag32 ((st6.blk 3 rfl).cells fun j v hv => by rw [Nat.zero_add]; exact hv) trivial ?_
    (conv => whnf); refine fa fl94_3 ?_
    (conv => whnf); refine ld1 (v := .int .i64 d.r) ct3 (by rw [(st6.blk 2 rfl).cell, Nat.zero_add]; exact rn_r d) trivial ?_
    (conv => whnf); rw [hl2']
    (conv => whnf); refine VCall.mk (ih2 hpl.2 htb rfl st6 (by omega) (by first | omega | (simp only [List.length_append]; omega))) ?_
    rintro _ H7 ⟨rfl, a7, c7, st7⟩
    (conv => whnf); refine fa fl42_0 ?_
    (conv => whnf); refine ld1 (v := .int .i64 ((n + 1 + stM r1 + stM r2 : Nat) : Int)) ct3 (by rw [(st7.blk 0 rfl).cell]; rfl) trivial ?_
    (conv => whnf); refine fa fl42_0 ?_
    (conv => whnf); refine ld1 (v := .int .i64 ((n + 1 + stM r1 + stM r2 : Nat) : Int)) ct3 (by rw [(st7.blk 0 rfl).cell]; rfl) trivial ?_
    (conv => whnf); rw [w64 (x := ((n + 1 + stM r1 + stM r2 : Nat) : Int) + 1) (by omega) (by omega), show ((n + 1 + stM r1 + stM r2 : Nat) : Int) + 1 = ((n + 1 + stM r1 + stM r2 + 1 : Nat) : Int) by omega]
    (conv => whnf); refine fa fl42_0 ?_
    (conv => whnf); refine st1B st7 0 ct3 rfl (show 0 < 4 by decide) rfl fun H8 st8 => ?_
    replace st8 : StB B H0 H8 (pB tDb bb (dbL (n + 1 + stM r1 + stM r2 + 1) (.slice a7 (es ++ (bldM r1 (n + 1)).2.2 ++ (bldM r2 (n + 1 + stM r1)).2.2).length c7)) :: pS tEdD 106 a7 (es ++ (bldM r1 (n + 1)).2.2 ++ (bldM r2 (n + 1 + stM r1)).2.2).length c7 (es ++ (bldM r1 (n + 1)).2.2 ++ (bldM r2 (n + 1 + stM r1)).2.2) :: pB 94 x (rnL d) :: pB 32 p (reL (.slice na ns.length nc) root) :: rest) := st8
    (conv => whnf); refine dsil_v st8 (by omega) (by omega) (by first | omega | (simp only [List.length_append, List.length_cons, List.length_nil]; omega)) fun a9 c9 H9 st9 => ?_
    (conv => whnf); refine dsil_v st9 (by omega) (by omega) (by first | omega | (simp only [List.length_append, List.length_cons, List.length_nil]; omega)) fun a10 c10 H10 st10 => ?_
    (conv => whnf); refine dsil_v st10 (by omega) (by omega) (by first | omega | (simp only [List.length_append, List.length_cons, List.length_nil]; omega)) fun a11 c11 H11 st11 => ?_
    (conv => whnf); refine dsil_v st11 (by omega) (by omega) (by first | omega | (simp only [List.length_append, List.length_cons, List.length_nil]; omega)) fun a12 c12 H12 st12 => ?_
    (conv => whnf)
    have e1 : es ++ (bldM r1 (n + 1)).2.2 ++ (bldM r2 (n + 1 + stM r1)).2.2 ++ [silE n (bldM r1 (n + 1)).1] ++ [silE n (bldM r2 (n + 1 + stM r1)).1] ++ [silE (bldM r1 (n + 1)).2.1 (n + 1 + stM r1 + stM r2)] ++ [silE (bldM r2 (n + 1 + stM r1)).2.1 (n + 1 + stM r1 + stM r2)] = es ++ (bldM (.alt r1 r2) n).2.2 := by simp [bldM]
    rw [e1, show n + 1 + stM r1 + stM r2 + 1 = n + stM (.alt r1 r2) by simp only [stM]; omega] at st12
    exact ⟨rfl, a12, c12, st12.pickN 4 [0, 1] (by decide)⟩
  | star r1 ih1 =>
    intro hpl H rest n i a c es v ht hv st hn hl2
    subst hv
    simp only [ReM.plain] at hpl
    simp only [stM] at hn hl2
    obtain ⟨d, j, hd, hop, hl1, hta⟩ := ht
    have hm1 := bldM_len r1 hpl (n + 1)
    have hi1 := bldM_in r1 hpl (n + 1)
    refine FnOk.of_vc Tryz.func47 rfl (Tryz.call47 _) ?_
    (conv => whnf); refine vbox (reL (.slice na ns.length nc) root) rfl ?_
    intro p H1 hp hs1 hb1 ha1
    have st1 := (st.box hp hs1 hb1 ha1).perm (List.perm_append_singleton _ _)
    (conv => whnf); refine fa fl32_0 ?_
    (conv => whnf); refine ld1 (v := .slice na ns.length nc) ct30 (by rw [(st1.blk 0 rfl).cell]; rfl) trivial ?_
    (conv => whnf); refine ixr (i := i) sl30 (h1.frame st1.old) hd rfl ?_
    rintro b2 o2 c2 hS2 hc2 ⟨rfl, hok⟩
    (conv => whnf); refine ldN (cs := rnL d) (by rw [rnL_len]; exact ag94) hc2 trivial ?_
    (conv => whnf); refine valloc _ rnZ rn_z rfl ?_
    intro x H3 hx hs3 hb3 ha3
    have st3 := (st1.box hx hs3 hb3 ha3).perm (List.perm_append_singleton _ _)
    (conv => whnf); refine stNB (cs := rnL d) st3 0 (by rw [rnL_len]; rfl) rfl (by rw [rnL_len, rnZ_len]; decide) (rn_ones d) fun H4 st4 => ?_
    rw [splice_all (show (rnL d).length = rnZ.length by rw [rnL_len, rnZ_len])] at st4
    replace st4 : StB B H0 H4 (pB tDb bb (dbL n (.slice a es.length c)) :: pS tEdD 106 a es.length c es :: pB 94 x (rnL d) :: pB 32 p (reL (.slice na ns.length nc) root) :: rest) := st4.pickN 4 [2, 3, 0, 1] (by decide)
    (conv => whnf); refine fa fl42_0 ?_
    (conv => whnf); refine ld1 (v := .int .i64 (n : Int)) ct3 (by rw [(st4.blk 0 rfl).cell]; rfl) trivial ?_
    (conv => whnf); refine fa fl94_0 ?_
    (conv => whnf); refine ld1 (v := .int .i64 d.op) ct3 (by rw [(st4.blk 2 rfl).cell]; exact rn_op d) trivial ?_
    (conv => whnf); rw [hop]
    (conv => whnf); refine fa fl42_0 ?_
    (conv => whnf); refine ld1 (v := .int .i64 ((n : Nat) : Int)) ct3 (by rw [(st4.blk 0 rfl).cell]; rfl) trivial ?_
    (conv => whnf); rw [w64 (x := ((n : Nat) : Int) + 1) (by omega) (by omega), show ((n : Nat) : Int) + 1 = ((n + 1 : Nat) : Int) by omega]
    (conv => whnf); refine fa fl42_0 ?_
    (conv => whnf); refine st1B st4 0 ct3 rfl (show 0 < 4 by decide) rfl fun H5 st5 => ?_
    replace st5 : StB B H0 H5 (pB tDb bb (dbL (n + 1) (.slice a es.length c)) :: pS tEdD 106 a es.length c es :: pB 94 x (rnL d) :: pB 32 p (reL (.slice na ns.length nc) root) :: rest) := st5
    (conv => whnf); refine ldN (cs := reL (.slice na ns.length nc) root) ag32 ((st5.blk 3 rfl).cells fun j v hv => by rw [Nat.zero_add]; exact hv) trivial ?_
    (conv => whnf); refine fa fl94_2 ?_
    (conv => whnf); refine ld1 (v := .int .i64 d.l) ct3 (by rw [(st5.blk 2 rfl).cell, Nat.zero_add]; exact rn_l d) trivial ?_
    (conv => whnf); rw [hl1]
    (conv => whnf); refine VCall.mk (ih1 hpl hta rfl st5 (by omega) (by first | omega | (simp only [List.length_append]; omega))) ?_
    rintro _ H6 ⟨rfl, a6, c6, st6⟩
    (conv => whnf); refine fa fl42_0 ?_
    (conv => whnf); refine ld1 (v := .int .i64 ((n + 1 + stM r1 : Nat) : Int)) ct3 (by rw [(st6.blk 0 rfl).cell]; rfl) trivial ?_
    (conv => whnf); refine fa fl42_0 ?_
    (conv => whnf); refine ld1 (v := .int .i64 ((n + 1 + stM r1 : Nat) : Int)) ct3 (by rw [(st6.blk 0 rfl).cell]; rfl) trivial ?_
    (conv => whnf); rw [w64 (x := ((n + 1 + stM r1 : Nat) : Int) + 1) (by omega) (by omega), show ((n + 1 + stM r1 : Nat) : Int) + 1 = ((n + 1 + stM r1 + 1 : Nat) : Int) by omega]
    (conv => whnf); refine fa fl42_0 ?_
    (conv => whnf); refine st1B st6 0 ct3 rfl (show 0 < 4 by decide) rfl fun H8 st8 => ?_
    replace st8 : StB B H0 H8 (pB tDb bb (dbL (n + 1 + stM r1 + 1) (.slice a6 (es ++ (bldM r1 (n + 1)).2.2).length c6)) :: pS tEdD 106 a6 (es ++ (bldM r1 (n + 1)).2.2).length c6 (es ++ (bldM r1 (n + 1)).2.2) :: pB 94 x (rnL d) :: pB 32 p (reL (.slice na ns.length nc) root) :: rest) := st8
    (conv => whnf); refine dsil_v st8 (by omega) (by omega) (by first | omega | (simp only [List.length_append, List.length_cons, List.length_nil]; omega)) fun a9 c9 H9 st9 => ?_
    (conv => whnf); refine dsil_v st9 (by omega) (by omega) (by first | omega | (simp only [List.length_append, List.length_cons, List.length_nil]; omega)) fun a10 c10 H10 st10 => ?_
    (conv => whnf); refine dsil_v st10 (by omega) (by omega) (by first | omega | (simp only [List.length_append, List.length_cons, List.length_nil]; omega)) fun a11 c11 H11 st11 => ?_
    (conv => whnf); refine dsil_v st11 (by omega) (by omega) (by first | omega | (simp only [List.length_append, List.length_cons, List.length_nil]; omega)) fun a12 c12 H12 st12 => ?_
    (conv => whnf)
    have e1 : es ++ (bldM r1 (n + 1)).2.2 ++ [silE n (bldM r1 (n + 1)).1] ++ [silE n (n + 1 + stM r1)] ++ [silE (bldM r1 (n + 1)).2.1 (bldM r1 (n + 1)).1] ++ [silE (bldM r1 (n + 1)).2.1 (n + 1 + stM r1)] = es ++ (bldM (.star r1) n).2.2 := by simp [bldM]
    rw [e1, show n + 1 + stM r1 + 1 = n + stM (.star r1) by simp only [stM]; omega] at st12
    exact ⟨rfl, a12, c12, st12.pickN 4 [0, 1] (by decide)⟩
  | and_ => intro h; cases h
  | minus => intro h; cases h
end Go.Proofs.YtlnmhfhdjnenoaaGreatDoor
/- The law's speaks of layer 4. -/
set_option linter.unusedVariables false
set_option linter.unusedSimpArgs false
set_option maxRecDepth 100000
namespace Go.Proofs.YtlnmhfhdjnenoaaGreatDoor
open Go.VC
def abNf : NfM := nfaOf (textR [97, 98])
theorem ab_edges : abNf.edges = [setE 0 1 (oneS 97), setE 2 3 (oneS 98), silE 1 2] := rfl
theorem ab_start : abNf.start = 0 := rfl
theorem ab_fin : abNf.fin = 3 := rfl
theorem ab_st : abNf.st = 4 := rfl
theorem ab_has {q : Int} (h0 : 0 ≤ q) (h1 : q < 4) : abNf.has q = true := NfM.has_iff.2 ⟨h0, by rw [ab_st]; exact h1, by rw [ab_st]; decide⟩
theorem ab_yes : accN abNf [97, 98] = true := by
  rw [acc_way, ab_start, ab_fin]
  refine Way.hop (a := abNf) (e := setE 0 1 (oneS 97)) (by rw [ab_edges]; simp) rfl (by decide +kernel) (ab_has (by decide) (by decide)) ?_
  refine Way.sil (a := abNf) (e := silE 1 2) (by rw [ab_edges]; simp) rfl (ab_has (by decide) (by decide)) ?_
  refine Way.hop (a := abNf) (e := setE 2 3 (oneS 98)) (by rw [ab_edges]; simp) rfl (by decide +kernel) (ab_has (by decide) (by decide)) ?_
  exact .nil (ab_has (by decide) (by decide))
theorem ab_no : accN abNf [97] = false := by
  rw [Bool.eq_false_iff]
  intro h
  rw [accN_iff, ab_fin] at h
  have h1 : ∀ q, begS abNf q → q = 0 := clS_least (fun q h => h.1) fun e he hs _ h => by
    rw [ab_edges] at he
    simp only [List.mem_cons, List.not_mem_nil, or_false] at he
    rcases he with rfl | rfl | rfl
    · cases hs
    · cases hs
    · exact absurd h (by decide)
  have h2 : ∀ q, goS abNf (begS abNf) 97 q → q = 1 ∨ q = 2 := clS_least (fun q ⟨e, he, hs, hb, hx, _, hq⟩ => by
    rw [ab_edges] at he
    simp only [List.mem_cons, List.not_mem_nil, or_false] at he
    rcases he with rfl | rfl | rfl
    · exact .inl hq
    · exact absurd (h1 _ hx) (by decide)
    · cases hs) fun e he hs _ h => by
    rw [ab_edges] at he
    simp only [List.mem_cons, List.not_mem_nil, or_false] at he
    rcases he with rfl | rfl | rfl
    · cases hs
    · cases hs
    · exact .inr rfl
  rcases h2 3 h with h | h <;> exact absurd h (by decide)
set_option maxHeartbeats 4000000 in
theorem speaks04_p (H : Heap) : Pure Tryz.prog 6 #[] H (.bool true) := by
  refine FnOk.of_vc Tryz.func6 rfl (Tryz.call6 _) ?_
  (conv => whnf); refine pures (text_p ⟨#[97, 98]⟩ (by decide) H) fun H1 ha1 => ?_
  have st1 := (St.nil H).call ha1
  (conv => whnf); refine VCall.mk (build_c (textR (byN ⟨#[97, 98]⟩)) (textR_plain _) (by decide) H1) ?_
  rintro v H2 ⟨ha2, hv⟩
  rw [if_neg (show ¬ 2000 < (textR (byN ⟨#[97, 98]⟩)).nodes by decide)] at hv
  obtain ⟨ea, ec, rfl, hown⟩ := hv
  change SlO tEd none_ H2 H1.size 104 (.slice ea abNf.edges.length ec) abNf.edges at hown
  obtain ⟨ea', ec', e2, st2⟩ := st1.got ha2 hown
  injection e2 with e21 e22 e23
  subst e21; subst e23
  (conv => whnf); refine valloc _ [.int .i64 0, .int .i64 0, .int .i64 0, .slice none 0 0] nfa_z rfl ?_
  intro p H3 hp hs3 hb3 ha3
  have st3 := st2.box hp hs3 hb3 ha3
  (conv => whnf); refine stNB (cs := nfL abNf (.slice ea abNf.edges.length ec)) st3 1 rfl rfl (Nat.le_refl _) rfl fun H4 st4 => ?_
  rw [splice_all (show (nfL abNf (.slice ea abNf.edges.length ec)).length = 4 from rfl)] at st4
  have hb := st4.blk 1 rfl
  (conv => whnf); refine fa fl37_0 ?_
  (conv => whnf); refine ld1 (v := .int .i64 4) ct3 (by rw [hb.cell]; rfl) trivial ?_
  (conv => whnf); refine fa fl37_2 ?_
  (conv => whnf); refine ld1 (v := .int .i64 3) ct3 (by rw [hb.cell]; rfl) trivial ?_
  have hr : abNf.Rng := ⟨kint (by rw [ab_st]; decide), kint (by rw [ab_start]; decide), kint (by rw [ab_fin]; decide)⟩
  have hl : abNf.edges.length ≤ 1048576 := by rw [ab_edges]; decide
  (conv => whnf); refine nf_load hr hl hb ag37 trivial (st4.view 0 rfl) fun v5 hv5 => ?_
  (conv => whnf); refine pures (accepts_n (s := ⟨#[97, 98]⟩) (fun k hk => hk) hv5 (by decide)) fun H5 ha5 => ?_
  have st5 := st4.call ha5
  rw [show accN abNf (byN ⟨#[97, 98]⟩) = true from ab_yes]
  (conv => whnf); refine nf_load hr hl (st5.blk 1 rfl) ag37 trivial (st5.view 0 rfl) fun v6 hv6 => ?_
  (conv => whnf); refine pures (accepts_n (s := ⟨#[97]⟩) (fun k hk => hk) hv6 (by decide)) fun H6 ha6 => ?_
  have st6 := st5.call ha6
  rw [show accN abNf (byN ⟨#[97]⟩) = false from ab_no]
  (conv => whnf)
  exact ⟨rfl, st6.old⟩
end Go.Proofs.YtlnmhfhdjnenoaaGreatDoor
