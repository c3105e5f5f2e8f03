/- slices.Sorted of maps.Keys of a map whose keys are texts: the walk. -/
import Derived.Test.YtfdlhakfmbdamaaDoorPSortS
import Derived.Test.YtfdlhakfmbdamaaDoorVPush
import Derived.Test.YtfdlhakfmbdamaaDoorVMapI
import Derived.Test.YtfdlhakfmbdamaaDoorVFacts
import Derived.Test.YtfdlhakfmbdamaaDoorPFs3
set_option linter.unusedVariables false
set_option linter.unusedSimpArgs false
set_option maxRecDepth 100000
namespace Go.VC
theorem VRound.mk2 {P : Program} {l : Nat} {args : Array Value} {H : Heap} {K : Value → Heap → Prop} (fn : FuncId) (tmps : Array Value) (ps : Array Tmp) (assign body : Code) (D : Nat) (rec : LoopState → Option Code → Loop)
    (hrec : rec = fun st pe => { state := st, pending := pe, fn := fn, tmps := tmps, params := ps, assign := assign, body := body, defers := D }) (hr : H[l]? = some (.loop (rec .ready none))) (hs : args.size = ps.size)
    (h : normK (wrs tmps.toList ps.toList args.toList) fun fr => vcI P (some l) assign fr [] H (fun fr1 ds1 H1 => ds1 = [] ∧ H1[l]? = some (.loop (rec .ready none)) ∧
      vcI P (some l) body fr1 [] (H1.setIfInBounds l (.loop (rec .busy none))) (fun _ _ H2 => H2[l]? = some (.loop (rec .busy none)) ∧ K (.bool true) (H2.setIfInBounds l (.loop (rec .ready none)))) []
        (fun _ _ H2 => H2[l]? = some (.loop (rec .busy none)) ∧ K (.bool false) (H2.setIfInBounds l (.loop (rec .done (some .ret)))))) [] (fun _ _ _ => False)) : VRound P l args H K := by
  subst hrec
  exact VRound.mk _ hr rfl hs h
theorem VRound_mono {P : Program} {l : Nat} {args : Array Value} {H : Heap} {K K' : Value → Heap → Prop} (h : VRound P l args H K) (k : ∀ v H', K v H' → K' v H') : VRound P l args H K' :=
  ⟨fun w hw => by
    obtain ⟨f, t, a, b, h1, h2⟩ := h.out w hw
    exact ⟨f, t, a, b, h1, h2.mono fun e w' ⟨v, h3, h4, h5⟩ => ⟨v, h3, h4, k _ _ h5⟩⟩⟩
/-- The record of a loop over a function. -/
def pLp (L : Nat) (r : Loop) : Pc := ⟨fun k => k = L, fun H => H[L]? = some (.loop r), fun h hp => (h L rfl).trans hp⟩
/-- Marks: blocks for deferred calls, none of which holds any. -/
def pDs (ds : List Nat) : Pc := ⟨fun k => k ∈ ds, fun H => ∀ D ∈ ds, H[D]? = some (.deferred (some [])), fun h hp D hD => (h D hD).trans (hp D hD)⟩
section
variable {B : Nat → Prop} {H0 H : Heap} {ps rest : List Pc}
theorem StB.lpSet {L : Nat} {r : Loop} (st : StB B H0 H ps) (i : Nat) (hp : ps[i]? = some (pLp L r)) (r' : Loop) : StB B H0 (H.setIfInBounds L (.loop r')) (ps.set i (pLp L r')) := by
  have hl : H[L]? = some (.loop r) := st.at_ i hp
  have hlt := (Array.getElem?_eq_some_iff.1 hl).1
  refine st.upd i hp (fun k hk => ?_) _ ?_ (fun k hk => .inl hk) (fun k hk => ?_) (by simp)
  · have : k ≠ L := fun e => hk.2 e
    rw [Array.getElem?_setIfInBounds_ne (Ne.symm this)]
  · show (H.setIfInBounds L _)[L]? = _
    rw [Array.getElem?_setIfInBounds_self_of_lt hlt]
  · have : k = L := hk
    subst this
    simpa using hlt
theorem StB.push (st : StB B H0 H ps) (o : Obj) (p : Pc) (hf : ∀ k, p.foot k → k = H.size) (hok : p.ok (H.push o)) : StB B H0 (H.push o) (ps ++ [p]) :=
  st.add (heap_push_old H o) p hok fun k hk => by have := hf k hk; subst this; simp
theorem StB.pushMark (st : StB B H0 H ps) : StB B H0 (H.push (.deferred (some []))) (ps ++ [pDs [H.size]]) :=
  st.push _ _ (fun k hk => by simpa [pDs] using hk) (fun D hD => by rw [List.mem_singleton] at hD; subst hD; simp)
theorem StB.pushLoop (st : StB B H0 H ps) (r : Loop) : StB B H0 (H.push (.loop r)) (ps ++ [pLp H.size r]) :=
  st.push _ _ (fun k hk => hk) (by show (H.push _)[H.size]? = _; simp)
theorem StB.dsOff {ds : List Nat} {H' : Heap} (st : StB B H0 H (pDs ds :: rest)) (ha : Agr (fun k => k ∉ ds) H H') (hs : H'.size = H.size) : StB B H0 H' rest := by
  have := st.upd 0 (p := pDs ds) rfl (ha.mono fun k hk => hk.2) ⟨fun _ => False, fun _ => True, fun _ _ => trivial⟩ trivial (fun k hk => hk.elim) (fun k hk => hk.elim) (by omega)
  exact this.sub (List.sublist_cons_self _ _)
/-- Some of the first n pieces, in another order, and the others. -/
theorem StB.pickN (st : StB B H0 H ps) (n : Nat) (is : List Nat) (hn : is.Nodup) : StB B H0 H ((is.filterMap fun i => (ps.take n)[i]?) ++ ps.drop n) := by
  have e := List.take_append_drop n ps
  rw [← e] at st
  generalize ps.take n = qs at *
  generalize ps.drop n = rs at *
  obtain ⟨d1, d2, d3⟩ := List.pairwise_append.1 st.dis
  have st1 : StB B H0 H qs := st.sub (List.sublist_append_left _ _)
  have st2 := st1.pick is hn
  have hm : ∀ q, q ∈ is.filterMap (fun i => qs[i]?) → q ∈ qs := fun q hq => by
    obtain ⟨i, -, hi⟩ := List.mem_filterMap.1 hq
    exact List.mem_of_getElem? hi
  refine ⟨st.old, st.lt0, st.size, fun q hq => ?_, fun q hq k hk => ?_, List.pairwise_append.2 ⟨st2.dis, d2, fun q hq r hr => d3 q (hm q hq) r hr⟩⟩
  · rcases List.mem_append.1 hq with hq | hq
    · exact st2.oks q hq
    · exact st.oks q (List.mem_append.2 (.inr hq))
  · rcases List.mem_append.1 hq with hq | hq
    · exact st2.rng q hq k hk
    · exact st.rng q (List.mem_append.2 (.inr hq)) k hk
end
end Go.VC
namespace Go.Proofs.YtfdlhakfmbdamaaDoor
open Go.VC
theorem keyTW : KeyW Tryd.prog 9 (anyK (α := ByteArray)) Value.string := KeyW.ofE Tryd.underlying9 keyS
theorem mapTT : MapTW Tryd.prog 76 9 78 (.agg #[.string ⟨#[]⟩]) := ⟨rfl, rfl⟩
abbrev Dom (mm : ByteArray → Option Value) : ByteArray → Prop := fun q => (mm q).isSome = true
abbrev tIk : Ty ByteArray := tStr
/-- What a call of yield does: the int is put to the others. -/
def YOValue.string (l : Nat) (ok : ByteArray → Prop) (Q : List ByteArray → Pc → Prop) : Prop :=
  ∀ {B : Nat → Prop} {H0 H : Heap} {ps : List Pc} (st : StB B H0 H ps) (i : Nat) (p : Pc) (pre : List ByteArray) (x : ByteArray), ps[i]? = some p → Q pre p → pre.length < 65536 → ok x →
    VRound Tryd.prog l #[.string x] H fun v H' => v = .bool true ∧ ∃ p', Q (pre ++ [x]) p' ∧ StB B H0 H' (ps.set i p')
theorem nodupT_len {l : List ByteArray} : ∀ (ks : List ByteArray), ks.Nodup → (∀ x ∈ ks, x ∈ l) → ks.length ≤ l.length := fun ks hd h => by
  induction ks generalizing l with
  | nil => exact Nat.zero_le _
  | cons x ks ih =>
    rw [List.nodup_cons] at hd
    have hx : x ∈ l := h x List.mem_cons_self
    obtain ⟨l1, l2, rfl⟩ := List.append_of_mem hx
    have h2 := ih (l := l1 ++ l2) hd.2 fun y hy => by
      have hne : y ≠ x := fun e => hd.1 (e ▸ hy)
      rcases List.mem_append.1 (h y (List.mem_cons_of_mem _ hy)) with h3 | h3
      · exact List.mem_append_left _ h3
      · rcases List.mem_cons.1 h3 with h3 | h3
        · exact absurd h3 hne
        · exact List.mem_append_right _ h3
    simp only [List.length_append, List.length_cons] at h2 ⊢
    omega
set_option maxHeartbeats 4000000 in
theorem keys1_c {B : Nat → Prop} {H0 H : Heap} {l nb bx : Nat} {Q : List ByteArray → Pc → Prop} {mm : ByteArray → Option Value} {rest : List Pc} {p : Pc} {lk : List ByteArray} (hlk : lk.length ≤ 65536) (hr : ∀ q, Dom mm q → q.size ≤ maxLen ∧ q ∈ lk) (hy : YOValue.string l (fun x => x.size ≤ maxLen ∧ x ∈ lk) Q)
    (st : StB B H0 H (p :: pMW anyK Value.string nb mm :: pB 76 bx [.map (some nb)] :: rest)) (hQ : Q [] p) :
    FnOk Tryd.prog 34 #[.func (.yield l) #[] #[], .pointer (some ⟨bx, 0, none⟩)] H fun _ H' => ∃ ks p', Q ks p' ∧ ks.Nodup ∧ (∀ q, q ∈ ks ↔ Dom mm q) ∧ StB B H0 H' (p' :: pMW anyK Value.string nb mm :: pB 76 bx [.map (some nb)] :: rest) := by
  refine FnOk.of_vcI Tryd.func34 rfl (Tryd.call34 _) ?_
  (conv => whnf); refine ld1 (v := .map (some nb)) ct76 (by rw [(st.blk 2 rfl).cell]; rfl) trivial ?_
  (conv => whnf); refine mrangeP st 1 mapTT rfl fun r n H1 st1 => ?_
  (conv => whnf)
  refine VLoopD.mk [] (fun _ : List ByteArray × Nat => []) (fun x ds H2 => ds = [] ∧ x.1.Nodup ∧ (∀ q ∈ x.1, Dom mm q) ∧ ∃ D last p', (∀ q, D q ↔ q ∈ x.1) ∧ Q x.1 p' ∧ StB B H0 H2 (p' :: pIW anyK Value.string nb r mm D last x.2 :: pB 76 bx [.map (some nb)] :: rest)) (fun x _ => x.2) ?_ ?_
  · (conv => whnf)
    exact ⟨([], n), rfl, rfl, List.Pairwise.nil, (fun q h => by cases h), _, none, p, fun q => ⟨fun h => h.elim, fun h => by cases h⟩, hQ, st1⟩
  · rintro ⟨ks, n2⟩ ds H2 junk ⟨rfl, hnd, hin, D, last, p', hD, hQ2, st2⟩
    simp only at hnd hin hD hQ2 st2
    have hlen := nodupT_len (l := lk) ks hnd fun x hx => (hr x (hin x hx)).2
    (conv => whnf); refine mnextP st2 1 keyTW.inj rfl (fun hall => ?_) fun q v H3 n3 hq hnD hlt st3 => ?_
    · (conv => whnf); refine VRet.nil ?_
      (conv => whnf)
      exact ⟨ks, p', hQ2, hnd, fun q => ⟨hin q, fun h => (hD q).1 (hall q h)⟩, st2.iterEnd 1 rfl⟩
    · have hdq : Dom mm q := by unfold Dom; rw [hq]; rfl
      have hqk : q ∉ ks := fun h => hnD ((hD q).2 h)
      have hlt2 : ks.length < 65536 := by
        have := nodupT_len (l := lk) (ks ++ [q]) (List.nodup_append.2 ⟨hnd, by simp, fun x hx y hy e => by rw [List.mem_singleton] at hy; subst hy; subst e; exact hqk hx⟩) fun x hx => by
          rcases List.mem_append.1 hx with h | h
          · exact (hr x (hin x h)).2
          · rw [List.mem_singleton] at h; subst h; exact (hr x hdq).2
        simp at this
        omega
      (conv => whnf); refine mhere (st3.iterW 1 rfl) keyTW.inj hq ?_
      (conv => whnf); refine VRound_mono (hy st3 0 p' ks q rfl hQ2 hlt2 (hr q hdq)) fun v' H4 h4 => ?_
      obtain ⟨rfl, p2, hQ4, st4⟩ := h4
      (conv => whnf)
      refine ⟨rfl, (ks ++ [q], n3), rfl, ⟨rfl, List.nodup_append.2 ⟨hnd, by simp, fun x hx y hy e => by rw [List.mem_singleton] at hy; subst hy; subst e; exact hqk hx⟩, fun x hx => ?_, _, _, p2, fun x => ?_, hQ4, st4⟩, hlt⟩
      · rcases List.mem_append.1 hx with h | h
        · exact hin x h
        · rw [List.mem_singleton] at h; subst h; exact hdq
      · simp only [List.mem_append, List.mem_singleton, hD]
/-- What the loop's body holds. -/
def SQ (L : Nat) (rec : LoopState → Option Code → Loop) (b : Nat) (pre : List ByteArray) (p : Pc) : Prop :=
  ∃ a cap, p = pAll [pLp L (rec .ready none), pB 71 b [.slice a pre.length cap], pS tIk 9 a pre.length cap pre]
set_option maxHeartbeats 4000000 in
theorem appendSeq_c {B : Nat → Prop} {H0 H : Heap} {nb bx : Nat} {mm : ByteArray → Option Value} {rest : List Pc} {lk : List ByteArray} (hlk : lk.length ≤ 65536) (hr : ∀ q, Dom mm q → q.size ≤ maxLen ∧ q ∈ lk)
    (st : StB B H0 H (pMW anyK Value.string nb mm :: pB 76 bx [.map (some nb)] :: rest)) :
    FnOk Tryd.prog 39 #[.slice none 0 0, .func (.func 34) #[] #[.pointer (some ⟨bx, 0, none⟩)]] H fun r H' => ∃ ks a cap, r = .slice a ks.length cap ∧ ks.Nodup ∧ (∀ q, q ∈ ks ↔ Dom mm q) ∧ StB B H0 H' (pS tIk 9 a ks.length cap ks :: pMW anyK Value.string nb mm :: pB 76 bx [.map (some nb)] :: rest) := by
  refine FnOk.of_vcI Tryd.func39 rfl (Tryd.call39 _) ?_
  (conv => whnf); refine vbox [.slice none 0 0] rfl ?_
  intro b2 H1 hb2 hs1 hk1 ha1
  have st1 : StB B H0 H1 (pB 71 b2 [.slice none 0 0] :: pMW anyK Value.string nb mm :: pB 76 bx [.map (some nb)] :: rest) := (st.box hb2 hs1 hk1 ha1).perm (List.perm_append_singleton _ _)
  have st2 : StB B H0 H1 (pS tIk 9 none 0 0 [] :: pB 71 b2 [.slice none 0 0] :: pMW anyK Value.string nb mm :: pB 76 bx [.map (some nb)] :: rest) := (st1.nils tIk 9).perm (List.perm_append_singleton _ _)
  (conv => whnf); refine VRF.mk 34 #[.pointer (some ⟨bx, 0, none⟩)] rfl ?_
  rintro rec ⟨fn, hrec⟩
  have st3 := st2.pushMark.perm (List.perm_append_singleton _ _)
  have st4 := (st3.pushLoop (rec .ready none)).perm (List.perm_append_singleton _ _)
  rw [Array.size_push] at st4
  have st5 : StB B H0 _ ([pLp (H1.size + 1) (rec .ready none), pB 71 b2 [.slice none 0 0], pS tIk 9 none 0 0 []] ++ (pMW anyK Value.string nb mm :: pB 76 bx [.map (some nb)] :: pDs [H1.size] :: rest)) := st4.pickN 6 [0, 3, 2, 4, 5, 1] (by decide)
  have st6 := st5.bundle
  have hy : YOValue.string (H1.size + 1) (fun x => x.size ≤ maxLen ∧ x ∈ lk) (SQ (H1.size + 1) rec b2) := by
    intro B' H0' H'' ps st i p pre x hp hQ hle hx
    obtain ⟨a', cap', rfl⟩ := hQ
    have so := st.open_ i hp
    refine VRound.mk2 _ _ _ _ _ _ rec hrec (so.at_ 0 rfl) rfl ?_
    (conv => whnf)
    refine ⟨rfl, so.at_ 0 rfl, ?_⟩
    have so1 := so.lpSet 0 rfl (rec .busy none)
    (conv => whnf); refine ld1 (v := .slice a' pre.length cap') ct71 (by rw [(so1.blk 1 rfl).cell]; rfl) trivial ?_
    (conv => whnf); refine vbuild1 sl71 [.string x] rfl rfl (by decide) (by decide) ?_
    intro q21 H21 hq21 hs21 hb21 ha21
    (conv => whnf); refine app1 (x := x) (so1.skip hq21 ha21) 2 sl71 rfl hb21 ⟨rfl, hx.1⟩ rfl (by omega) (by decide) fun a'' c'' H22 so2 _ => ?_
    (conv => whnf); refine st1B so2 1 ct71 rfl (by simp) rfl fun H23 so3 => ?_
    (conv => whnf)
    have so4 := so3.lpSet 0 rfl (rec .ready none)
    have el : pre.length + 1 = (pre ++ [x]).length := by simp
    refine ⟨so3.at_ 0 rfl, rfl, _, ⟨a'', c'', rfl⟩, ?_⟩
    rw [el] at so4
    exact st.close i hp so4
  refine (keys1_c hlk (Q := SQ (H1.size + 1) rec b2) hr hy st6 ⟨none, 0, rfl⟩).mono fun _ H8 hE => ?_
  obtain ⟨ks, p1, ⟨a1, c1, rfl⟩, hnd, hin, st7⟩ := hE
  have st8 := st7.unbundle
  refine ⟨.ready, none, by decide, st8.at_ 0 rfl, .inl ⟨rfl, ?_⟩⟩
  have st9 := st8.lpSet 0 rfl (rec .exhausted none)
  have st10 : StB B H0 _ (pDs [H1.size] :: pS tIk 9 a1 ks.length c1 ks :: pMW anyK Value.string nb mm :: pB 76 bx [.map (some nb)] :: pB 71 b2 [.slice a1 ks.length c1] :: rest) := st9.pickN 6 [5, 2, 3, 4, 1] (by decide)
  (conv => whnf); refine ld1 (v := .slice a1 ks.length c1) ct71 (by rw [(st10.blk 4 rfl).cell]; rfl) trivial ?_
  (conv => whnf)
  refine VRet.in_ (by simp) (st10.at_ 0 rfl) fun H'' ha hs => ?_
  have st11 := st10.dsOff ha hs
  (conv => whnf)
  exact ⟨ks, a1, c1, rfl, hnd, hin, st11.pickN 4 [0, 1, 2] (by decide)⟩
theorem txL_inj {x y : ByteArray} (h : txL x = txL y) : x = y := by
  cases x with | mk a => cases y with | mk b => exact congrArg ByteArray.mk (Array.toList_inj.1 h)
theorem leT_lt {x y : ByteArray} (h : leT x y = true) (hne : x ≠ y) : ltT x y = true := by
  cases hl : ltT x y with
  | true => rfl
  | false =>
    have h1 := of_decide_eq_true h
    have h2 := ltT_total hl hne
    have h3 : y.data.toList < x.data.toList := of_decide_eq_true h2
    exact absurd h3 (by exact List.not_lt.2 h1)
theorem leT_trans (a b c : ByteArray) (h1 : leT a b = true) (h2 : leT b c = true) : leT a c = true := decide_eq_true (List.le_trans (of_decide_eq_true h1) (of_decide_eq_true h2))
theorem leT_total (a b : ByteArray) : (leT a b || leT b a) = true := by
  rw [Bool.or_eq_true]
  rcases List.le_total (txL a) (txL b) with h | h
  · exact .inl (decide_eq_true h)
  · exact .inr (decide_eq_true h)
theorem sorted_srt {ks : List ByteArray} (h : ks.Nodup) : (ks.mergeSort leT).Pairwise (fun x y => ltT x y = true) := by
  have h1 : (ks.mergeSort leT).Pairwise (fun x y => leT x y = true) := List.pairwise_mergeSort leT_trans leT_total _
  have h2 : (ks.mergeSort leT).Nodup := (List.mergeSort_perm _ _).nodup_iff.2 h
  exact (h1.and h2).imp fun ⟨h3, h4⟩ => leT_lt h3 h4
set_option maxHeartbeats 4000000 in
/-- The keys in order, as a list of the call's own. -/
theorem sortedKeys_c {B : Nat → Prop} {H0 H : Heap} {nb bx : Nat} {mm : ByteArray → Option Value} {rest : List Pc} {lk : List ByteArray} (hlk : lk.length ≤ 65536) (hr : ∀ q, Dom mm q → q.size ≤ maxLen ∧ q ∈ lk)
    (st : StB B H0 H (pMW anyK Value.string nb mm :: pB 76 bx [.map (some nb)] :: rest)) :
    FnOk Tryd.prog 20 #[.func (.func 34) #[] #[.pointer (some ⟨bx, 0, none⟩)]] H fun r H' => ∃ ks a cap, r = .slice a ks.length cap ∧ ks.Pairwise (fun x y => ltT x y = true) ∧ (∀ q, q ∈ ks ↔ Dom mm q) ∧ StB B H0 H' (pS tIk 9 a ks.length cap ks :: pMW anyK Value.string nb mm :: pB 76 bx [.map (some nb)] :: rest) := by
  refine FnOk.of_vc Tryd.func20 rfl (Tryd.call20 _) ?_
  (conv => whnf); refine VCall.mk (R := fun r H' => ∃ ks a cap, r = .slice a ks.length cap ∧ ks.Nodup ∧ (∀ q, q ∈ ks ↔ Dom mm q) ∧ StB B H0 H' (pS tIk 9 a ks.length cap ks :: pMW anyK Value.string nb mm :: pB 76 bx [.map (some nb)] :: rest)) ?_ ?_
  · refine FnOk.of_vc Tryd.func32 rfl (Tryd.call32 _) ?_
    (conv => whnf); refine VCall.mk (appendSeq_c hlk hr st) ?_
    rintro _ H1 ⟨ks, a, cap, rfl, h1, h2, h3⟩
    (conv => whnf)
    exact ⟨ks, a, cap, rfl, h1, h2, h3⟩
  · rintro _ H1 ⟨ks, a, cap, rfl, hnd, hin, st1⟩
    have hlen := nodupT_len (l := lk) ks hnd fun x hx => (hr x ((hin x).1 hx)).2
    (conv => whnf); refine sortS sortsS_ st1 0 rfl (by omega) fun H2 st2 => ?_
    (conv => whnf)
    have el : (ks.mergeSort leT).length = ks.length := List.length_mergeSort _
    refine ⟨ks.mergeSort leT, a, cap, by rw [el], sorted_srt hnd, fun q => by rw [List.mem_mergeSort]; exact hin q, ?_⟩
    rw [el]
    exact st2
end Go.Proofs.YtfdlhakfmbdamaaDoor
