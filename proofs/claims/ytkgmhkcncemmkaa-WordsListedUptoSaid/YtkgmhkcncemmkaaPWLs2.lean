/- (*tally).members and its function: the walks; the records and marks of ranges over functions, as pieces. -/
import Derived.Test.YtkgmhkcncemmkaaPWLs1
set_option linter.unusedVariables false
set_option linter.unusedSimpArgs false
set_option maxRecDepth 100000
namespace Go.VC
theorem VRound.mk2 {P : Program} {l : Nat} {args : Array Value} {H : Heap} {K : Value → Heap → Prop} (fn : FuncId) (tmps : Array Value) (ps : Array Tmp) (assign body : Code) (D : Nat) (rec : LoopState → Option Code → Loop)
    (hrec : rec = fun st pe => { state := st, pending := pe, fn := fn, tmps := tmps, params := ps, assign := assign, body := body, defers := D }) (hr : H[l]? = some (.loop (rec .ready none))) (hs : args.size = ps.size)
    (h : normK (wrs tmps.toList ps.toList args.toList) fun fr => vcI P (some l) assign fr [] H (fun fr1 ds1 H1 => ds1 = [] ∧ H1[l]? = some (.loop (rec .ready none)) ∧
      vcI P (some l) body fr1 [] (H1.setIfInBounds l (.loop (rec .busy none))) (fun _ _ H2 => H2[l]? = some (.loop (rec .busy none)) ∧ K (.bool true) (H2.setIfInBounds l (.loop (rec .ready none)))) []
        (fun _ _ H2 => H2[l]? = some (.loop (rec .busy none)) ∧ K (.bool false) (H2.setIfInBounds l (.loop (rec .done (some .ret)))))) [] (fun _ _ _ => False)) : VRound P l args H K := by
  subst hrec
  exact VRound.mk _ hr rfl hs h
/-- The record of a loop over a function. -/
def pLp (L : Nat) (r : Loop) : Pc := ⟨fun k => k = L, fun H => H[L]? = some (.loop r), fun h hp => (h L rfl).trans hp⟩
/-- Marks: blocks for deferred calls, none of which holds any. -/
def pDs (ds : List Nat) : Pc := ⟨fun k => k ∈ ds, fun H => ∀ D ∈ ds, H[D]? = some (.deferred (some [])), fun h hp D hD => (h D hD).trans (hp D hD)⟩
section
variable {B : Nat → Prop} {H0 H : Heap} {ps rest : List Pc}
theorem StB.lpSet {L : Nat} {r : Loop} (st : StB B H0 H ps) (i : Nat) (hp : ps[i]? = some (pLp L r)) (r' : Loop) : StB B H0 (H.setIfInBounds L (.loop r')) (ps.set i (pLp L r')) := by
  have hl : H[L]? = some (.loop r) := st.at_ i hp
  have hlt := (Array.getElem?_eq_some_iff.1 hl).1
  refine st.upd i hp (fun k hk => ?_) _ ?_ (fun k hk => .inl hk) (fun k hk => ?_) (by simp)
  · have : k ≠ L := fun e => hk.2 e
    rw [Array.getElem?_setIfInBounds_ne (Ne.symm this)]
  · show (H.setIfInBounds L _)[L]? = _
    rw [Array.getElem?_setIfInBounds_self_of_lt hlt]
  · have : k = L := hk
    subst this
    simpa using hlt
theorem StB.push (st : StB B H0 H ps) (o : Obj) (p : Pc) (hf : ∀ k, p.foot k → k = H.size) (hok : p.ok (H.push o)) : StB B H0 (H.push o) (ps ++ [p]) :=
  st.add (heap_push_old H o) p hok fun k hk => by have := hf k hk; subst this; simp
theorem StB.pushMark (st : StB B H0 H ps) : StB B H0 (H.push (.deferred (some []))) (ps ++ [pDs [H.size]]) :=
  st.push _ _ (fun k hk => by simpa [pDs] using hk) (fun D hD => by rw [List.mem_singleton] at hD; subst hD; simp)
theorem StB.pushLoop (st : StB B H0 H ps) (r : Loop) : StB B H0 (H.push (.loop r)) (ps ++ [pLp H.size r]) :=
  st.push _ _ (fun k hk => hk) (by show (H.push _)[H.size]? = _; simp)
theorem StB.dsJoin {D : Nat} {ds : List Nat} (st : StB B H0 H (pDs [D] :: pDs ds :: rest)) : StB B H0 H (pDs (D :: ds) :: rest) ∧ D ∉ ds := by
  obtain ⟨d1, d2⟩ := List.pairwise_cons.1 st.dis
  obtain ⟨d3, d4⟩ := List.pairwise_cons.1 d2
  have o1 := st.oks (pDs [D]) (by simp)
  have o2 := st.oks (pDs ds) (by simp)
  refine ⟨⟨st.old, st.lt0, st.size, fun p hp => ?_, fun p hp k hk => ?_, List.pairwise_cons.2 ⟨fun r hr k hk hk' => ?_, d4⟩⟩, fun h => d1 (pDs ds) (by simp) D (List.mem_singleton.2 rfl) h⟩
  · rcases List.mem_cons.1 hp with rfl | hp
    · intro E hE
      rcases List.mem_cons.1 hE with rfl | hE
      · exact o1 _ (by simp)
      · exact o2 E hE
    · exact st.oks p (by simp [hp])
  · rcases List.mem_cons.1 hp with rfl | hp
    · rcases List.mem_cons.1 hk with rfl | hk
      · exact st.rng (pDs [k]) (by simp) k (List.mem_singleton.2 rfl)
      · exact st.rng (pDs ds) (by simp) k hk
    · exact st.rng p (by simp [hp]) k hk
  · rcases List.mem_cons.1 hk with rfl | hk
    · exact d1 r (by simp [hr]) k (List.mem_singleton.2 rfl) hk'
    · exact d3 r hr k hk hk'
/-- The marks are taken. -/
theorem StB.dsOff {ds : List Nat} {H' : Heap} (st : StB B H0 H (pDs ds :: rest)) (ha : Agr (fun k => k ∉ ds) H H') (hs : H'.size = H.size) : StB B H0 H' rest := by
  have := st.upd 0 (p := pDs ds) rfl (ha.mono fun k hk => hk.2) ⟨fun _ => False, fun _ => True, fun _ _ => trivial⟩ trivial (fun k hk => hk.elim) (fun k hk => hk.elim) (by omega)
  exact this.sub (List.sublist_cons_self _ _)
theorem StB.push_ds (st : StB B H0 H ps) : StB B H0 H (ps ++ [pDs []]) :=
  st.add (Agr.refl _ _) _ (fun D hD => by cases hD) (fun k hk => by cases hk)
theorem StB.nilAt2 {α : Type} (T : Ty α) (e : TypeId) {p1 p2 : Pc} (st : StB B H0 H (p1 :: p2 :: rest)) : StB B H0 H (p1 :: p2 :: pS T e none 0 0 [] :: rest) :=
  (st.nils T e).perm (((List.perm_append_singleton (pS T e none 0 0 []) rest).cons p2).cons p1)
end
end Go.VC
namespace Go.Proofs.Ytkgmhkcncemmkaa
open Go.VC
attribute [local irreducible] mRun gRun atRun
theorem mem1_c {S B : Nat → Prop} {H0 : Heap} {va : Value} {o : Option AM} {ls : List Nat} {l N pb : Nat} {Q Qx : List (List Nat) → Pc → Prop} (hS : ∀ k, S k → B k) (hv : AutoV S H0 va o) (hc : CellsOk o ls) (hy : YOk l N Q Qx)
    {n : Nat} (hn : n ≤ 64) {H : Heap} {rest : List Pc} {F : Nat → Prop} {L b1 b2 : Nat} {p : Pc} {pre : List (List Nat)}
    (st : StB B H0 H (pTal F va o pb L :: p :: pB 81 b1 [.pointer (some ⟨pb, 0, none⟩)] :: pB 3 b2 [.int .i64 (n : Int)] :: rest)) (hL1 : 1 ≤ L) (hL2 : L ≤ 65) (hQ : Q pre p) (hpre : pre.length ≤ N) :
    FnOk Try.prog 81 #[.func (.yield l) #[] #[], .pointer (some ⟨b1, 0, none⟩), .pointer (some ⟨b2, 0, none⟩)] H fun _ H' => ∃ v', WEnd va o pb N Q Qx B H0 rest (pre ++ memL o n 0) v' H' := by
  have hsn := (stN_le hv).1
  refine FnOk.of_vc Try.func81 rfl (Try.call81 _) ?_
  (conv => whnf); refine ld1 (v := .pointer (some ⟨pb, 0, none⟩)) ct81 (by rw [(st.blk 2 rfl).cell]; rfl) trivial ?_
  (conv => whnf); refine ld1 (v := .int .i64 (n : Int)) ct3 (by rw [(st.blk 3 rfl).cell]; rfl) trivial ?_
  (conv => whnf); refine VCall.mk (walk_c (us := []) (q := 0) hS hv hc hy n hn (st.nilAt2 tB8 5) hL1 hL2 (by omega) hQ hpre (by simpa using hn)) ?_
  rintro v H1 ⟨F1, L1, p1, h1, h2, st1, hcase⟩
  (conv => whnf)
  have e : (memL o n ((0 : Nat) : Int)).map (([] : List Nat) ++ ·) = memL o n 0 := by simp
  rw [e] at hcase
  exact ⟨v, F1, L1, p1, h1, h2, st1.sub (List.Sublist.cons_cons _ (List.Sublist.cons_cons _ (((List.sublist_cons_self _ _).trans (List.sublist_cons_self _ _)).trans (List.sublist_cons_self _ _)))), hcase⟩
theorem members_c {B : Nat → Prop} {H0 H : Heap} {ps : List Pc} {pb n : Nat} {K : Value → Heap → Prop} (st : StB B H0 H ps)
    (k : ∀ b1 b2 H', StB B H0 H' (ps ++ [pB 81 b1 [.pointer (some ⟨pb, 0, none⟩)]] ++ [pB 3 b2 [.int .i64 (n : Int)]]) → K (.func (.func 81) #[] #[.pointer (some ⟨b1, 0, none⟩), .pointer (some ⟨b2, 0, none⟩)]) H') :
    VCall Try.prog 58 #[.pointer (some ⟨pb, 0, none⟩), .int .i64 (n : Int)] H K := by
  refine VCall.mk (R := fun v H' => ∃ b1 b2, v = .func (.func 81) #[] #[.pointer (some ⟨b1, 0, none⟩), .pointer (some ⟨b2, 0, none⟩)] ∧ StB B H0 H' (ps ++ [pB 81 b1 [.pointer (some ⟨pb, 0, none⟩)]] ++ [pB 3 b2 [.int .i64 (n : Int)]])) ?_ ?_
  · refine FnOk.of_vc Try.func58 rfl (Try.call58 _) ?_
    (conv => whnf); refine vbox [.pointer (some ⟨pb, 0, none⟩)] rfl ?_
    intro b1 H1 hb1 hs1 hk1 ha1
    have st1 := st.box hb1 hs1 hk1 ha1
    (conv => whnf); refine vbox [.int .i64 (n : Int)] rfl ?_
    intro b2 H2 hb2 hs2 hk2 ha2
    have st2 := st1.box hb2 hs2 hk2 ha2
    (conv => whnf)
    exact ⟨b1, b2, rfl, st2⟩
  · rintro _ H' ⟨b1, b2, rfl, st'⟩
    exact k b1 b2 H' st'
end Go.Proofs.Ytkgmhkcncemmkaa
