/- Parts of the proof: VHeldT, PLp4, PPow6, PLaid6, VOpen, POpenS, POpen5, VTop, PTabIn -/
import Derived.Test.YtfbghcpdinlmcaaGreatDoorKLq2
import Derived.Test.YtfbghcpdinlmcaaGreatDoorKLq6
import Derived.Test.YtfbghcpdinlmcaaGreatDoorRows
import Derived.Lib.LaidTab
import Derived.ProofKit
import Derived.Test.YtfbghcpdinlmcaaGreatDoorKLq1
import Derived.OpenShut
import Derived.Test.YtfbghcpdinlmcaaGreatDoorKLq3
import Derived.JoinedCond
import Derived.WideKeyArgs
import Derived.Test.YtfbghcpdinlmcaaGreatDoorKLq4
/- Regions whose order is open, where three operations may be ready at a time. -/
set_option linter.unusedVariables false
set_option linter.unusedSimpArgs false
namespace Go.VC
inductive Sc3 where
  | e
  | q (i : Nat) (s : Sc3)
  | f (i : Nat) (s : Sc3)
  | b (i : Nat) (s : Sc3) (j : Nat) (s' : Sc3)
  | t (i : Nat) (s : Sc3) (j : Nat) (s' : Sc3) (k : Nat) (s'' : Sc3)
def sq3 : List Nat → Sc3 → Sc3
  | [], s => s
  | i :: l, s => .q i (sq3 l s)
def Sc3.len : Sc3 → Nat
  | .e => 0
  | .q _ s => s.len + 1
  | .f _ s => s.len + 1
  | .b _ s _ _ => s.len + 1
  | .t _ s _ _ _ _ => s.len + 1
def Sc3.even : Sc3 → Bool
  | .e => true
  | .q _ s => s.even
  | .f _ s => s.even
  | .b _ s _ s' => s.even && s'.even && s.len == s'.len
  | .t _ s _ s' _ s'' => s.even && s'.even && s''.even && s.len == s'.len && s.len == s''.len
def heldB3 (ops : Array Oper) : Sc3 → Array Bool → Bool
  | .e, listed => (Region.ready .any ops listed).isEmpty
  | .q i s, listed => (Region.ready .any ops listed).contains i && Region.free .any ops listed i && heldB3 ops s (listed.setIfInBounds i true)
  | .f i s, listed => Region.ready .any ops listed == [i] && heldB3 ops s (listed.setIfInBounds i true)
  | .b i s j s', listed => Region.ready .any ops listed == [i, j] && heldB3 ops s (listed.setIfInBounds i true) && heldB3 ops s' (listed.setIfInBounds j true)
  | .t i s j s' k s'', listed => Region.ready .any ops listed == [i, j, k] && heldB3 ops s (listed.setIfInBounds i true) && heldB3 ops s' (listed.setIfInBounds j true) && heldB3 ops s'' (listed.setIfInBounds k true)
def held3 (P : Program) (S : Nat → Prop) (H0 : Heap) (all : List Oper) (s : Sc3) : Fr → Heap → (Fr → Heap → Prop) → Prop :=
  Sc3.rec (motive := fun _ => Fr → Heap → (Fr → Heap → Prop) → Prop) (fun fr H K => K fr H)
    (fun i _ ih fr H K => match all[i]? with
      | none => False
      | some o => whenK all o fr (quietG P S o H fun fr' H' => ih fr' H' K) (skipG o H fun fr' H' => ih fr' H' K))
    (fun i _ ih fr H K => stepG P S [] H0 all i fr H fun fr' H' => ih fr' H' K)
    (fun i _ j _ ih ih' fr H K => (stepG P S [] H0 all i fr H fun fr' H' => ih fr' H' K) ∧ stepG P S [] H0 all j fr H fun fr' H' => ih' fr' H' K)
    (fun i _ j _ k _ ih ih' ih'' fr H K => (stepG P S [] H0 all i fr H fun fr' H' => ih fr' H' K) ∧ (stepG P S [] H0 all j fr H fun fr' H' => ih' fr' H' K) ∧ stepG P S [] H0 all k fr H fun fr' H' => ih'' fr' H' K) s
theorem held3_q (P : Program) (S : Nat → Prop) (H0 : Heap) (all : List Oper) (i : Nat) (s : Sc3) (fr : Fr) (H : Heap) (K : Fr → Heap → Prop) : held3 P S H0 all (.q i s) fr H K =
    (match all[i]? with
      | none => False
      | some o => whenK all o fr (quietG P S o H fun fr' H' => held3 P S H0 all s fr' H' K) (skipG o H fun fr' H' => held3 P S H0 all s fr' H' K)) := rfl
theorem held3_sound {P : Program} {S : Nat → Prop} {w0 : World} {all : List Oper} {Q : Exit → Act → World → Prop} (hs : Region.noSelect all.toArray = true)
    (hp : ∀ c a w, ¬ Q (.panic c) a w) : ∀ (l : Sc3) (listed : Array Bool) (fr : Fr) (a : Act) (w : World) (K : Fr → Heap → Prop), At fr a → Env w0 w → Cls w0 S w → Shut all.toArray listed →
    (∀ fr' a' w', At fr' a' → Env w0 w' → K fr' w'.heap → Q .normal a' w') → heldB3 all.toArray l listed = true → l.even = true →
    held3 P S w0.heap all l fr w.heap K → wpAnyZ P all.toArray Q (Cls w0 S) [] l.len listed a w
  | .e, listed, fr, a, w, K, hat, he, _, _, hq, hB, _, h => ⟨by simpa [heldB3] using hB, hq fr a w hat he h⟩
  | .q i s, listed, fr, a, w, K, hat, he, hc, hsh, hq, hB, hev, h => by
    simp only [heldB3, Bool.and_eq_true] at hB
    obtain ⟨⟨b1, b2⟩, hB2⟩ := hB
    rw [held3_q] at h
    split at h
    · exact h.elim
    · rename_i o ho
      have ho' : all.toArray[i]? = some o := by simpa using ho
      have hri : i ∈ Region.ready .any all.toArray listed := by simpa using b1
      rcases whenK_sound hat h with ⟨hwant, h⟩ | ⟨hwant, h⟩
      · unfold quietG at h
        split at h
        · obtain ⟨v, hv, hk⟩ := detK_sound h
          rw [putK_eq] at hk
          refine wpAnyZ_first (v := v) (f := all.toArray.size) ho' (Region.noSelect_spec hs) (fun c a' w' hh => (hp _ _ _ hh).elim) rfl (fun j hj => by cases hj) s.len listed a w hsh (Region.free_spec ho' b2) hri
            (.inl ⟨hwant, fun w' hw' => ?_⟩) hc ?_
          · rw [hat.evalF]
            exact hv w' fun k hk => (hw'.2 k hk).trans (hc.2 k hk).symm
          · exact held3_sound hs hp s _ _ _ w K (hat.put o.dst v) he hc (hsh.put hri) hq hB2 hev hk
        · exact h.elim
      · unfold skipG at h
        rw [putK_eq] at h
        exact wpAnyZ_first (v := undef) (f := all.toArray.size) ho' (Region.noSelect_spec hs) (fun c a' w' hh => (hp _ _ _ hh).elim) rfl (fun j hj => by cases hj) s.len listed a w hsh (Region.free_spec ho' b2) hri
          (.inr ⟨hwant, rfl⟩) hc (held3_sound hs hp s _ _ _ w K (hat.put o.dst undef) he hc (hsh.put hri) hq hB2 hev h)
  | .f i s, listed, fr, a, w, K, hat, he, hc, hsh, hq, hB, hev, h => by
    simp only [heldB3, Bool.and_eq_true, beq_iff_eq] at hB
    obtain ⟨b1, hB2⟩ := hB
    refine ⟨(fun h0 => by rw [b1] at h0; cases h0), fun j hj => ?_⟩
    have hj0 := hj
    rw [b1] at hj
    obtain rfl : j = i := by simpa using hj
    exact stepG_sound (Z := []) hat he (fun _ => hc) h fun fr' a' w' h1 h2 h3 h4 => ⟨h3, held3_sound hs hp s _ _ _ w' K h1 h2 (h3 rfl) (hsh.put hj0) hq hB2 hev h4⟩
  | .b i s j s', listed, fr, a, w, K, hat, he, hc, hsh, hq, hB, hev, h => by
    simp only [heldB3, Bool.and_eq_true, beq_iff_eq] at hB
    obtain ⟨⟨b1, hB2⟩, hB3⟩ := hB
    simp only [Sc3.even, Bool.and_eq_true, beq_iff_eq] at hev
    obtain ⟨⟨e1, e2⟩, e3⟩ := hev
    refine ⟨(fun h0 => by rw [b1] at h0; cases h0), fun k hk => ?_⟩
    have hk0 := hk
    rw [b1] at hk
    rcases List.mem_cons.1 hk with rfl | hk
    · exact stepG_sound (Z := []) hat he (fun _ => hc) h.1 fun fr' a' w' h1 h2 h3 h4 => ⟨h3, held3_sound hs hp s _ _ _ w' K h1 h2 (h3 rfl) (hsh.put hk0) hq hB2 e1 h4⟩
    · obtain rfl : k = j := by simpa using hk
      rw [e3]
      exact stepG_sound (Z := []) hat he (fun _ => hc) h.2 fun fr' a' w' h1 h2 h3 h4 => ⟨h3, held3_sound hs hp s' _ _ _ w' K h1 h2 (h3 rfl) (hsh.put hk0) hq hB3 e2 h4⟩
  | .t i s j s' m s'', listed, fr, a, w, K, hat, he, hc, hsh, hq, hB, hev, h => by
    simp only [heldB3, Bool.and_eq_true, beq_iff_eq] at hB
    obtain ⟨⟨⟨b1, hB2⟩, hB3⟩, hB4⟩ := hB
    simp only [Sc3.even, Bool.and_eq_true, beq_iff_eq] at hev
    obtain ⟨⟨⟨⟨e1, e2⟩, e3⟩, e4⟩, e5⟩ := hev
    refine ⟨(fun h0 => by rw [b1] at h0; cases h0), fun k hk => ?_⟩
    have hk0 := hk
    rw [b1] at hk
    rcases List.mem_cons.1 hk with rfl | hk
    · exact stepG_sound (Z := []) hat he (fun _ => hc) h.1 fun fr' a' w' h1 h2 h3 h4 => ⟨h3, held3_sound hs hp s _ _ _ w' K h1 h2 (h3 rfl) (hsh.put hk0) hq hB2 e1 h4⟩
    · rcases List.mem_cons.1 hk with rfl | hk
      · rw [e4]
        exact stepG_sound (Z := []) hat he (fun _ => hc) h.2.1 fun fr' a' w' h1 h2 h3 h4 => ⟨h3, held3_sound hs hp s' _ _ _ w' K h1 h2 (h3 rfl) (hsh.put hk0) hq hB3 e2 h4⟩
      · obtain rfl : k = m := by simpa using hk
        rw [e5]
        exact stepG_sound (Z := []) hat he (fun _ => hc) h.2.2 fun fr' a' w' h1 h2 h3 h4 => ⟨h3, held3_sound hs hp s'' _ _ _ w' K h1 h2 (h3 rfl) (hsh.put hk0) hq hB4 e3 h4⟩
theorem VDraw.held3 {P : Program} {l : List Oper} {fr : Fr} {H : Heap} {K : Fr → Heap → Prop} (S : Nat → Prop) (sched : Sc3) (hm : P.follows .mixedOrders = true)
    (hB : (Region.noSelect l.toArray && (sched.len == l.length) && sched.even && heldB3 l.toArray sched (Array.replicate l.length false)) = true)
    (h : VC.held3 P S H l sched fr H K) : VDraw P l fr H K := by
  refine ⟨?_⟩
  intro id Q a w hat hw hp hq
  subst hw
  simp only [Bool.and_eq_true, beq_iff_eq] at hB
  refine wp_region_any hm (wpAny_of_Z (S := Cls w S) (Z := []) _ _ _ _ ?_)
  have hsh : Shut l.toArray (Array.replicate l.length false) := fun j o _ hj => by
    rw [Array.getD_eq_getD_getElem?, Array.getElem?_replicate] at hj
    split at hj <;> simp at hj
  have := held3_sound (P := P) (S := S) (w0 := w) (Q := Q) hB.1.1.1 hp sched (Array.replicate l.length false) fr a { w with drawn := w.drawn + 1 } K hat ⟨rfl, rfl, rfl⟩ ⟨⟨rfl, rfl, rfl⟩, Agr.refl _ _⟩ hsh hq hB.2 hB.1.2 h
  rw [hB.1.1.2] at this
  simpa using this
end Go.VC
/- The law LangProducts: the walk. -/
set_option linter.unusedVariables false
set_option linter.unusedSimpArgs false
set_option maxRecDepth 100000
namespace Go.Proofs.YtfbghcpdinlmcaaGreatDoor
open Go.VC Go.Lib
attribute [local irreducible] mRun gRun atRun
section
variable {A B D : DM} {a b : Option AM} {p : AM} {ends : Bool → Bool → Bool} {kind most : Nat} {F : List (Int × Int)} {rows : List (List Nat)}
theorem prod_like (hA : cellsD A = cellsM a) (hB : cellsD B = cellsM b) (ha : IsMade a) (hb : IsMade b) (hm : 1 ≤ most) (hm2 : most ≤ 4096) (hk : ∀ x y, endsK kind x y = ends x y) (hd : detF most (stepPr a b) (repsD A B) ((0, 0) : Int × Int) = some (F, rows)) (hp : IsProd a b ends F (some p)) (hD : D = ⟨cel6 A B, asI (repsD A B), rows.map rowI, F.map fun x => endsK kind (finM a x.1) (finM b x.2)⟩) :
    D.Ok ∧ stN (some p) = D.next.length ∧ (∀ q c : Nat, q < D.next.length → c < 256 → stepM (some p) (q : Int) c = stepD D (q : Int) c) ∧ ∀ q : Nat, q < D.next.length → finM (some p) (q : Int) = finD D (q : Int) := by
  have hg := genPr ha hb
  have hR : repsD A B = (atRun (cellsM a ++ cellsM b) 256).1 := by unfold repsD; rw [hA, hB]
  have hC : cel6 A B = asI (atRun (cellsM a ++ cellsM b) 256).2 := by unfold cel6; rw [hA, hB]
  rw [hR] at hd
  have hD' : D = ⟨asI (atRun (cellsM a ++ cellsM b) 256).2, asI (atRun (cellsM a ++ cellsM b) 256).1, rows.map rowI, F.map fun x => ends (finM a x.1) (finM b x.2)⟩ := by
    rw [hD, hR, hC]
    simp only [hk]
  obtain ⟨h1, h2, h3⟩ := docG (fin := fun x : Int × Int => ends (finM a x.1) (finM b x.2)) hg hm (by omega) hd hD'
  have hdw : prW a b most = some F := by unfold prW; rw [← hg.detD hm, hd]; rfl
  have hn := (detW_len hm hdw).2.2.1
  refine ⟨h1, by rw [hp.2.2, h3], fun q c hq hc => ?_, fun q hq => ?_⟩
  · exact leadsG_uniq hn hp.2.1 h2 q c (by rw [← h3]; exact hq) hc
  · exact leadsG_fin hp.2.1 h2 q (by rw [← h3]; exact hq)
theorem prod_both {m : Int} {S1 : Nat → Prop} {H1 H2 : Heap} {v v2 : Value} {e e2 : Int} (hA : cellsD A = cellsM a) (hB : cellsD B = cellsM b) (ha : IsMade a) (hb : IsMade b) (hk : ∀ x y, endsK kind x y = ends x y)
    (h1 : if m < 1 ∨ 4096 < m then v = .pointer none ∧ e = 2 else match prW a b m.toNat with
      | none => v = .pointer none ∧ e = 40
      | some F => e = 0 ∧ ∃ p, AutoV S1 H1 v (some p) ∧ IsProd a b ends F (some p)) (h2 : ProdD A B a b kind m H2 v2 e2) :
    (v = .pointer none ∧ e = 2 ∧ e2 = 2) ∨ (v = .pointer none ∧ e = 40 ∧ e2 = 40) ∨ (e = 0 ∧ e2 = 0 ∧ ∃ p D, AutoV S1 H1 v (some p) ∧ DfaV (Old H2) H2 v2 D ∧ D.Ok ∧ stN (some p) = D.next.length ∧ (∀ q c : Nat, q < D.next.length → c < 256 → stepM (some p) (q : Int) c = stepD D (q : Int) c) ∧ ∀ q : Nat, q < D.next.length → finM (some p) (q : Int) = finD D (q : Int)) := by
  unfold ProdD at h2
  by_cases hc : m < 1 ∨ 4096 < m
  · rw [if_pos hc] at h1 h2
    exact .inl ⟨h1.1, h1.2, h2⟩
  · rw [if_neg hc] at h1 h2
    have hm : 1 ≤ m.toNat := by omega
    have hdw : prW a b m.toNat = (detF m.toNat (stepPr a b) (repsD A B) ((0, 0) : Int × Int)).map Prod.fst := by
      have hR : repsD A B = (atRun (cellsM a ++ cellsM b) 256).1 := by unfold repsD; rw [hA, hB]
      rw [hR, (genPr ha hb).detD hm]
      rfl
    cases hd : detF m.toNat (stepPr a b) (repsD A B) ((0, 0) : Int × Int) with
    | none =>
      rw [hd] at h2 hdw
      rw [show prW a b m.toNat = none from hdw] at h1
      exact .inr (.inl ⟨h1.1, h1.2, h2⟩)
    | some x =>
      obtain ⟨F, rows⟩ := x
      rw [hd] at h2 hdw
      rw [show prW a b m.toNat = some F from hdw] at h1
      obtain ⟨e1, p, hv, hp⟩ := h1
      obtain ⟨e2, hD⟩ := h2
      obtain ⟨k1, k2, k3, k4⟩ := prod_like hA hB ha hb hm (by omega) hk hd hp rfl
      exact .inr (.inr ⟨e1, e2, p, _, hv, hD, k1, k2, k3, k4⟩)
theorem notD_ok (h : A.Ok) : DM.Ok ⟨A.cell, A.reps, A.next, A.final.map (!·)⟩ :=
  ⟨h.n1, h.n2, by simp only [List.length_map]; exact h.fl, h.cell, h.rows⟩
theorem notD_fin (h : A.Ok) {q : Nat} (hq : q < A.next.length) : finD ⟨A.cell, A.reps, A.next, A.final.map (!·)⟩ (q : Int) = !finD A (q : Int) := by
  have hfl := h.fl
  obtain ⟨f, hf⟩ := get_some (l := A.final) (k := q) (by omega)
  simp [finD, hf]
end
/-- An automaton of the document's, as a piece. -/
def pDf (S : Nat → Prop) (v : Value) (D : DM) : Pc := ⟨S, fun H => DfaV S H v D, fun h hp => hp.frame h⟩
theorem dfa_agg {S : Nat → Prop} {H : Heap} {v : Value} {D : DM} (h : DfaV S H v D) : ∃ la : List Value, v = .agg la.toArray ∧ la.length = 259 ∧ la.all (·.oneCell') = true := by
  obtain ⟨hl, ra, rc, na, nc, fa, fc, e, -, -, -⟩ := h
  exact ⟨_, e, dfaL_len hl, dfaL_ones rfl rfl rfl⟩
set_option maxHeartbeats 16000000 in
theorem langProducts_p (v : Value) (cells : List (BitVec 256)) (next : List (List Int)) (final : List Bool) (v' : Value) (cells' : List (BitVec 256)) (next' : List (List Int)) (final' : List Bool) (m : Int) (S : Nat → Prop) (H : Heap) (ht : TabIn S H v cells next final) (hu : TabIn S H v' cells' next' final') (hpow : PowH Tryz.prog H) :
    Pure Tryz.prog 4 #[v, v', .int .i64 m] H (.bool true) := by
  refine FnOk.of_vc Tryz.func4 rfl (Tryz.call4 _) ?_
  (conv => whnf); refine tab_box ht fun l hl hv => ?_
  intro p H1 hp hs1 hb1 ha1
  have st1 := (St.nil H).box hp hs1 hb1 ha1
  (conv => whnf); refine tab_box (hu.frame st1.old) fun l' hl' hv' => ?_
  intro p' H2 hp' hs2 hb2 ha2
  have st2 := st1.box hp' hs2 hb2 ha2
  (conv => whnf); refine pures (speaks06_p (hpow.agr st2.old)) fun H3 ha3 => ?_
  have st3 := st2.call ha3
  (conv => whnf); refine VDraw.held (Old H3) 5 (sq [0,2] (.f 1 (.f 3 (sq [4] (.f 5 .e))))) rfl (by kernel_rfl) ?_
  (conv => whnf); refine tab_load hl hv (st3.blk 0 rfl) (st3.blk 0 rfl).lt ?_
  (conv => whnf); refine tab_load hl' hv' (st3.blk 1 rfl) (st3.blk 1 rfl).lt ?_
  (conv => whnf); refine VCall.mk (auto06_c v cells next final S H3 (ht.frame st3.old)) ?_
  rintro va H4 ⟨ha4, hs4, hva⟩
  have st4 := st3.call ha4
  refine ⟨ha4, ?_⟩
  (conv => whnf); refine VCall.mk (auto06_c v' cells' next' final' S H4 (hu.frame st4.old)) ?_
  rintro vb H5 ⟨ha5, hs5, hvb⟩
  have st5 := st4.call ha5
  have h35 := ha4.trans (ha5.mono fun k hk => old_lt ha4 hk)
  refine ⟨h35, ?_⟩
  have hma : IsMade (autoOf cells next final) := ⟨_, _, _, rfl⟩
  have hmb : IsMade (autoOf cells' next' final') := ⟨_, _, _, rfl⟩
  have hva5 : AutoV (Old H5) H5 va (autoOf cells next final) := (hva.frame (ha5.mono fun k hk => hk.2)).mono fun k hk => old_lt ha5 hk.2
  have hvb5 : AutoV (Old H5) H5 vb (autoOf cells' next' final') := hvb.mono fun k hk => hk.2
  have hba := both_of cells next final
  have hbb := both_of cells' next' final'
  have hag : ∀ {G : Heap} {ps : List Pc}, St H5 G ps → Agr (Old H) H G := fun st => st5.old.trans (st.old.mono fun k hk => old_lt st5.old hk)
  have hcA : ∀ {G : Heap} {ps : List Pc} (st : St H5 G ps) {K : Value → Heap → Prop}, (∀ (la : List Value) (G' : Heap) (SA : Nat → Prop), la.length = 259 → la.all (·.oneCell') = true → St H5 G' (ps ++ [pDf SA (.agg la.toArray) (dfaOf cells next final)]) → K (.agg la.toArray) G') → VCall Tryz.prog 20 #[v] G K := fun st K k => by
    refine VCall.mk (made_c v cells next final S _ (ht.frame (hag st))) ?_
    rintro vA G' ⟨ga, gs, hA⟩
    obtain ⟨la, rfl, h1, h2⟩ := dfa_agg hA
    exact k la G' _ h1 h2 (st.add ga (pDf _ _ _) hA fun k hk => hk)
  have hcB : ∀ {G : Heap} {ps : List Pc} (st : St H5 G ps) {K : Value → Heap → Prop}, (∀ (la : List Value) (G' : Heap) (SA : Nat → Prop), la.length = 259 → la.all (·.oneCell') = true → St H5 G' (ps ++ [pDf SA (.agg la.toArray) (dfaOf cells' next' final')]) → K (.agg la.toArray) G') → VCall Tryz.prog 20 #[v'] G K := fun st K k => by
    refine VCall.mk (made_c v' cells' next' final' S _ (hu.frame (hag st))) ?_
    rintro vA G' ⟨ga, gs, hA⟩
    obtain ⟨la, rfl, h1, h2⟩ := dfa_agg hA
    exact k la G' _ h1 h2 (st.add ga (pDf _ _ _) hA fun k hk => hk)
  have hag5 : Agr (Old H5) H5 H5 := Agr.refl _ _
  have sx0 := St.nil H5
  (conv => whnf); refine VDraw.cut [9, 10] (fun x : Nat × Nat => match x with | (p7, p8) => [.pointer (some ⟨p7, 0, none⟩), .pointer (some ⟨p8, 0, none⟩)]) (fun x H' => match x with | (p7, p8) => ∃ (la lb : List Value) (SA SB : Nat → Prop), la.length = 259 ∧ lb.length = 259 ∧ St H5 H' [pB 43 p7 la, pB 43 p8 lb, pDf SA (.agg la.toArray) (dfaOf cells next final), pDf SB (.agg lb.toArray) (dfaOf cells' next' final')]) ?_ ?_
  · refine VDraw.held3 (Old H5) (sq3 [0,2] (.t 1 (.t 3 (.b 4 (.f 5 (.f 6 (.f 7 .e))) 5 (.f 4 (.f 6 (.f 7 .e)))) 4 (.b 3 (.f 5 (.f 6 (.f 7 .e))) 5 (.f 3 (.f 6 (.f 7 .e)))) 5 (.b 3 (.f 4 (.f 6 (.f 7 .e))) 4 (.f 3 (.f 6 (.f 7 .e))))) 4 (.b 1 (.b 3 (.f 5 (.f 6 (.f 7 .e))) 5 (.f 3 (.f 6 (.f 7 .e)))) 5 (.f 1 (.f 3 (.f 6 (.f 7 .e))))) 5 (.b 1 (.b 3 (.f 4 (.f 6 (.f 7 .e))) 4 (.f 3 (.f 6 (.f 7 .e)))) 4 (.f 1 (.f 3 (.f 6 (.f 7 .e))))))) rfl (by kernel_rfl) ?_
    (conv => whnf); refine tab_load hl hv (st5.blk 0 rfl) (st5.blk 0 rfl).lt ?_
    (conv => whnf); refine tab_load hl' hv' (st5.blk 1 rfl) (st5.blk 1 rfl).lt ?_
    (conv => whnf); refine ⟨?_, ?_, ?_⟩
    · refine hcA sx0 fun lA G1 SA hA oA sx1 => ?_
      refine ⟨sx1.old, ?_⟩
      (conv => whnf); refine ⟨?_, ?_, ?_⟩
      · refine hcB sx1 fun lB G2 SB hB oB sx2 => ?_
        refine ⟨sx2.old, ?_⟩
        (conv => whnf); refine ⟨?_, ?_⟩
        · refine valloc _ (dfaL (List.replicate 256 0) (.slice none 0 0) (.slice none 0 0) (.slice none 0 0)) rfl (by kernel_rfl) ?_
          intro p7 G3 gp3 gs3 gb3 ga3
          have sx3 := sx2.box gp3 gs3 gb3 ga3
          refine ⟨sx3.old, ?_⟩
          (conv => whnf)
          refine valloc _ (dfaL (List.replicate 256 0) (.slice none 0 0) (.slice none 0 0) (.slice none 0 0)) rfl (by kernel_rfl) ?_
          intro p8 G4 gp4 gs4 gb4 ga4
          have sx4 := sx3.box gp4 gs4 gb4 ga4
          refine ⟨sx4.old, ?_⟩
          (conv => whnf); refine stNB (cs := lA) sx4 2 (by rw [hA]; rfl) rfl (by rw [hA]; decide) oA fun G5 sx5 => ?_
          rw [splice_whole (by rw [hA]; rfl)] at sx5
          refine ⟨sx5.old, ?_⟩
          (conv => whnf); refine stNB (cs := lB) sx5 3 (by rw [hB]; rfl) rfl (by rw [hB]; decide) oB fun G6 sx6 => ?_
          rw [splice_whole (by rw [hB]; rfl)] at sx6
          refine ⟨sx6.old, ?_⟩
          (conv => whnf)
          exact ⟨rfl, (p7, p8), rfl, lA, lB, SA, SB, hA, hB, sx6.pick [2, 3, 0, 1] (by decide)⟩
        · (conv => whnf); refine valloc _ (dfaL (List.replicate 256 0) (.slice none 0 0) (.slice none 0 0) (.slice none 0 0)) rfl (by kernel_rfl) ?_
          intro p8 G3 gp3 gs3 gb3 ga3
          have sx3 := sx2.box gp3 gs3 gb3 ga3
          refine ⟨sx3.old, ?_⟩
          (conv => whnf)
          refine valloc _ (dfaL (List.replicate 256 0) (.slice none 0 0) (.slice none 0 0) (.slice none 0 0)) rfl (by kernel_rfl) ?_
          intro p7 G4 gp4 gs4 gb4 ga4
          have sx4 := sx3.box gp4 gs4 gb4 ga4
          refine ⟨sx4.old, ?_⟩
          (conv => whnf); refine stNB (cs := lA) sx4 3 (by rw [hA]; rfl) rfl (by rw [hA]; decide) oA fun G5 sx5 => ?_
          rw [splice_whole (by rw [hA]; rfl)] at sx5
          refine ⟨sx5.old, ?_⟩
          (conv => whnf); refine stNB (cs := lB) sx5 2 (by rw [hB]; rfl) rfl (by rw [hB]; decide) oB fun G6 sx6 => ?_
          rw [splice_whole (by rw [hB]; rfl)] at sx6
          refine ⟨sx6.old, ?_⟩
          (conv => whnf)
          exact ⟨rfl, (p7, p8), rfl, lA, lB, SA, SB, hA, hB, sx6.pick [3, 2, 0, 1] (by decide)⟩
      · (conv => whnf); refine valloc _ (dfaL (List.replicate 256 0) (.slice none 0 0) (.slice none 0 0) (.slice none 0 0)) rfl (by kernel_rfl) ?_
        intro p7 G2 gp2 gs2 gb2 ga2
        have sx2 := sx1.box gp2 gs2 gb2 ga2
        refine ⟨sx2.old, ?_⟩
        (conv => whnf); refine ⟨?_, ?_⟩
        · refine hcB sx2 fun lB G3 SB hB oB sx3 => ?_
          refine ⟨sx3.old, ?_⟩
          (conv => whnf)
          refine valloc _ (dfaL (List.replicate 256 0) (.slice none 0 0) (.slice none 0 0) (.slice none 0 0)) rfl (by kernel_rfl) ?_
          intro p8 G4 gp4 gs4 gb4 ga4
          have sx4 := sx3.box gp4 gs4 gb4 ga4
          refine ⟨sx4.old, ?_⟩
          (conv => whnf); refine stNB (cs := lA) sx4 1 (by rw [hA]; rfl) rfl (by rw [hA]; decide) oA fun G5 sx5 => ?_
          rw [splice_whole (by rw [hA]; rfl)] at sx5
          refine ⟨sx5.old, ?_⟩
          (conv => whnf); refine stNB (cs := lB) sx5 3 (by rw [hB]; rfl) rfl (by rw [hB]; decide) oB fun G6 sx6 => ?_
          rw [splice_whole (by rw [hB]; rfl)] at sx6
          refine ⟨sx6.old, ?_⟩
          (conv => whnf)
          exact ⟨rfl, (p7, p8), rfl, lA, lB, SA, SB, hA, hB, sx6.pick [1, 3, 0, 2] (by decide)⟩
        · (conv => whnf); refine valloc _ (dfaL (List.replicate 256 0) (.slice none 0 0) (.slice none 0 0) (.slice none 0 0)) rfl (by kernel_rfl) ?_
          intro p8 G3 gp3 gs3 gb3 ga3
          have sx3 := sx2.box gp3 gs3 gb3 ga3
          refine ⟨sx3.old, ?_⟩
          (conv => whnf)
          refine hcB sx3 fun lB G4 SB hB oB sx4 => ?_
          refine ⟨sx4.old, ?_⟩
          (conv => whnf); refine stNB (cs := lA) sx4 1 (by rw [hA]; rfl) rfl (by rw [hA]; decide) oA fun G5 sx5 => ?_
          rw [splice_whole (by rw [hA]; rfl)] at sx5
          refine ⟨sx5.old, ?_⟩
          (conv => whnf); refine stNB (cs := lB) sx5 2 (by rw [hB]; rfl) rfl (by rw [hB]; decide) oB fun G6 sx6 => ?_
          rw [splice_whole (by rw [hB]; rfl)] at sx6
          refine ⟨sx6.old, ?_⟩
          (conv => whnf)
          exact ⟨rfl, (p7, p8), rfl, lA, lB, SA, SB, hA, hB, sx6.pick [1, 2, 0, 3] (by decide)⟩
      · (conv => whnf); refine valloc _ (dfaL (List.replicate 256 0) (.slice none 0 0) (.slice none 0 0) (.slice none 0 0)) rfl (by kernel_rfl) ?_
        intro p8 G2 gp2 gs2 gb2 ga2
        have sx2 := sx1.box gp2 gs2 gb2 ga2
        refine ⟨sx2.old, ?_⟩
        (conv => whnf); refine ⟨?_, ?_⟩
        · refine hcB sx2 fun lB G3 SB hB oB sx3 => ?_
          refine ⟨sx3.old, ?_⟩
          (conv => whnf)
          refine valloc _ (dfaL (List.replicate 256 0) (.slice none 0 0) (.slice none 0 0) (.slice none 0 0)) rfl (by kernel_rfl) ?_
          intro p7 G4 gp4 gs4 gb4 ga4
          have sx4 := sx3.box gp4 gs4 gb4 ga4
          refine ⟨sx4.old, ?_⟩
          (conv => whnf); refine stNB (cs := lA) sx4 3 (by rw [hA]; rfl) rfl (by rw [hA]; decide) oA fun G5 sx5 => ?_
          rw [splice_whole (by rw [hA]; rfl)] at sx5
          refine ⟨sx5.old, ?_⟩
          (conv => whnf); refine stNB (cs := lB) sx5 1 (by rw [hB]; rfl) rfl (by rw [hB]; decide) oB fun G6 sx6 => ?_
          rw [splice_whole (by rw [hB]; rfl)] at sx6
          refine ⟨sx6.old, ?_⟩
          (conv => whnf)
          exact ⟨rfl, (p7, p8), rfl, lA, lB, SA, SB, hA, hB, sx6.pick [3, 1, 0, 2] (by decide)⟩
        · (conv => whnf); refine valloc _ (dfaL (List.replicate 256 0) (.slice none 0 0) (.slice none 0 0) (.slice none 0 0)) rfl (by kernel_rfl) ?_
          intro p7 G3 gp3 gs3 gb3 ga3
          have sx3 := sx2.box gp3 gs3 gb3 ga3
          refine ⟨sx3.old, ?_⟩
          (conv => whnf)
          refine hcB sx3 fun lB G4 SB hB oB sx4 => ?_
          refine ⟨sx4.old, ?_⟩
          (conv => whnf); refine stNB (cs := lA) sx4 2 (by rw [hA]; rfl) rfl (by rw [hA]; decide) oA fun G5 sx5 => ?_
          rw [splice_whole (by rw [hA]; rfl)] at sx5
          refine ⟨sx5.old, ?_⟩
          (conv => whnf); refine stNB (cs := lB) sx5 1 (by rw [hB]; rfl) rfl (by rw [hB]; decide) oB fun G6 sx6 => ?_
          rw [splice_whole (by rw [hB]; rfl)] at sx6
          refine ⟨sx6.old, ?_⟩
          (conv => whnf)
          exact ⟨rfl, (p7, p8), rfl, lA, lB, SA, SB, hA, hB, sx6.pick [2, 1, 0, 3] (by decide)⟩
    · (conv => whnf); refine valloc _ (dfaL (List.replicate 256 0) (.slice none 0 0) (.slice none 0 0) (.slice none 0 0)) rfl (by kernel_rfl) ?_
      intro p7 G1 gp1 gs1 gb1 ga1
      have sx1 := sx0.box gp1 gs1 gb1 ga1
      refine ⟨sx1.old, ?_⟩
      (conv => whnf); refine ⟨?_, ?_⟩
      · refine hcA sx1 fun lA G2 SA hA oA sx2 => ?_
        refine ⟨sx2.old, ?_⟩
        (conv => whnf); refine ⟨?_, ?_⟩
        · refine hcB sx2 fun lB G3 SB hB oB sx3 => ?_
          refine ⟨sx3.old, ?_⟩
          (conv => whnf)
          refine valloc _ (dfaL (List.replicate 256 0) (.slice none 0 0) (.slice none 0 0) (.slice none 0 0)) rfl (by kernel_rfl) ?_
          intro p8 G4 gp4 gs4 gb4 ga4
          have sx4 := sx3.box gp4 gs4 gb4 ga4
          refine ⟨sx4.old, ?_⟩
          (conv => whnf); refine stNB (cs := lA) sx4 0 (by rw [hA]; rfl) rfl (by rw [hA]; decide) oA fun G5 sx5 => ?_
          rw [splice_whole (by rw [hA]; rfl)] at sx5
          refine ⟨sx5.old, ?_⟩
          (conv => whnf); refine stNB (cs := lB) sx5 3 (by rw [hB]; rfl) rfl (by rw [hB]; decide) oB fun G6 sx6 => ?_
          rw [splice_whole (by rw [hB]; rfl)] at sx6
          refine ⟨sx6.old, ?_⟩
          (conv => whnf)
          exact ⟨rfl, (p7, p8), rfl, lA, lB, SA, SB, hA, hB, sx6.pick [0, 3, 1, 2] (by decide)⟩
        · (conv => whnf); refine valloc _ (dfaL (List.replicate 256 0) (.slice none 0 0) (.slice none 0 0) (.slice none 0 0)) rfl (by kernel_rfl) ?_
          intro p8 G3 gp3 gs3 gb3 ga3
          have sx3 := sx2.box gp3 gs3 gb3 ga3
          refine ⟨sx3.old, ?_⟩
          (conv => whnf)
          refine hcB sx3 fun lB G4 SB hB oB sx4 => ?_
          refine ⟨sx4.old, ?_⟩
          (conv => whnf); refine stNB (cs := lA) sx4 0 (by rw [hA]; rfl) rfl (by rw [hA]; decide) oA fun G5 sx5 => ?_
          rw [splice_whole (by rw [hA]; rfl)] at sx5
          refine ⟨sx5.old, ?_⟩
          (conv => whnf); refine stNB (cs := lB) sx5 2 (by rw [hB]; rfl) rfl (by rw [hB]; decide) oB fun G6 sx6 => ?_
          rw [splice_whole (by rw [hB]; rfl)] at sx6
          refine ⟨sx6.old, ?_⟩
          (conv => whnf)
          exact ⟨rfl, (p7, p8), rfl, lA, lB, SA, SB, hA, hB, sx6.pick [0, 2, 1, 3] (by decide)⟩
      · (conv => whnf); refine valloc _ (dfaL (List.replicate 256 0) (.slice none 0 0) (.slice none 0 0) (.slice none 0 0)) rfl (by kernel_rfl) ?_
        intro p8 G2 gp2 gs2 gb2 ga2
        have sx2 := sx1.box gp2 gs2 gb2 ga2
        refine ⟨sx2.old, ?_⟩
        (conv => whnf)
        refine hcA sx2 fun lA G3 SA hA oA sx3 => ?_
        refine ⟨sx3.old, ?_⟩
        (conv => whnf)
        refine hcB sx3 fun lB G4 SB hB oB sx4 => ?_
        refine ⟨sx4.old, ?_⟩
        (conv => whnf); refine stNB (cs := lA) sx4 0 (by rw [hA]; rfl) rfl (by rw [hA]; decide) oA fun G5 sx5 => ?_
        rw [splice_whole (by rw [hA]; rfl)] at sx5
        refine ⟨sx5.old, ?_⟩
        (conv => whnf); refine stNB (cs := lB) sx5 1 (by rw [hB]; rfl) rfl (by rw [hB]; decide) oB fun G6 sx6 => ?_
        rw [splice_whole (by rw [hB]; rfl)] at sx6
        refine ⟨sx6.old, ?_⟩
        (conv => whnf)
        exact ⟨rfl, (p7, p8), rfl, lA, lB, SA, SB, hA, hB, sx6.pick [0, 1, 2, 3] (by decide)⟩
    · (conv => whnf); refine valloc _ (dfaL (List.replicate 256 0) (.slice none 0 0) (.slice none 0 0) (.slice none 0 0)) rfl (by kernel_rfl) ?_
      intro p8 G1 gp1 gs1 gb1 ga1
      have sx1 := sx0.box gp1 gs1 gb1 ga1
      refine ⟨sx1.old, ?_⟩
      (conv => whnf); refine ⟨?_, ?_⟩
      · refine hcA sx1 fun lA G2 SA hA oA sx2 => ?_
        refine ⟨sx2.old, ?_⟩
        (conv => whnf); refine ⟨?_, ?_⟩
        · refine hcB sx2 fun lB G3 SB hB oB sx3 => ?_
          refine ⟨sx3.old, ?_⟩
          (conv => whnf)
          refine valloc _ (dfaL (List.replicate 256 0) (.slice none 0 0) (.slice none 0 0) (.slice none 0 0)) rfl (by kernel_rfl) ?_
          intro p7 G4 gp4 gs4 gb4 ga4
          have sx4 := sx3.box gp4 gs4 gb4 ga4
          refine ⟨sx4.old, ?_⟩
          (conv => whnf); refine stNB (cs := lA) sx4 3 (by rw [hA]; rfl) rfl (by rw [hA]; decide) oA fun G5 sx5 => ?_
          rw [splice_whole (by rw [hA]; rfl)] at sx5
          refine ⟨sx5.old, ?_⟩
          (conv => whnf); refine stNB (cs := lB) sx5 0 (by rw [hB]; rfl) rfl (by rw [hB]; decide) oB fun G6 sx6 => ?_
          rw [splice_whole (by rw [hB]; rfl)] at sx6
          refine ⟨sx6.old, ?_⟩
          (conv => whnf)
          exact ⟨rfl, (p7, p8), rfl, lA, lB, SA, SB, hA, hB, sx6.pick [3, 0, 1, 2] (by decide)⟩
        · (conv => whnf); refine valloc _ (dfaL (List.replicate 256 0) (.slice none 0 0) (.slice none 0 0) (.slice none 0 0)) rfl (by kernel_rfl) ?_
          intro p7 G3 gp3 gs3 gb3 ga3
          have sx3 := sx2.box gp3 gs3 gb3 ga3
          refine ⟨sx3.old, ?_⟩
          (conv => whnf)
          refine hcB sx3 fun lB G4 SB hB oB sx4 => ?_
          refine ⟨sx4.old, ?_⟩
          (conv => whnf); refine stNB (cs := lA) sx4 2 (by rw [hA]; rfl) rfl (by rw [hA]; decide) oA fun G5 sx5 => ?_
          rw [splice_whole (by rw [hA]; rfl)] at sx5
          refine ⟨sx5.old, ?_⟩
          (conv => whnf); refine stNB (cs := lB) sx5 0 (by rw [hB]; rfl) rfl (by rw [hB]; decide) oB fun G6 sx6 => ?_
          rw [splice_whole (by rw [hB]; rfl)] at sx6
          refine ⟨sx6.old, ?_⟩
          (conv => whnf)
          exact ⟨rfl, (p7, p8), rfl, lA, lB, SA, SB, hA, hB, sx6.pick [2, 0, 1, 3] (by decide)⟩
      · (conv => whnf); refine valloc _ (dfaL (List.replicate 256 0) (.slice none 0 0) (.slice none 0 0) (.slice none 0 0)) rfl (by kernel_rfl) ?_
        intro p7 G2 gp2 gs2 gb2 ga2
        have sx2 := sx1.box gp2 gs2 gb2 ga2
        refine ⟨sx2.old, ?_⟩
        (conv => whnf)
        refine hcA sx2 fun lA G3 SA hA oA sx3 => ?_
        refine ⟨sx3.old, ?_⟩
        (conv => whnf)
        refine hcB sx3 fun lB G4 SB hB oB sx4 => ?_
        refine ⟨sx4.old, ?_⟩
        (conv => whnf); refine stNB (cs := lA) sx4 1 (by rw [hA]; rfl) rfl (by rw [hA]; decide) oA fun G5 sx5 => ?_
        rw [splice_whole (by rw [hA]; rfl)] at sx5
        refine ⟨sx5.old, ?_⟩
        (conv => whnf); refine stNB (cs := lB) sx5 0 (by rw [hB]; rfl) rfl (by rw [hB]; decide) oB fun G6 sx6 => ?_
        rw [splice_whole (by rw [hB]; rfl)] at sx6
        refine ⟨sx6.old, ?_⟩
        (conv => whnf)
        exact ⟨rfl, (p7, p8), rfl, lA, lB, SA, SB, hA, hB, sx6.pick [1, 0, 2, 3] (by decide)⟩
  · rintro ⟨p7, p8⟩ H6 junk6 ⟨la, lb, SA, SB, hlA, hlB, sx6⟩
    have hvA : ∀ {G : Heap}, Agr (Old H6) H6 G → DfaV SA G (.agg la.toArray) (dfaOf cells next final) := fun h => (show DfaV SA H6 _ _ from sx6.at_ 2 rfl).frame (h.mono fun k hk => (sx6.in_ 2 rfl hk).2)
    have hvB : ∀ {G : Heap}, Agr (Old H6) H6 G → DfaV SB G (.agg lb.toArray) (dfaOf cells' next' final') := fun h => (show DfaV SB H6 _ _ from sx6.at_ 3 rfl).frame (h.mono fun k hk => (sx6.in_ 3 rfl hk).2)
    have hupA : ∀ {G : Heap}, Agr (Old H6) H6 G → ∀ k, (SA k ∨ SB k) → k < G.size := fun h k hk => old_lt h (hk.elim (fun h => (sx6.in_ 2 rfl h).2) fun h => (sx6.in_ 3 rfl h).2)
    have hva6 := hva5.frame sx6.old
    have hvb6 := hvb5.frame sx6.old
    have hA := cells_doc cells next final
    have hB := cells_doc cells' next' final'
    generalize autoOf cells next final = a at *
    generalize autoOf cells' next' final' = b at *
    generalize dfaOf cells next final = A at *
    generalize dfaOf cells' next' final' = B at *
    have up : ∀ {G : Heap}, Agr (Old H6) H6 G → ∀ k, Old H5 k → k < G.size := fun h k hk => old_lt h (old_lt sx6.old hk)
    have fA : ∀ {G : Heap}, Agr (Old H6) H6 G → AutoV (Old H5) G va a := fun h => hva6.frame (h.mono fun k hk => old_lt sx6.old hk)
    have fB : ∀ {G : Heap}, Agr (Old H6) H6 G → AutoV (Old H5) G vb b := fun h => hvb6.frame (h.mono fun k hk => old_lt sx6.old hk)
    have b7 := sx6.blk 0 rfl
    have b8 := sx6.blk 1 rfl
    have ld7 : ∀ {G : Heap} {S0 : Nat → Prop} {K : Value → Prop}, Agr (Old H6) H6 G → S0 p7 → K (.agg la.toArray) → VDet Tryz.prog (Instr.loadAt 43 (.pointer (some ⟨p7, 0, none⟩))) S0 G K := fun h h0 k => ldN (cs := la) (by rw [hlA]; exact ag43) ((b7.agr h b7.lt).cells fun j v hv => by rw [Nat.zero_add]; exact hv) h0 k
    have ld8 : ∀ {G : Heap} {S0 : Nat → Prop} {K : Value → Prop}, Agr (Old H6) H6 G → S0 p8 → K (.agg lb.toArray) → VDet Tryz.prog (Instr.loadAt 43 (.pointer (some ⟨p8, 0, none⟩))) S0 G K := fun h h0 k => ldN (cs := lb) (by rw [hlB]; exact ag43) ((b8.agr h b8.lt).cells fun j v hv => by rw [Nat.zero_add]; exact hv) h0 k
    have g6 : Agr (Old H6) H6 H6 := Agr.refl _ _
    have tr : ∀ {G G' : Heap}, Agr (Old H6) H6 G → Agr (Old G) G G' → Agr (Old H6) H6 G' := fun h k => h.trans (k.mono fun j hj => old_lt h hj)
    (conv => whnf)
    refine VLoop.mk [11] (fun k : Nat => [.int .i64 (k : Int)]) (fun k G => k ≤ 3 ∧ Agr (Old H6) H6 G) (fun k _ => 3 - k) ?_ ?_
    · (conv => whnf)
      exact ⟨0, rfl, Nat.zero_le _, g6⟩
    · rintro k G1 junk9 ⟨hk, g1⟩
      (conv => whnf); refine VIte.mk (fun hz => ?_) (fun hz => ?_) <;> simp only [decide_eq_true_eq, decide_eq_false_iff_not] at hz
      · have hk3 : k = 0 ∨ k = 1 ∨ k = 2 := by omega
        rcases hk3 with rfl | rfl | rfl
        · (conv => whnf); refine VSeq.run ?_
          (conv => whnf); refine VCall.mk (meetL_c (m := m) (S := Old H5) (up g1) (fA g1) (fB g1) hma hmb) ?_
          rintro _ G2 ⟨ga2, hr2⟩
          obtain ⟨v2, e2, rfl, hp2⟩ := prodR_parts hr2
          have g2 := tr g1 ga2
          (conv => whnf); refine ld7 g2 trivial ?_
          (conv => whnf); refine ld8 g2 trivial ?_
          (conv => whnf); refine VCall.mk (product6_c (kind := 0) (m := m) (S := fun k => SA k ∨ SB k) (by decide) (hupA g2) ((hvA g2).mono fun k hk => .inl hk) ((hvB g2).mono fun k hk => .inr hk) hba hbb hma.steps hmb.steps) ?_
          rintro _ G3 ⟨ga3, v3, e3, rfl, ⟨l3, rfl, hl3, ho3⟩, hp3⟩
          have g3 := tr g2 ga3
          (conv => whnf); refine valloc _ zD6 rfl (by kernel_rfl) ?_
          intro p14 G4 gp4 gs4 gb4 ga4
          have st4 := (St.nil G3).box gp4 gs4 gb4 ga4
          (conv => whnf); refine stNB (cs := l3) st4 0 (by rw [hl3]; rfl) rfl (by rw [hl3]; decide) ho3 fun G5 st5 => ?_
          rw [splice_whole (by rw [hl3]; rfl)] at st5
          have g4 := g3
          rcases prod_both (kind := 0) (ends := andB) hA hB hma hmb (fun x y => rfl) hp2 hp3 with ⟨rfl, rfl, rfl⟩ | ⟨rfl, rfl, rfl⟩ | ⟨rfl, rfl, p, D, hv, hw, hDo, hDn, hDs, hDf⟩
          · (conv => whnf); refine pneqN Tryz.underlying23 ?_
            have g6' := tr g4 st5.old
            (conv => whnf); rw [w64 (x := ((0 : Nat) : Int) + 1) (by omega) (by omega)]
            exact ⟨rfl, 0 + 1, rfl, ⟨by omega, g6'⟩, by omega⟩
          · (conv => whnf); refine pneqN Tryz.underlying23 ?_
            have g6' := tr g4 st5.old
            (conv => whnf); rw [w64 (x := ((0 : Nat) : Int) + 1) (by omega) (by omega)]
            exact ⟨rfl, 0 + 1, rfl, ⟨by omega, g6'⟩, by omega⟩
          · (conv => whnf); refine ldN (cs := l3) (by rw [hl3]; exact ag43) ((st5.blk 0 rfl).cells fun j v hv => by rw [Nat.zero_add]; exact hv) trivial ?_
            have hv5 : AutoV (Old G5) G5 v2 (some p) := ((hv.frame ((ga3.mono fun k hk => hk.2).trans (st5.old.mono fun k hk => old_lt ga3 hk.2)))).mono fun k hk => old_lt st5.old (old_lt ga3 hk.2)
            have hw5 : DfaV (Old G5) G5 (.agg l3.toArray) D := (hw.frame st5.old).mono fun k hk => old_lt st5.old hk
            (conv => whnf); refine pures (same06_p (S := Old G5) rfl (fun k hk => hk) hv5 hw5 hDo hDn hDs hDf) fun G6 ga6 => ?_
            have g6' := tr (tr g4 st5.old) ga6
            (conv => whnf); rw [w64 (x := ((0 : Nat) : Int) + 1) (by omega) (by omega)]
            exact ⟨rfl, 0 + 1, rfl, ⟨by omega, g6'⟩, by omega⟩
        · (conv => whnf); refine VSeq.run ?_
          (conv => whnf); refine VCall.mk (joinL_c (m := m) (S := Old H5) (up g1) (fA g1) (fB g1) hma hmb) ?_
          rintro _ G2 ⟨ga2, hr2⟩
          obtain ⟨v2, e2, rfl, hp2⟩ := prodR_parts hr2
          have g2 := tr g1 ga2
          (conv => whnf); refine ld7 g2 trivial ?_
          (conv => whnf); refine ld8 g2 trivial ?_
          (conv => whnf); refine VCall.mk (product6_c (kind := 1) (m := m) (S := fun k => SA k ∨ SB k) (by decide) (hupA g2) ((hvA g2).mono fun k hk => .inl hk) ((hvB g2).mono fun k hk => .inr hk) hba hbb hma.steps hmb.steps) ?_
          rintro _ G3 ⟨ga3, v3, e3, rfl, ⟨l3, rfl, hl3, ho3⟩, hp3⟩
          have g3 := tr g2 ga3
          (conv => whnf); refine valloc _ zD6 rfl (by kernel_rfl) ?_
          intro p14 G4 gp4 gs4 gb4 ga4
          have st4 := (St.nil G3).box gp4 gs4 gb4 ga4
          (conv => whnf); refine stNB (cs := l3) st4 0 (by rw [hl3]; rfl) rfl (by rw [hl3]; decide) ho3 fun G5 st5 => ?_
          rw [splice_whole (by rw [hl3]; rfl)] at st5
          have g4 := g3
          rcases prod_both (kind := 1) (ends := orB) hA hB hma hmb (fun x y => rfl) hp2 hp3 with ⟨rfl, rfl, rfl⟩ | ⟨rfl, rfl, rfl⟩ | ⟨rfl, rfl, p, D, hv, hw, hDo, hDn, hDs, hDf⟩
          · (conv => whnf); refine pneqN Tryz.underlying23 ?_
            have g6' := tr g4 st5.old
            (conv => whnf); rw [w64 (x := ((1 : Nat) : Int) + 1) (by omega) (by omega)]
            exact ⟨rfl, 1 + 1, rfl, ⟨by omega, g6'⟩, by omega⟩
          · (conv => whnf); refine pneqN Tryz.underlying23 ?_
            have g6' := tr g4 st5.old
            (conv => whnf); rw [w64 (x := ((1 : Nat) : Int) + 1) (by omega) (by omega)]
            exact ⟨rfl, 1 + 1, rfl, ⟨by omega, g6'⟩, by omega⟩
          · (conv => whnf); refine ldN (cs := l3) (by rw [hl3]; exact ag43) ((st5.blk 0 rfl).cells fun j v hv => by rw [Nat.zero_add]; exact hv) trivial ?_
            have hv5 : AutoV (Old G5) G5 v2 (some p) := ((hv.frame ((ga3.mono fun k hk => hk.2).trans (st5.old.mono fun k hk => old_lt ga3 hk.2)))).mono fun k hk => old_lt st5.old (old_lt ga3 hk.2)
            have hw5 : DfaV (Old G5) G5 (.agg l3.toArray) D := (hw.frame st5.old).mono fun k hk => old_lt st5.old hk
            (conv => whnf); refine pures (same06_p (S := Old G5) rfl (fun k hk => hk) hv5 hw5 hDo hDn hDs hDf) fun G6 ga6 => ?_
            have g6' := tr (tr g4 st5.old) ga6
            (conv => whnf); rw [w64 (x := ((1 : Nat) : Int) + 1) (by omega) (by omega)]
            exact ⟨rfl, 1 + 1, rfl, ⟨by omega, g6'⟩, by omega⟩
        · (conv => whnf); refine VSeq.run ?_
          (conv => whnf); refine VCall.mk (lessL_c (m := m) (S := Old H5) (up g1) (fA g1) (fB g1) hma hmb) ?_
          rintro _ G2 ⟨ga2, hr2⟩
          obtain ⟨v2, e2, rfl, hp2⟩ := prodR_parts hr2
          have g2 := tr g1 ga2
          (conv => whnf); refine ld7 g2 trivial ?_
          (conv => whnf); refine ld8 g2 trivial ?_
          (conv => whnf); refine VCall.mk (product6_c (kind := 2) (m := m) (S := fun k => SA k ∨ SB k) (by decide) (hupA g2) ((hvA g2).mono fun k hk => .inl hk) ((hvB g2).mono fun k hk => .inr hk) hba hbb hma.steps hmb.steps) ?_
          rintro _ G3 ⟨ga3, v3, e3, rfl, ⟨l3, rfl, hl3, ho3⟩, hp3⟩
          have g3 := tr g2 ga3
          (conv => whnf); refine valloc _ zD6 rfl (by kernel_rfl) ?_
          intro p14 G4 gp4 gs4 gb4 ga4
          have st4 := (St.nil G3).box gp4 gs4 gb4 ga4
          (conv => whnf); refine stNB (cs := l3) st4 0 (by rw [hl3]; rfl) rfl (by rw [hl3]; decide) ho3 fun G5 st5 => ?_
          rw [splice_whole (by rw [hl3]; rfl)] at st5
          have g4 := g3
          rcases prod_both (kind := 2) (ends := outB) hA hB hma hmb (fun x y => rfl) hp2 hp3 with ⟨rfl, rfl, rfl⟩ | ⟨rfl, rfl, rfl⟩ | ⟨rfl, rfl, p, D, hv, hw, hDo, hDn, hDs, hDf⟩
          · (conv => whnf); refine pneqN Tryz.underlying23 ?_
            have g6' := tr g4 st5.old
            (conv => whnf); rw [w64 (x := ((2 : Nat) : Int) + 1) (by omega) (by omega)]
            exact ⟨rfl, 2 + 1, rfl, ⟨by omega, g6'⟩, by omega⟩
          · (conv => whnf); refine pneqN Tryz.underlying23 ?_
            have g6' := tr g4 st5.old
            (conv => whnf); rw [w64 (x := ((2 : Nat) : Int) + 1) (by omega) (by omega)]
            exact ⟨rfl, 2 + 1, rfl, ⟨by omega, g6'⟩, by omega⟩
          · (conv => whnf); refine ldN (cs := l3) (by rw [hl3]; exact ag43) ((st5.blk 0 rfl).cells fun j v hv => by rw [Nat.zero_add]; exact hv) trivial ?_
            have hv5 : AutoV (Old G5) G5 v2 (some p) := ((hv.frame ((ga3.mono fun k hk => hk.2).trans (st5.old.mono fun k hk => old_lt ga3 hk.2)))).mono fun k hk => old_lt st5.old (old_lt ga3 hk.2)
            have hw5 : DfaV (Old G5) G5 (.agg l3.toArray) D := (hw.frame st5.old).mono fun k hk => old_lt st5.old hk
            (conv => whnf); refine pures (same06_p (S := Old G5) rfl (fun k hk => hk) hv5 hw5 hDo hDn hDs hDf) fun G6 ga6 => ?_
            have g6' := tr (tr g4 st5.old) ga6
            (conv => whnf); rw [w64 (x := ((2 : Nat) : Int) + 1) (by omega) (by omega)]
            exact ⟨rfl, 2 + 1, rfl, ⟨by omega, g6'⟩, by omega⟩
      · (conv => whnf); refine VDraw.held (Old G1) 5 (sq [0,2] (.f 1 (.f 3 (.f 4 (.f 5 .e))))) rfl (by kernel_rfl) ?_
        (conv => whnf); refine ld7 g1 (old_lt g1 b7.lt) ?_
        (conv => whnf); refine VCall.mk (notL_c (S := Old H5) (up g1) (fA g1) hma) ?_
        rintro vn G2 ⟨ga2, hvn⟩
        have g2 := tr g1 ga2
        refine ⟨ga2, ?_⟩
        (conv => whnf); refine VCall.mk (notD_c (S := fun k => SA k ∨ SB k) (hupA g2) ((hvA g2).mono fun k hk => .inl hk) hba.ok) ?_
        rintro wn G3 ⟨ga3, hwn⟩
        have h13 := ga2.trans (ga3.mono fun k hk => old_lt ga2 hk)
        have g3 := tr g2 ga3
        refine ⟨h13, ?_⟩
        obtain ⟨-, -, hn3, hn4, hn5⟩ := not_made hma
        have hvn3 : AutoV (Old G3) G3 vn (some (notA a)) := (hvn.frame (ga3.mono fun k hk => hk.2)).mono fun k hk => old_lt ga3 hk.2
        have hnn : stN (some (notA a)) = A.next.length := by rw [hn3, hba.n]
        (conv => whnf); refine pures (same06_p (S := Old G3) rfl (fun k hk => hk) hvn3 hwn (notD_ok hba.ok) hnn (fun q c hq hc => by rw [hn4 q c (by rw [hba.n]; exact hq) hc, hba.step _ _ hc]; rfl) (fun q hq => by rw [hn5 q (by rw [hba.n]; exact hq), notD_fin hba.ok hq, hba.fin])) fun G4 ga4 => ?_
        refine ⟨h13.trans (ga4.mono fun k hk => old_lt h13 hk), ?_⟩
        (conv => whnf)
        exact ⟨rfl, (st5.old.trans (sx6.old.mono fun k hk => old_lt st5.old hk)).trans ((tr g3 ga4).mono fun k hk => old_lt sx6.old (old_lt st5.old hk))⟩
end Go.Proofs.YtfbghcpdinlmcaaGreatDoor
/- The library's table of powers, out of a row's list. -/
set_option linter.unusedVariables false
set_option maxRecDepth 100000
namespace Go.Proofs.YtfbghcpdinlmcaaGreatDoor
open Go.VC Go.Lib
theorem pow_g : Tryz.prog.globalNamed powN = some 1 := by kernel_rfl
theorem pow_gt : (Tryz.prog.globals[1]?).map (·.type) = some 362 := by kernel_rfl
theorem pow_c : Tryz.prog.cellsOf 362 = 20 := by kernel_rfl
theorem pow_c1 : Tryz.prog.cellsOf 99 = 1 := by kernel_rfl
theorem pow_data : (Rows.laid_internal_strconv_uint64pow10 : DataW Unit) = tabData .u64 pow10Tab := by kernel_rfl
theorem pow_of_laid {W : World} (h : laidMetH Tryz.prog Rows.langAlgebraUptoRow.laid W) : PowH Tryz.prog W.heap := by
  have hW : TabIs Tryz.prog W powN .u64 pow10Tab := by
    obtain ⟨ps, ⟨g0, t0, cs0, f0, p0, q0, hg0, ht0, hv0, hd0, ⟨g1, t1, cs1, f1, p1, q1, hg1, ht1, hv1, hd1, ⟨g2, t2, cs2, f2, p2, q2, hg2, ht2, hv2, hd2, -, -⟩, -⟩, -⟩, -⟩ := h
    obtain rfl := Option.some.inj (pow_g.symm.trans hg2)
    obtain rfl := Option.some.inj (pow_gt.symm.trans ht2)
    rw [pow_data] at hd2
    unfold TabIs
    rw [hv2, ← cells_of_tab Tryz.underlying362 Tryz.underlying99 pow_c1 pow_c hd2]
  intro w hw
  exact var_agr hW fun k _ => by rw [hw]
end Go.Proofs.YtfbghcpdinlmcaaGreatDoor
/- A world for the witness: the tables of the library hold what their initialisers lay. -/
set_option linter.unusedVariables false
set_option maxRecDepth 100000
namespace Go.Proofs.YtfbghcpdinlmcaaGreatDoor
open Go.VC Go.Lib
def tab32 : List Int := [0, 1, 28, 2, 29, 14, 24, 3, 30, 22, 20, 15, 25, 17, 4, 8, 31, 27, 13, 23, 21, 19, 16, 7, 26, 12, 18, 6, 11, 5, 10, 9]
def tab32V : Array Value := (tab32.map (Value.int .u8)).toArray
def tab64 : List Int := [0, 1, 56, 2, 57, 49, 28, 3, 61, 58, 42, 50, 38, 29, 17, 4, 62, 47, 59, 36, 45, 43, 51, 22, 53, 39, 33, 30, 24, 18, 12, 5, 63, 55, 48, 27, 60, 41, 37, 16, 46, 35, 44, 21, 52, 32, 23, 11, 54, 26, 40, 15, 34, 20, 31, 10, 25, 14, 19, 9, 13, 8, 7, 6]
def tab64V : Array Value := (tab64.map (Value.int .u8)).toArray
def tabP10 : List Int := [1, 10, 100, 1000, 10000, 100000, 1000000, 10000000, 100000000, 1000000000, 10000000000, 100000000000, 1000000000000, 10000000000000, 100000000000000, 1000000000000000, 10000000000000000, 100000000000000000, 1000000000000000000, 10000000000000000000]
def tabP10V : Array Value := (tabP10.map (Value.int .u64)).toArray
def putTab (vs : Array Value) : Obj → Obj
  | .cells _ t frozen => .cells vs t frozen
  | o => o
noncomputable def laidW (os : Os) : World :=
  { World.holding Tryz.prog os ⟨#[], #[], []⟩ with heap := (((World.holding Tryz.prog os ⟨#[], #[], []⟩).heap.modify 3 (putTab tab32V)).modify 4 (putTab tab64V)).modify 1 (putTab tabP10V) }
end Go.Proofs.YtfbghcpdinlmcaaGreatDoor
/- Reading arguments: what the form says of them, as typed views. -/
set_option linter.unusedVariables false
set_option linter.unusedSimpArgs false
namespace Go.VC
open Go.Proofs.YtfbghcpdinlmcaaGreatDoor.Rows (uptoBulk uptoBulkAll)
def InW (W : World) (k : Nat) : Prop := k < W.heap.size
def Opens {H : Type} (enc : TypeId × Value → H) (P : Program) (W : World) {α : Type} (T : Ty α) (sz : α → Nat) (t : TypeId) : Prop :=
  ∀ fuel cs d ps, DataW.trod enc P W 0 (fun _ => true) true fuel t cs = some (d, ps) → ∃ x, T.rep (InW W) W.heap cs x ∧ sz x ≤ uptoBulk d
/-- How many values a list bears. -/
def szL {α : Type} (sz : α → Nat) : List α → Nat
  | [] => 1
  | x :: xs => sz x + szL sz xs
theorem szL_snoc {α : Type} (sz : α → Nat) (x : α) : ∀ xs : List α, szL sz (xs ++ [x]) = szL sz xs + sz x
  | [] => by simp [szL]; omega
  | y :: ys => by simp only [List.cons_append, szL, szL_snoc sz x ys]; omega
theorem szL_len {α : Type} {sz : α → Nat} (h : ∀ x, 1 ≤ sz x) : ∀ xs : List α, xs.length + 1 ≤ szL sz xs
  | [] => Nat.le_refl _
  | y :: ys => by have := szL_len h ys; have := h y; simp only [List.length_cons, szL]; omega
theorem szL_mem {α : Type} {sz : α → Nat} {x : α} : ∀ {xs : List α}, x ∈ xs → sz x ≤ szL sz xs
  | [], h => by cases h
  | y :: ys, h => by
    rcases List.mem_cons.1 h with rfl | h
    · simp only [szL]; omega
    · have := szL_mem (sz := sz) h; simp only [szL]; omega
theorem bulkAll_snoc {H : Type} (d : DataW H) : ∀ ds : List (DataW H), uptoBulkAll (ds ++ [d]) = uptoBulkAll ds + uptoBulk d
  | [] => by simp [uptoBulkAll]
  | y :: ys => by simp only [List.cons_append, uptoBulkAll, bulkAll_snoc d ys]; omega
section
variable {H : Type} {enc : TypeId × Value → H} {P : Program} {W : World} {t e : TypeId}
theorem opens_int {k : IntKind} (ht : P.underlying t = some (.int k)) : Opens enc P W (tInt k) (fun _ => 1) t := by
  intro fuel cs d ps h
  obtain ⟨n, rfl, hd, hw⟩ := DataW.trod_int ht h
  cases hd
  simp only [Lit.wf, Bool.and_eq_true, decide_eq_true_eq] at hw
  exact ⟨n, ⟨rfl, hw⟩, by simp [uptoBulk]⟩
theorem opens_bool (ht : P.underlying t = some .bool) : Opens enc P W tBool (fun _ => 1) t := by
  intro fuel cs d ps h
  obtain ⟨b, rfl, hd⟩ := DataW.trod_bool ht h
  cases hd
  exact ⟨b, rfl, by simp [uptoBulk]⟩
theorem cells_get {a : Addr} {n : Nat} {cs : List Value} (h : W.cells? 0 a n = some cs) (hn : 0 < n) : cs.length = n ∧ a.spot = none ∧ a.block < W.heap.size ∧ Cells W.heap a.block a.off cs := by
  unfold World.cells? at h
  rw [if_pos (Nat.zero_le _)] at h
  have hl := mapM_some_length h
  rw [List.length_range] at hl
  have hg : ∀ j, j < n → W.cell? (a.add j) = cs[j]? := fun j hj => mapM_some_get h j j (by simp [hj])
  obtain ⟨v0, hv0⟩ : ∃ v, cs[0]? = some v := ⟨cs[0]'(by omega), List.getElem?_eq_getElem (by omega)⟩
  have h0 := hg 0 hn
  rw [hv0] at h0
  have hsp : a.spot = none := by
    cases hs : a.spot with
    | none => rfl
    | some x =>
      unfold World.cell? at h0
      split at h0
      · simp [Addr.add, hs] at h0
      · cases h0
  refine ⟨hl, hsp, ?_, fun j v hv => ?_⟩
  · unfold World.cell? at h0
    split at h0
    · rename_i he
      exact (Array.getElem?_eq_some_iff.1 he).1
    · cases h0
  · have hj := (List.getElem?_eq_some_iff.1 hv).1
    have := hg j (by omega)
    rw [hv] at this
    rw [← cell_w]
    obtain ⟨b, o, sp⟩ := a
    simp only at hsp
    subst hsp
    rw [Addr.add_mid] at this
    exact this
theorem opens_slice {α : Type} {T : Ty α} {sz : α → Nat} (ht : P.underlying t = some (.slice e)) (hc : P.cellsOf e = T.size) (h0 : 0 < T.size) (he : Opens enc P W T sz e) : Opens enc P W (tSl T) (szL sz) t := by
  intro fuel cs d ps h
  rcases DataW.trod_slice ht h with ⟨rfl, hd⟩ | ⟨a, len, cap, elems, rest, n, rfl, rfl, hd, -, hl, hm, hel, hget, hsp, -⟩
  · cases hd
    exact ⟨[], ⟨none, 0, rfl, rfl, rfl⟩, by simp [szL, uptoBulk]⟩
  · cases hd
    obtain ⟨hrl, hrest⟩ := hsp rfl
    rw [hc] at hget hrest
    by_cases hcap : cap = 0
    · obtain rfl : len = 0 := by omega
      exact ⟨[], ⟨some a, cap, rfl, by simp, hm, .inl hcap⟩, by simp [szL, uptoBulk]⟩
    · have hsb : a.spot = none ∧ a.block < W.heap.size := by
        have key : ∀ y, (W.cells? 0 (a.add (0 * T.size)) T.size).bind (DataW.trod enc P W 0 (fun _ => true) true n e) = some y → a.spot = none ∧ a.block < W.heap.size := by
          intro y hy
          obtain ⟨c, hc1, hc2⟩ := Option.bind_eq_some_iff.1 hy
          obtain ⟨g1, g2, g3, g4⟩ := cells_get hc1 h0
          rw [Nat.zero_mul] at g2 g3
          unfold Addr.add at g2 g3
          split at g2 <;> simp_all
        by_cases hil : 0 < len
        · exact key _ ((hget 0 hil).trans (List.getElem?_eq_getElem (by omega)))
        · have := hrest 0 (by omega)
          rw [show len + 0 = 0 by omega] at this
          exact key _ (this.trans (List.getElem?_eq_getElem (by omega)))
      obtain ⟨b, o, sp⟩ := a
      obtain ⟨rfl, hb⟩ := hsb
      have build : ∀ m, m ≤ len → ∃ ec xs, xs.length = m ∧ Cells W.heap b o ec ∧ T.reps (InW W) W.heap ec xs ∧ szL sz xs ≤ uptoBulkAll ((elems.take m).map (·.1)) + 1 := by
        intro m
        induction m with
        | zero => exact fun _ => ⟨[], [], rfl, (fun j v hv => by simp at hv), rfl, by simp [szL]⟩
        | succ m ih =>
          intro hm'
          obtain ⟨ec, xs, h1, h2, h3, hz⟩ := ih (by omega)
          have hy : elems[m]? = some (elems[m]'(by omega)) := List.getElem?_eq_getElem (by omega)
          obtain ⟨c, h4, hc2⟩ := Option.bind_eq_some_iff.1 ((hget m (by omega)).trans hy)
          obtain ⟨x, h5, hzx⟩ := he n c _ _ hc2
          obtain ⟨g1, g2, g3, g4⟩ := cells_get h4 h0
          rw [Addr.add_mid] at g4
          have hel := Ty.reps_len h3
          refine ⟨ec ++ c, xs ++ [x], by simp [h1], fun j v hv => ?_, Ty.reps_snoc h3 h5, ?_⟩
          · by_cases hj : j < ec.length
            · rw [List.getElem?_append_left hj] at hv
              exact h2 j v hv
            · rw [List.getElem?_append_right (by omega)] at hv
              have := g4 _ v hv
              simp only at this
              rw [show o + m * T.size + (j - ec.length) = o + j by rw [hel, h1] at *; omega] at this
              exact this
          · rw [szL_snoc, List.take_add_one, hy, Option.toList_some, List.map_append, List.map_singleton, bulkAll_snoc]
            refine Nat.le_trans (Nat.add_le_add hz hzx) ?_
            rw [Nat.add_right_comm]
            exact Nat.le_refl _
      obtain ⟨ec, xs, h1, h2, h3, hz⟩ := build len (Nat.le_refl _)
      rw [List.take_of_length_le (by omega)] at hz
      refine ⟨xs, ⟨_, cap, by rw [h1], SlD.intro hb (by omega) hm h2 h3⟩, ?_⟩
      simp only [uptoBulk]
      omega
end

end Go.VC
/- Sets as arguments. -/
set_option linter.unusedVariables false
set_option linter.unusedSimpArgs false
set_option maxRecDepth 100000
namespace Go.Proofs.YtfbghcpdinlmcaaGreatDoor
open Go.VC Go
def ofWd (a b c d : Nat) : BitVec 256 := BitVec.ofNat 256 (a + 2 ^ 64 * (b + 2 ^ 64 * (c + 2 ^ 64 * d)))
theorem wd_of {a b c d : Nat} (ha : a < 2 ^ 64) (hb : b < 2 ^ 64) (hc : c < 2 ^ 64) (hd : d < 2 ^ 64) : wd (ofWd a b c d) 0 = a ∧ wd (ofWd a b c d) 1 = b ∧ wd (ofWd a b c d) 2 = c ∧ wd (ofWd a b c d) 3 = d := by
  have h : (ofWd a b c d).toNat = a + 2 ^ 64 * (b + 2 ^ 64 * (c + 2 ^ 64 * d)) := by
    unfold ofWd
    rw [BitVec.toNat_ofNat]
    exact Nat.mod_eq_of_lt (by omega)
  unfold wd
  simp only [h, Nat.shiftRight_eq_div_pow]
  refine ⟨?_, ?_, ?_, ?_⟩ <;> omega

theorem opens_set {H : Type} {enc : TypeId × Value → H} {P : Program} {W : World} {t e : TypeId} (ht : P.underlying t = some (.array 4 e)) (he : P.underlying e = some (.int .u64)) (hc : P.cellsOf e = 1) (h4 : P.cellsOf t = 4) : Opens enc P W tSet (fun _ => 1) t := by
  intro fuel cs d ps h
  obtain ⟨xs, m, rfl, hd, hl, hx, hg⟩ := DataW.trod_array ht h
  cases hd
  rw [h4] at hl
  rw [hc] at hg
  match cs, hl with
  | [c0, c1, c2, c3], _ =>
    have one : ∀ (i : Nat) (c : Value), i < 4 → ([c0, c1, c2, c3].drop (i * 1)).take 1 = [c] → ∃ n : Nat, c = .int .u64 (n : Int) ∧ n < 2 ^ 64 := by
      intro i c hi hd
      have := hg i hi
      rw [hd, List.getElem?_eq_getElem (by omega)] at this
      obtain ⟨n, h1, -, hw⟩ := DataW.trod_int he this
      cases h1
      simp only [Lit.wf, Bool.and_eq_true, decide_eq_true_eq] at hw
      have m0 : IntKind.u64.min = 0 := rfl
      have m1 : IntKind.u64.max = 18446744073709551615 := rfl
      obtain ⟨k, rfl⟩ := Int.eq_ofNat_of_zero_le (show 0 ≤ n by omega)
      exact ⟨k, rfl, by omega⟩
    obtain ⟨n0, rfl, b0⟩ := one 0 c0 (by decide) rfl
    obtain ⟨n1, rfl, b1⟩ := one 1 c1 (by decide) rfl
    obtain ⟨n2, rfl, b2⟩ := one 2 c2 (by decide) rfl
    obtain ⟨n3, rfl, b3⟩ := one 3 c3 (by decide) rfl
    obtain ⟨w0, w1, w2, w3⟩ := wd_of b0 b1 b2 b3
    refine ⟨ofWd n0 n1 n2 n3, ?_, by simp [Rows.uptoBulk]⟩
    show _ = setL _
    unfold setL
    rw [w0, w1, w2, w3]

end Go.Proofs.YtfbghcpdinlmcaaGreatDoor
/- Tables as arguments. -/
set_option linter.unusedVariables false
set_option linter.unusedSimpArgs false
set_option maxRecDepth 100000
namespace Go.Proofs.YtfbghcpdinlmcaaGreatDoor
open Go.VC Go
/-- A table, as it is handed in. -/
structure TableV (W : World) (v : Value) (cells : List (BitVec 256)) (next : List (List Int)) (final : List Bool) : Prop where
  rep : ∃ ca na fa cc nc fc, v = .agg #[.slice ca cells.length cc, .slice na next.length nc, .slice fa final.length fc] ∧ SlD tSet (InW W) W.heap ca cc cells ∧ SlD tRows (InW W) W.heap na nc next ∧ SlD tBool (InW W) W.heap fa fc final
theorem open_table {H : Type} {enc : TypeId × Value → H} {W : World} {base : Nat} {v : Value} {d : DataW H} {ps : List MemPlace} (hval : Value.okWide Tryz.prog W .any base 38 v) (h : DataW.Trod enc Tryz.prog W 0 (fun _ => true) true 38 v d ps) :
    ∃ cells next final, TableV W v cells next final ∧ szL (fun _ => 1) cells + szL (szL fun _ => 1) next + szL (fun _ => 1) final ≤ Rows.uptoBulk d := by
  obtain ⟨fuel, h⟩ := h
  have hu := Tryz.underlying38
  obtain ⟨xs, m, rfl, hd, hl, hx, hg⟩ := DataW.trod_struct hu h
  cases hd
  have h3 : Tryz.prog.cellsOf 38 = 3 := by kernel_rfl
  simp only [Value.okWide, hu] at hval
  obtain ⟨cs, rfl, hsz, -⟩ := hval
  rw [h3] at hsz
  obtain ⟨l⟩ := cs
  match l, hsz with
  | [c0, c1, c2], _ =>
    have k1 : Tryz.prog.cellsOf 34 = 1 := by kernel_rfl
    have k2 : Tryz.prog.cellsOf 35 = 1 := by kernel_rfl
    have k3 : Tryz.prog.cellsOf 36 = 1 := by kernel_rfl
    have hx3 : xs.length = 3 := hx
    match xs, hx3 with
    | [x0, x1, x2], _ =>
      have g0 : DataW.trod enc Tryz.prog W 0 (fun _ => true) true m 34 (List.take (Tryz.prog.cellsOf 34) [c0, c1, c2]) = some x0 := hg 0 _ rfl
      have g1 : DataW.trod enc Tryz.prog W 0 (fun _ => true) true m 35 (List.take (Tryz.prog.cellsOf 35) [c1, c2]) = some x1 := hg 1 _ rfl
      have g2 : DataW.trod enc Tryz.prog W 0 (fun _ => true) true m 36 (List.take (Tryz.prog.cellsOf 36) [c2]) = some x2 := hg 2 _ rfl
      rw [k1] at g0
      rw [k2] at g1
      rw [k3] at g2
      replace g0 : DataW.trod enc Tryz.prog W 0 (fun _ => true) true m 34 [c0] = some x0 := g0
      replace g1 : DataW.trod enc Tryz.prog W 0 (fun _ => true) true m 35 [c1] = some x1 := g1
      replace g2 : DataW.trod enc Tryz.prog W 0 (fun _ => true) true m 36 [c2] = some x2 := g2
      have s1 : Tryz.prog.cellsOf 100 = tSet.size := by kernel_rfl
      have s2 : Tryz.prog.cellsOf 41 = (tSl tI).size := by kernel_rfl
      have s3 : Tryz.prog.cellsOf 4 = tBool.size := by kernel_rfl
      have s4 : Tryz.prog.cellsOf 3 = tI.size := by kernel_rfl
      have s5 : Tryz.prog.cellsOf 99 = 1 := by kernel_rfl
      obtain ⟨cells, ⟨ca, cc, e0, hc⟩, z0⟩ := opens_slice Tryz.underlying34 s1 (by decide) (opens_set Tryz.underlying100 Tryz.underlying99 s5 s1) _ _ _ _ g0
      obtain ⟨next, ⟨na, nc, e1, hn⟩, z1⟩ := opens_slice Tryz.underlying35 s2 (by decide) (opens_slice Tryz.underlying41 s4 (by decide) (opens_int Tryz.underlying3)) _ _ _ _ g1
      obtain ⟨final, ⟨fa, fc, e2, hf⟩, z2⟩ := opens_slice Tryz.underlying36 s3 (by decide) (opens_bool Tryz.underlying4) _ _ _ _ g2
      cases e0; cases e1; cases e2
      refine ⟨cells, next, final, ⟨ca, na, fa, cc, nc, fc, rfl, hc, hn, hf⟩, ?_⟩
      simp only [List.map_cons, List.map_nil, Rows.uptoBulk, Rows.uptoBulkAll]
      omega

end Go.Proofs.YtfbghcpdinlmcaaGreatDoor
/- Closing: a law that returns true and leaves all that was there as it was. -/
set_option linter.unusedVariables false
namespace Go.VC
open Go.ChangeShapes Go.WideShapes Go.ChangeAt Go.RowKit

theorem kept_of_agr {W W' : World} {may : MemPlace → Prop} (he : Env W W') (h : Agr (Old W.heap) W.heap W'.heap) : W.keptBut W' may := by
  refine ⟨he.os, he.output, fun i hi => ?_⟩
  rw [h i hi]
  split <;> simp_all
theorem frozen_of_agr {W W' : World} (h : Agr (Old W.heap) W.heap W'.heap) (a : Addr) (ha : a.block < W.heap.size) : W'.frozen? a = W.frozen? a := by
  unfold World.frozen?
  rw [h a.block ha]
theorem sameAt_of_agr {W W' : World} (h : Agr (Old W.heap) W.heap W'.heap) : ∀ p : MemPlace, p.block < W.heap.size → W.sameAt W' p
  | .cell b o, hb => by
    show W'.cell? ⟨b, o, none⟩ = W.cell? ⟨b, o, none⟩
    rw [cell_w, cell_w]
    exact cell_eq (h b hb)
  | .map b, hb => h b hb
section
variable {H : Type} {enc : TypeId × Value → H} {P : Program}
theorem all_stay {W W' : World} {sp : Nat → Bool} (hl : laidOutB P = true) (ha : Agr (Old W.heap) W.heap W'.heap) : ∀ {ts : List TypeId} {vs : List Value} {ds : List (DataW H)} {ps : List MemPlace}, (∀ t ∈ ts, P.readableRec t = true ∧ t < P.types.size) →
    DataW.TrodAll enc P W 0 (fun _ => true) true ts vs ds ps → (∀ p ∈ ps, p.block < W.heap.size) → (∀ p ∈ ps, sp p.block = true) → DataW.TrodAll enc P W' 0 sp true ts vs ds ps
  | [], vs, ds, ps, _, h, _, _ => by
    obtain ⟨rfl, rfl, rfl⟩ := trodAll_nil h
    exact trodAll_mk0
  | t :: ts, vs, ds, ps, ht, h, hlt, hsp => by
    obtain ⟨v, vs', d, ds', p, q, rfl, rfl, rfl, h1, h2⟩ := trodAll_cons h
    have ht0 := ht t List.mem_cons_self
    exact trodAll_cons_mk (WideElems.Trod_stays hl ht0.1 ht0.2 h1 (fun x hx => sameAt_of_agr ha x (hlt x (List.mem_append_left _ hx))) fun x hx => hsp x (List.mem_append_left _ hx))
      (all_stay hl ha (fun x hx => ht x (List.mem_cons_of_mem _ hx)) h2 (fun x hx => hlt x (List.mem_append_right _ hx)) fun x hx => hsp x (List.mem_append_right _ hx))
theorem trod_b {w : World} {base : Nat} {sp : Nat → Bool} {hd : Bool} {t : TypeId} {b : Bool} (h : P.underlying t = some .bool) : DataW.Trod enc P w base sp hd t (.bool b) (.lit (.bool b)) [] := ⟨1, by simp [DataW.trod, Value.cells, h]⟩
/-- The law has returned true; what was there is as it was. -/
theorem post_true {f : Func} {s : ChangeSpec} {apart fresh handsOn again : Bool} {W W' : World} {args : Array Value} {ds gs : List (DataW H)} {before : List MemPlace} {bt : TypeId}
    (hW : DataW.Whole enc P f.params.toList s.vars apart W args.toList ds gs before) (hv : s.vars = []) (hfn : (s.fn H (ds ++ gs)).results = [.lit (.bool true)] ∧ (s.fn H (ds ++ gs)).args = ds ∧ (s.fn H (ds ++ gs)).vars = [])
    (hl : laidOutB P = true) (hp : f.params.toList.all (fun t => P.readableRec t && decide (t < P.types.size)) = true) (hr : f.resultTypes = #[bt]) (hu : P.underlying bt = some .bool)
    (he : Env W W') (ha : Agr (Old W.heap) W.heap W'.heap) : s.post enc P f apart fresh handsOn again W args (.bool true) W' := by
  have hlt := hW.lt
  have hW' := hW
  obtain ⟨pa, pv, hA, hV, hbe, hz, hn⟩ := hW
  rw [hv] at hV
  obtain ⟨rfl, rfl⟩ := trodVars_none hV
  rw [List.append_nil] at hbe
  subst hbe
  obtain ⟨hres, hargs, hvars⟩ := hfn
  have hk : W.keptBut W' (fun _ => False) := kept_of_agr he ha
  have hpp : ∀ t ∈ f.params.toList, P.readableRec t = true ∧ t < P.types.size := fun t ht => by
    have := List.all_eq_true.1 hp t ht
    simpa using this
  have hst : ∀ sp : Nat → Bool, (∀ p ∈ before, sp p.block = true) → DataW.TrodAll enc P W' 0 sp true f.params.toList args.toList (s.fn H (ds ++ [])).args before := fun sp hsp => by
    rw [hargs]; exact all_stay hl ha hpp hA hlt hsp
  have hrs : ∀ (b : Nat) (sp : Nat → Bool) (hd : Bool), DataW.TrodAll enc P W' b sp hd f.resultTypes.toList ((Value.bool true).resultList f.resultTypes.size) (s.fn H (ds ++ [])).results [] := fun b sp hd => by
    rw [hres, hr]; exact trodAll_mk1 (trod_b hu)
  have hvs : ∀ sp : Nat → Bool, DataW.TrodVars enc P W' sp s.vars (s.fn H (ds ++ [])).vars [] := fun sp => by
    rw [hvars, hv]; rfl
  have hok : ∀ (j : Nat) (t : TypeId) (r : Value), f.resultTypes[j]? = some t → ((Value.bool true).resultList f.resultTypes.size)[j]? = some r → Value.okWide P W' .any 0 t r := ok_one hr rfl (okWide_bool_mk hu true)
  refine ⟨ds, [], before, [], before, [], hW', hrs _ _ _, hst _ (fun p hp => decide_eq_true (hlt p hp)), hvs _, World.keptBut_mono (fun p hp => hp.elim) hk, fun _ => ?_⟩
  refine ⟨hok, _, _, ([] ++ before) ++ [], ⟨[] ++ before, [], trodAll_append (hst _ (fun _ _ => rfl)) (hrs _ _ _), hvs _, rfl, ?_, ?_⟩, ?_⟩
  · intro b off hp
    simp only [List.nil_append, List.append_nil] at hp
    rw [frozen_of_agr ha _ (hlt _ hp)]
    exact hz b off hp
  · intro hap
    have := hn hap
    simpa using this
  · intro p hp _
    simpa using hp
end

end Go.VC
/- A table that is handed in, small enough. -/
set_option linter.unusedVariables false
set_option maxRecDepth 100000
namespace Go.Proofs.YtfbghcpdinlmcaaGreatDoor
open Go.VC
theorem own_ : ownKnob Tryz.prog.godebug = none := by kernel_rfl
theorem laid_ : laidOutB Tryz.prog = true := by kernel_rfl
theorem tabIn_of {W : World} {v : Value} {cells : List (BitVec 256)} {next : List (List Int)} {final : List Bool} (h : TableV W v cells next final) (hb : szL (fun _ => 1) cells + szL (szL fun _ => 1) next + szL (fun _ => 1) final ≤ 1048576) : TabIn (InW W) W.heap v cells next final := by
  obtain ⟨ca, na, fa, cc, nc, fc, rfl, h1, h2, h3⟩ := h
  have b1 := szL_len (sz := fun _ : BitVec 256 => 1) (fun _ => Nat.le_refl _) cells
  have b2 := szL_len (sz := szL fun _ : Int => 1) (fun x => by have := szL_len (sz := fun _ : Int => 1) (fun _ => Nat.le_refl _) x; omega) next
  have b3 := szL_len (sz := fun _ : Bool => 1) (fun _ => Nat.le_refl _) final
  refine ⟨fun k hk => hk, ⟨ca, na, fa, cc, nc, fc, rfl, h1, h2, h3⟩, by omega, by omega, fun row hrow => ?_, by omega⟩
  have b4 := szL_mem (sz := szL fun _ : Int => 1) hrow
  have b5 := szL_len (sz := fun _ : Int => 1) (fun _ => Nat.le_refl _) row
  omega
theorem small_of {H : Type} {ds : List (DataW H)} (h : Rows.uptoSmall H ds = true) : Rows.uptoBulkAll ds ≤ 1048576 := by simpa [Rows.uptoSmall] using h
end Go.Proofs.YtfbghcpdinlmcaaGreatDoor
