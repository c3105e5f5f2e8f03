/- nfa.ways, nfa.settle: the walks. -/
import Derived.Test.YtlnmhfhdjnenoaaPNfa2
import Derived.Test.YtlnmhfhdjnenoaaVHeldG
import Derived.Test.YtlnmhfhdjnenoaaPKeyS
import Derived.Test.YtlnmhfhdjnenoaaMDfa
set_option linter.unusedVariables false
set_option linter.unusedSimpArgs false
set_option maxRecDepth 100000
namespace Go.VC
/-- What a call has left as a piece. -/
theorem StB.addSt {B : Nat → Prop} {H0 H H' : Heap} {ps : List Pc} {p : Pc} (st : StB B H0 H ps) (st' : St H H' [p]) : StB B H0 H' (ps ++ [p]) :=
  st.add st'.old p (st'.at_ 0 rfl) fun k hk => ⟨st'.ge 0 rfl hk, (st'.in_ 0 rfl hk).2⟩
end Go.VC
namespace Go.Proofs.Ytlnmhfhdjnenoaa
open Go.VC
theorem mapEd : MapTW Try.prog 88 3 23 (.slice none 0 0) := ⟨rfl, rfl⟩
/-- The edges that leave q. -/
def outP (a : NfM) (q : Int) (e : EdM) : Bool := a.has e.fr && a.has e.to && decide (e.fr = q)
def outTo (a : NfM) (k : Nat) (q : Int) : List EdM := (a.edges.take k).filter (outP a q)
def outE (a : NfM) (q : Int) : List EdM := a.edges.filter (outP a q)
theorem outTo_all (a : NfM) : outTo a a.edges.length = outE a := by funext q; unfold outTo outE; rw [List.take_length]
theorem outTo_len (a : NfM) (k : Nat) (q : Int) : (outTo a k q).length ≤ k := Nat.le_trans (List.length_filter_le _ _) (List.length_take_le _ _)
theorem outTo_yes {a : NfM} {k : Nat} {e : EdM} (he : a.edges[k]? = some e) (h1 : a.has e.fr = true) (h2 : a.has e.to = true) : upd (outTo a k) e.fr (outTo a k e.fr ++ [e]) = outTo a (k + 1) := by
  funext q
  unfold outTo
  rw [take_succ_snoc he, List.filter_append]
  by_cases hq : q = e.fr
  · subst hq
    rw [upd_self]
    simp [outP, h1, h2]
  · rw [upd_ne hq]
    simp [outP, h1, h2, Ne.symm hq]
theorem outTo_no {a : NfM} {k : Nat} {e : EdM} (he : a.edges[k]? = some e) (h : (a.has e.fr && a.has e.to) = false) : outTo a k = outTo a (k + 1) := by
  funext q
  unfold outTo
  rw [take_succ_snoc he, List.filter_append]
  simp [outP, h]
theorem outE_mem {a : NfM} {q : Int} {e : EdM} : e ∈ outE a q ↔ e ∈ a.edges ∧ a.has e.fr = true ∧ a.has e.to = true ∧ e.fr = q := by
  unfold outE outP
  simp [List.mem_filter, and_assoc]
set_option maxHeartbeats 4000000 in
theorem ways_c {S : Nat → Prop} {H : Heap} {v : Value} {a : NfM} (hS : ∀ k, S k → k < H.size) (h : NfV S H v a) :
    FnOk Try.prog 31 #[v] H fun r H' => ∃ mb m, r = .map (some mb) ∧ St H H' [pMQ anyK kI tEd 81 mb m (outE a)] := by
  have hr := h.1
  have hl := h.2.1
  refine FnOk.of_vc Try.func31 rfl (Try.call31 _) ?_
  (conv => whnf); refine nf_box h fun ea ec he h1 => ?_
  subst he
  intro p H1 hp hs1 hb1 ha1
  have st1 := (St.nil H).box hp hs1 hb1 ha1
  (conv => whnf); refine mmakeW (Ok := anyK) (enc := kI) fun mb H2 hb2 hs2 hm2 ha2 => ?_
  have st2 := (st1.mapNewW hb2 hs2 hm2 ha2).mqNew (T := tEd) (e := 81) 1 rfl
  (conv => whnf); refine fa fl25_3 ?_
  (conv => whnf); refine ld1 (v := .slice ea a.edges.length ec) ct23 (by rw [(st2.blk 0 rfl).cell]; rfl) trivial ?_
  (conv => whnf)
  refine VLoop.mk [10] (fun k : Nat => [.int .i64 (k : Int)]) (fun k H5 => k ≤ a.edges.length ∧ ∃ m, St H H5 [pB 25 p (nfL a (.slice ea a.edges.length ec)), pMQ anyK kI tEd 81 mb m (outTo a k)]) (fun k _ => a.edges.length - k) ?_ ?_
  · (conv => whnf)
    exact ⟨0, rfl, Nat.zero_le _, _, st2⟩
  · rintro k H5 junk ⟨hk, m, st⟩
    (conv => whnf); refine VIte.mk (fun hz => ?_) (fun hz => ?_) <;> simp only [decide_eq_true_eq, decide_eq_false_iff_not] at hz
    · obtain ⟨e, he⟩ := get_some (l := a.edges) (k := k) (by omega)
      have hlen := outTo_len a k e.fr
      (conv => whnf); refine VSeq.run ?_
      (conv => whnf); refine ixr (i := k) sl23 (h1.frame (st.old.mono hS)) he rfl ?_
      rintro b6 o6 c6 hS6 hc6 ⟨rfl, hok⟩
      (conv => whnf); refine ldN (cs := edL e) ag81 hc6 trivial ?_
      (conv => whnf); refine valloc _ [.int .i64 0, .int .i64 0, .bool false, .int .u64 0, .int .u64 0, .int .u64 0, .int .u64 0] edge_z rfl ?_
      intro x H6 hx hs6 hb6 ha6
      have st6 := st.box hx hs6 hb6 ha6
      (conv => whnf); refine stNB (cs := edL e) st6 2 rfl rfl (Nat.le_refl _) rfl fun H7 st7 => ?_
      rw [splice_all (show (edL e).length = 7 from rfl)] at st7
      have hbx := st7.blk 2 rfl
      have h17 := h1.frame (st7.old.mono hS)
      (conv => whnf); refine nf_load hr hl (st7.blk 0 rfl) ag25 trivial h17 fun v8 hv8 => ?_
      (conv => whnf); refine fa fl81_0 ?_
      (conv => whnf); refine ld1 (v := .int .i64 e.fr) ct3 (by rw [hbx.cell]; rfl) trivial ?_
      (conv => whnf); refine pures (has_p hv8) fun H8 ha8 => ?_
      have st8 := st7.call ha8
      have skip : ∀ {H' : Heap}, (a.has e.fr && a.has e.to) = false → St H H' [pB 25 p (nfL a (.slice ea a.edges.length ec)), pMQ anyK kI tEd 81 mb m (outTo a k), pB 81 x (edL e)] →
          ∃ y : Nat, [Value.int .i64 ((k : Int) + 1)] = [.int .i64 (y : Int)] ∧ (y ≤ a.edges.length ∧ ∃ m, St H H' [pB 25 p (nfL a (.slice ea a.edges.length ec)), pMQ anyK kI tEd 81 mb m (outTo a y)]) ∧ a.edges.length - y < a.edges.length - k := fun hno st' =>
        ⟨k + 1, by simp, ⟨by omega, m, by rw [← outTo_no he hno]; exact st'.pick [0, 1] (by decide)⟩, by omega⟩
      cases hfr : a.has e.fr with
      | false =>
        (conv => whnf); rw [w64 (x := (k : Int) + 1) (by omega) (by omega)]
        exact ⟨rfl, skip (by rw [hfr]; rfl) st8⟩
      | true =>
        have hb8 := st8.blk 2 rfl
        have h18 := h1.frame (st8.old.mono hS)
        (conv => whnf); refine nf_load hr hl (st8.blk 0 rfl) ag25 trivial h18 fun v9 hv9 => ?_
        (conv => whnf); refine fa fl81_1 ?_
        (conv => whnf); refine ld1 (v := .int .i64 e.to) ct3 (by rw [hb8.cell]; rfl) trivial ?_
        (conv => whnf); refine pures (has_p hv9) fun H9 ha9 => ?_
        have st9 := st8.call ha9
        cases hto : a.has e.to with
        | false =>
          (conv => whnf); rw [w64 (x := (k : Int) + 1) (by omega) (by omega)]
          exact ⟨rfl, skip (by rw [hfr, hto]; rfl) st9⟩
        | true =>
          have hb9 := st9.blk 2 rfl
          obtain ⟨-, -, -, hself⟩ := st9.at_ 1 rfl
          have hbl : x < H9.size ∧ ¬ slB (slAt m e.fr) x := ⟨(st9.in_ 2 rfl rfl).2, fun hs => st9.apart2 (i := 1) (j := 2) rfl rfl (by decide) x (.inr ⟨e.fr, hs⟩) rfl⟩
          (conv => whnf); refine VDraw.heldZ (fun k => k < H9.size ∧ ¬ slB (slAt m e.fr) k) [10] (sq [0,1,2,3,4,5,6,7] (.f 8 (.f 9 (.f 10 .e)))) rfl (by kernel_rfl) ?_
          (conv => whnf); refine fa fl81_0 ?_
          (conv => whnf); refine ld1 (v := .int .i64 e.fr) ct3 (by rw [hb9.cell]; rfl) hbl ?_
          (conv => whnf); refine fa fl81_0 ?_
          (conv => whnf); refine ld1 (v := .int .i64 e.fr) ct3 (by rw [hb9.cell]; rfl) hbl ?_
          (conv => whnf); refine mlookW mapEd keyIW trivial (st9.mqMap 1 rfl) ⟨(st9.in_ 1 rfl (.inl rfl)).2, hself e.fr⟩ ?_
          (conv => whnf); refine ldN (cs := edL e) ag81 (hb9.cells fun j v hv => by rw [Nat.zero_add]; exact hv) hbl ?_
          (conv => whnf); refine vbuild1 sl23 (edL e) rfl rfl (by decide) (by decide) ?_
          intro y H10 hy hs10 hb10 ha10
          refine ⟨ha10.mono fun k hk => by have := hk.1; omega, ?_⟩
          have st10 := (st9.skip hy ha10).mqOut 1 rfl e.fr
          (conv => whnf); refine appQo (ys := [e]) st10 1 sl23 rfl (hb10.cells (o := 0) (cs := edL e) fun j v hv => by rw [Nat.zero_add]; exact hv) (Ty.reps_one ⟨rfl, hok⟩) rfl (fun u hu => List.all_eq_true.1 (ed_ones e) u hu) (by simp; unfold maxLen; omega) (by simp; omega) fun v11 H11 st11 ha11 => ?_
          refine ⟨(ha10.mono fun k hk => by have := hk.1; omega).trans (ha11.mono fun k hk => ⟨by have := hk.1; omega, hk.2⟩), ?_⟩
          (conv => whnf); refine mputQo st11 1 mapEd keyIW trivial rfl fun m' H12 st12 => ?_
          rw [outTo_yes he hfr hto] at st12
          (conv => whnf); rw [w64 (x := (k : Int) + 1) (by omega) (by omega)]
          exact ⟨rfl, k + 1, by simp, ⟨by omega, m', st12.pick [0, 1] (by decide)⟩, by omega⟩
    · obtain rfl : k = a.edges.length := by omega
      rw [outTo_all] at st
      (conv => whnf)
      exact ⟨mb, m, rfl, st.pick [1] (by decide)⟩
/-! ### settle -/
/-- The map of the edges, to be read. -/
structure FromV (B : Nat → Prop) (H0 : Heap) (mb : Nat) (a : NfM) : Prop where
  ex : ∃ m, MapW anyK kI H0 mb m ∧ ∀ q, ∃ ad cap, slAt m q = .slice ad (outE a q).length cap ∧ SlD tEd B H0 ad cap (outE a q)
  at_ : B mb
theorem FromV.ofSt {B : Nat → Prop} {H0 H : Heap} {ps : List Pc} {mb : Nat} {m : Int → Option Value} {a : NfM} (st : StB B H0 H ps) (i : Nat) (hp : ps[i]? = some (pMQ anyK kI tEd 81 mb m (outE a))) : FromV (Old H) H mb a :=
  ⟨⟨m, st.mqMap i hp, fun q => st.mqView i hp q⟩, (st.in_ i hp (.inl rfl)).2⟩
structure StlR (a : NfM) (X : PS) (q : Int) (Y : PS) : Prop where
  sub : ∀ p, X p → Y p
  own : Y q
  new : ∀ p, Y p → X p ∨ Sils a q p
  shut : ∀ p, Y p → ¬ X p → ∀ e ∈ a.edges, e.sil = true → e.fr = p → a.has e.to = true → Y e.to
open Classical in
noncomputable def mss (X : PS) : Nat := (lstS fun p => ¬ X p).length
theorem flt_le {p q : Int → Bool} : ∀ (l : List Int), (∀ x, p x = true → q x = true) → (l.filter p).length ≤ (l.filter q).length
  | [], _ => Nat.le_refl _
  | x :: l, h => by
    have ih := flt_le l h
    cases hp : p x with
    | true => rw [List.filter_cons_of_pos hp, List.filter_cons_of_pos (h x hp), List.length_cons, List.length_cons]; omega
    | false =>
      rw [List.filter_cons_of_neg (by rw [hp]; decide)]
      cases hq : q x with
      | true => rw [List.filter_cons_of_pos hq, List.length_cons]; omega
      | false => rw [List.filter_cons_of_neg (by rw [hq]; decide)]; exact ih
theorem flt_lt {p q : Int → Bool} {y : Int} : ∀ (l : List Int), (∀ x, p x = true → q x = true) → y ∈ l → p y = false → q y = true → (l.filter p).length < (l.filter q).length
  | [], _, hy, _, _ => by cases hy
  | x :: l, h, hy, h1, h2 => by
    have le := flt_le l h
    by_cases hxy : x = y
    · subst hxy
      rw [List.filter_cons_of_neg (by rw [h1]; decide), List.filter_cons_of_pos h2, List.length_cons]; omega
    · have hyl : y ∈ l := by
        rcases List.mem_cons.1 hy with e | e
        · exact absurd e.symm hxy
        · exact e
      have ih := flt_lt l h hyl h1 h2
      cases hp : p x with
      | true => rw [List.filter_cons_of_pos hp, List.filter_cons_of_pos (h x hp), List.length_cons, List.length_cons]; omega
      | false =>
        rw [List.filter_cons_of_neg (by rw [hp]; decide)]
        cases hq : q x with
        | true => rw [List.filter_cons_of_pos hq, List.length_cons]; omega
        | false => rw [List.filter_cons_of_neg (by rw [hq]; decide)]; exact ih
theorem mss_mono {X Y : PS} (h : ∀ p, X p → Y p) : mss Y ≤ mss X := by
  unfold mss lstS
  refine flt_le _ fun p hp => ?_
  simp only [decide_eq_true_eq] at hp ⊢
  exact fun hx => hp (h p hx)
theorem mss_lt {X Y : PS} {q : Int} (h : ∀ p, X p → Y p) (h0 : 0 ≤ q) (h1 : q < 65536) (hx : ¬ X q) (hy : Y q) : mss Y < mss X := by
  unfold mss lstS
  refine flt_lt (y := q) _ (fun p hp => ?_) (List.mem_map.2 ⟨q.toNat, List.mem_range.2 (by omega), by omega⟩) ?_ ?_
  · simp only [decide_eq_true_eq] at hp ⊢
    exact fun hx => hp (h p hx)
  · simp [hy]
  · simp [hx]
theorem dom_put {mm : Int → Option Value} {q : Int} {v : Value} (p : Int) : Dom (put mm q (some v)) p ↔ Dom mm p ∨ p = q := by
  unfold Dom
  by_cases h : p = q
  · subst h; rw [put_self]; simp
  · rw [put_ne h]; simp [h]
set_option maxHeartbeats 4000000 in
theorem settle_c {B : Nat → Prop} {H0 : Heap} {a : NfM} {mb : Nat} (hf : FromV B H0 mb a) (hst : a.st ≤ 65536) :
    ∀ (n : Nat) {H : Heap} {rest : List Pc} {nb : Nat} {mm : Int → Option Value} {q : Int} (st : StB B H0 H (pMW anyK kI nb mm :: rest)), a.has q = true → mss (Dom mm) < n →
      FnOk Try.prog 33 #[.map (some mb), .map (some nb), .int .i64 q] H fun _ H' => ∃ mm', StB B H0 H' (pMW anyK kI nb mm' :: rest) ∧ StlR a (Dom mm) q (Dom mm') := fun n => by
  induction n with
  | zero => intro H rest nb mm q st hq hn; omega
  | succ n ih =>
    intro H rest nb mm q st hq hn
    have hqr := NfM.has_iff.1 hq
    obtain ⟨m, hmap, hview⟩ := hf.ex
    obtain ⟨ad, cap, hsl, hd⟩ := hview q
    refine FnOk.of_vc Try.func33 rfl (Try.call33 _) ?_
    (conv => whnf); refine mlookOkW (a := q) mapII keyIW trivial (st.mapW 0 rfl) trivial ?_
    cases hmq : (mm q).isSome with
    | true =>
      (conv => whnf)
      exact ⟨mm, st, fun p hp => hp, hmq, fun p hp => .inl hp, fun p hp hn => absurd hp hn⟩
    | false =>
      have hnq : ¬ Dom mm q := by unfold Dom; rw [hmq]; decide
      (conv => whnf); refine mputPW (a := q) st 0 mapII keyIW trivial rfl rfl fun H1 st1 => ?_
      (conv => whnf); refine mlookW (a := q) (m := m) mapEd keyIW trivial (hmap.agr st1.old hf.at_) trivial ?_
      have e1 : (m q).getD (.slice none 0 0) = .slice ad (outE a q).length cap := hsl
      rw [e1]
      (conv => whnf)
      refine VLoop.mk [23] (fun k : Nat => [.int .i64 (k : Int)]) (fun k H5 => k ≤ (outE a q).length ∧ ∃ my, StB B H0 H5 (pMW anyK kI nb my :: rest) ∧ (∀ p, Dom mm p → Dom my p) ∧ Dom my q ∧ (∀ p, Dom my p → Dom mm p ∨ Sils a q p) ∧
        (∀ p, Dom my p → ¬ Dom mm p → p ≠ q → ∀ e ∈ a.edges, e.sil = true → e.fr = p → a.has e.to = true → Dom my e.to) ∧ ∀ e ∈ (outE a q).take k, e.sil = true → Dom my e.to) (fun k _ => (outE a q).length - k) ?_ ?_
      · (conv => whnf)
        refine ⟨0, rfl, Nat.zero_le _, _, st1, fun p hp => (dom_put p).2 (.inl hp), (dom_put q).2 (.inr rfl), fun p hp => ?_, fun p hp hno hpq => ?_, fun e he => by cases he⟩
        · rcases (dom_put p).1 hp with h | rfl
          · exact .inl h
          · exact .inr (.refl _)
        · rcases (dom_put p).1 hp with h | h
          · exact absurd h hno
          · exact absurd h hpq
      · rintro k H5 junk ⟨hk, my, st5, hsub, hown, hnew, hshut, hdone⟩
        have hd5 := hd.frame st5.old
        (conv => whnf); refine VIte.mk (fun hz => ?_) (fun hz => ?_) <;> simp only [decide_eq_true_eq, decide_eq_false_iff_not] at hz
        · obtain ⟨e, he⟩ := get_some (l := outE a q) (k := k) (by omega)
          obtain ⟨he1, he2, he3, he4⟩ := outE_mem.1 (List.mem_of_getElem? he)
          have hlen := hd5.le
          unfold maxLen at hlen
          (conv => whnf); refine VSeq.run ?_
          (conv => whnf); refine ixr (i := k) sl23 hd5 he rfl ?_
          rintro b6 o6 c6 hS6 hc6 ⟨rfl, hok⟩
          (conv => whnf); refine ldN (cs := edL e) ag81 hc6 trivial ?_
          (conv => whnf); refine valloc _ [.int .i64 0, .int .i64 0, .bool false, .int .u64 0, .int .u64 0, .int .u64 0, .int .u64 0] edge_z rfl ?_
          intro x H6 hx hs6 hb6 ha6
          have st6 : StB B H0 H6 (pB 81 x _ :: pMW anyK kI nb my :: rest) := (st5.box hx hs6 hb6 ha6).perm (List.perm_append_singleton _ _)
          (conv => whnf); refine stNB (cs := edL e) st6 0 rfl rfl (Nat.le_refl _) rfl fun H7 st7 => ?_
          rw [splice_all (show (edL e).length = 7 from rfl)] at st7
          have hbx := st7.blk 0 rfl
          have st7' : StB B H0 H7 (pMW anyK kI nb my :: rest) := st7.sub (List.sublist_cons_self _ _)
          (conv => whnf); refine fa fl81_2 ?_
          (conv => whnf); refine ld1 (v := .bool e.sil) ct4 (by rw [hbx.cell]; rfl) trivial ?_
          cases hes : e.sil with
          | false =>
            (conv => whnf); rw [w64 (x := (k : Int) + 1) (by omega) (by omega)]
            refine ⟨rfl, k + 1, by simp, ⟨by omega, my, st7', hsub, hown, hnew, hshut, fun e' he' hs' => ?_⟩, by omega⟩
            rw [take_succ_snoc he, List.mem_append, List.mem_singleton] at he'
            rcases he' with he' | rfl
            · exact hdone e' he' hs'
            · rw [hes] at hs'; cases hs'
          | true =>
            (conv => whnf); refine fa fl81_1 ?_
            (conv => whnf); refine ld1 (v := .int .i64 e.to) ct3 (by rw [hbx.cell]; rfl) trivial ?_
            have hlt : mss (Dom my) < n := by
              have := mss_lt hsub hqr.1 (by omega) hnq hown
              omega
            (conv => whnf); refine VCall.mk (ih st7' he3 hlt) ?_
            rintro _ H8 ⟨mz, st8, hz1⟩
            (conv => whnf); rw [w64 (x := (k : Int) + 1) (by omega) (by omega)]
            have hstep : Sils a q e.to := by
              have h0 : Sils a q e.fr := by rw [he4]; exact .refl q
              exact .step h0 he1 hes he3
            refine ⟨rfl, k + 1, by simp, ⟨by omega, mz, st8, fun p hp => hz1.sub p (hsub p hp), hz1.sub q hown, fun p hp => ?_, fun p hp hno hpq => ?_, fun e' he' hs' => ?_⟩, by omega⟩
            · rcases hz1.new p hp with h | h
              · exact hnew p h
              · exact .inr (hstep.trans h)
            · by_cases hy : Dom my p
              · exact fun e' h1 h2 h3 h4 => hz1.sub _ (hshut p hy hno hpq e' h1 h2 h3 h4)
              · exact hz1.shut p hp hy
            · rw [take_succ_snoc he, List.mem_append, List.mem_singleton] at he'
              rcases he' with he' | rfl
              · exact hz1.sub _ (hdone e' he' hs')
              · exact hz1.own
        · obtain rfl : k = (outE a q).length := by omega
          rw [List.take_length] at hdone
          (conv => whnf)
          refine ⟨my, st5, hsub, hown, hnew, fun p hp hno => ?_⟩
          by_cases hpq : p = q
          · subst hpq
            exact fun e h1 h2 h3 h4 => hdone e (outE_mem.2 ⟨h1, by rw [h3]; exact hq, h4, h3⟩) h2
          · exact hshut p hp hno hpq
end Go.Proofs.Ytlnmhfhdjnenoaa
