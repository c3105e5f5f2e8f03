import Derived.Test.YtpnnedkpbmilkaaPFst
import Derived.Test.YtpnnedkpbmilkaaPAmbC
/- The functions that Cat gives to its graph: the walks. -/
set_option linter.unusedVariables false
set_option linter.unusedSimpArgs false
set_option maxRecDepth 100000
namespace Go.Proofs.Ytpnnedkpbmilkaa
open Go.VC
attribute [local irreducible] mRun gRun atRun
/-- A variable of its own that holds an automaton. -/
structure VarA (S : Nat → Prop) (H : Heap) (p : Nat) (o : Option AM) : Prop where
  out : ∃ v, S p ∧ Blk H p 31 [v] ∧ AutoV S H v o
theorem VarA.frame {S : Nat → Prop} {H H' : Heap} {p : Nat} {o : Option AM} (h : VarA S H p o) (k : Agr S H H') : VarA S H' p o := by
  obtain ⟨v, h1, h2, h3⟩ := h
  exact ⟨v, h1, h2.agr k h1, h3.frame k⟩
/-- .. is read. -/
theorem VarA.ld {S S' : Nat → Prop} {H : Heap} {p : Nat} {o : Option AM} {K : Value → Prop} (h : VarA S H p o) (hS : ∀ k, S k → S' k) (k : ∀ v, AutoV S H v o → K v) : VDet Try.prog (Instr.loadAt 31 (.pointer (some ⟨p, 0, none⟩))) S' H K := by
  obtain ⟨v, h1, h2, h3⟩ := h
  exact ld1 (v := v) ct31 (by rw [h2.cell]; rfl) (hS p h1) (k v h3)
theorem ndx0 {H : Heap} {p : Nat} {n : Nd} (h : Blk H p 114 (ndL n)) : VC.cell H p (0 + 0) = some (.int .i64 n.s) := by rw [h.cell]; rfl
theorem ndx1 {H : Heap} {p : Nat} {n : Nd} (h : Blk H p 114 (ndL n)) : VC.cell H p (0 + 1) = some (.int .i64 n.x) := by rw [h.cell]; rfl
theorem ndx2 {H : Heap} {p : Nat} {n : Nd} (h : Blk H p 114 (ndL n)) : VC.cell H p (0 + 2) = some (.int .i64 n.y) := by rw [h.cell]; rfl
theorem nodesR (H : Heap) (t : Nd) : tNd.reps none_ H (ndL t) [t] := Ty.reps_one rfl
/-- A list of one node, as new memory. -/
theorem nodes1 {H H1 H' : Heap} {q : Nat} {t : Nd} {ps : List Pc} (st : St H H1 ps) (hq : q = H1.size) (hs : H'.size = q + 1) (hb : Blk H' q 114 (ndL t)) (ha : Agr (fun k => k < q) H1 H') : St H H' (ps ++ [pS tNd 114 (some ⟨q, 0, none⟩) 1 1 [t]]) :=
  st.new (T := tNd) (n := 1) (xs := [t]) hq hs hb ha (Ty.reps_one rfl) rfl (by decide)

set_option maxHeartbeats 8000000 in
theorem cat1_c {S : Nat → Prop} {H : Heap} {pa pb : Nat} {a b : Option AM} (hS : ∀ k, S k → k < H.size) (ha : VarA S H pa a) (hb : VarA S H pb b) (n : Nd) {c : Nat} (hc : c < 256) :
    FnOk Try.prog 68 #[ndV n, .int .u8 (c : Int), .pointer (some ⟨pa, 0, none⟩), .pointer (some ⟨pb, 0, none⟩)] H fun v H' => Agr (Old H) H H' ∧ SlO tNd none_ H' H.size 114 v (catNext a b n c) := by
  refine FnOk.of_vc Try.func68 rfl (Try.call68 _) ?_
  have hup : ∀ {H' : Heap} {ps : List Pc}, St H H' ps → ∀ k, S k → k < H'.size := fun st k hk => st.up (hS k hk)
  (conv => whnf); refine vbox (ndL n) rfl ?_
  intro p1 H1 hp1 hs1 hb1 ha1
  have st1 := (St.nil H).box hp1 hs1 hb1 ha1
  have q1 := st1.blk 0 rfl
  (conv => whnf); refine fa fl114_0 ?_
  (conv => whnf); refine ld1 ct3 (ndx0 q1) trivial ?_
  by_cases h0 : n.s = 0
  · have d0 : (n.s == 0) = true := by rw [h0]; rfl
    (conv => whnf); rw [d0]
    (conv => whnf); refine (ha.frame (st1.old.mono hS)).ld (fun _ _ => trivial) fun va hva => ?_
    (conv => whnf); refine fa fl114_1 ?_
    (conv => whnf); refine ld1 ct3 (ndx1 q1) trivial ?_
    (conv => whnf); refine pures (step_p (hup st1) hva hc) fun H2 ha2 => ?_
    have st2 := st1.call ha2
    (conv => whnf); refine vbuildS Try.underlying114 rfl (ndV root) node_z (ndL ⟨0, stepM a n.x c, 0⟩) rfl ?_
    (conv => whnf); refine vbuild1 sl115 (ndL ⟨0, stepM a n.x c, 0⟩) rfl rfl (by decide) (by decide) ?_
    intro q3 H3 hq3 hs3 hb3 ha3
    have st3 := nodes1 st2 hq3 hs3 hb3 ha3
    have r3 := st3.blk 0 rfl
    (conv => whnf); refine VSeq.run ?_
    (conv => whnf); refine (ha.frame (st3.old.mono hS)).ld (fun _ _ => trivial) fun va3 hva3 => ?_
    (conv => whnf); refine fa fl114_1 ?_
    (conv => whnf); refine ld1 ct3 (ndx1 r3) trivial ?_
    (conv => whnf); refine pures (final_p hva3) fun H4 ha4 => ?_
    have st4 := st3.call ha4
    cases hf : finM a n.x with
    | false =>
      (conv => whnf)
      refine ⟨st4.old, ?_⟩
      have := St.own st4 1 rfl
      unfold catNext
      rw [if_pos h0, hf]
      exact this
    | true =>
      have r4 := st4.blk 0 rfl
      have hout : ∀ k, S k → k < H4.size ∧ ¬ slB (.slice (some ⟨q3, 0, none⟩) 1 1) k := fun k hk => ⟨hup st4 k hk, fun h => (st4.in_ 1 rfl (.inl h)).1 (hS k hk)⟩
      have d01 := st4.apart (i := 0) (j := 1) (by decide) rfl rfl
      have hp4 : p1 < H4.size ∧ ¬ slB (.slice (some ⟨q3, 0, none⟩) 1 1) p1 := ⟨r4.lt, fun h => d01 p1 rfl (.inl h)⟩
      (conv => whnf); refine VDraw.held (fun k => k < H4.size ∧ ¬ slB (.slice (some ⟨q3, 0, none⟩) 1 1) k) 12 (sq [0,1,2,4,5,6,7] (.f 3 (.f 8 (sq [9] (.f 10 (.f 11 (.f 12 .e))))))) rfl (by kernel_rfl) ?_
      (conv => whnf); refine (hb.frame (st4.old.mono hS)).ld hout fun vb4 hvb4 => ?_
      (conv => whnf); refine (ha.frame (st4.old.mono hS)).ld hout fun va4 hva4 => ?_
      (conv => whnf); refine fa fl114_1 ?_
      (conv => whnf); refine ld1 ct3 (ndx1 r4) hp4 ?_
      (conv => whnf); refine pures (step_p (q := 0) (hup st4) hvb4 hc) fun H5 ha5 => ?_
      have st5 := st4.call ha5
      refine ⟨ha5.mono fun k hk => hk.1, ?_⟩
      (conv => whnf); refine pures (step_p (hup st5) (hva4.frame (ha5.mono fun k hk => hup st4 k hk)) hc) fun H6 ha6 => ?_
      have st6 := st5.call ha6
      have ha46 : Agr (Old H4) H4 H6 := ha5.trans (ha6.mono fun k hk => old_lt ha5 hk)
      refine ⟨ha46.mono fun k hk => hk.1, ?_⟩
      (conv => whnf); refine vbuildS Try.underlying114 rfl (ndV root) node_z (ndL ⟨1, stepM b 0 c, stepM a n.x c⟩) rfl ?_
      (conv => whnf); refine vbuild1 sl115 (ndL ⟨1, stepM b 0 c, stepM a n.x c⟩) rfl rfl (by decide) (by decide) ?_
      intro q7 H7 hq7 hs7 hb7 ha7
      have st7 := st6.skip hq7 ha7
      have ha47 : Agr (Old H4) H4 H7 := ha46.trans (ha7.mono fun k hk => by have := old_lt ha46 hk; omega)
      refine ⟨ha47.mono fun k hk => hk.1, ?_⟩
      (conv => whnf); refine appG (ys := [⟨1, stepM b 0 c, stepM a n.x c⟩]) (ds := ndL ⟨1, stepM b 0 c, stepM a n.x c⟩) st7 1 sl115 rfl (hb7.cells fun j v hv => by rw [Nat.zero_add]; exact hv) (nodesR _ _) rfl (by simp [ndL, Value.oneCell']) (by simp only [List.length_singleton]; decide) (by simp only [List.length_singleton]; decide) fun a' c' H8 st8 ha8 => ?_
      refine ⟨(ha47.mono fun k hk => hk.1).trans (ha8.mono fun k hk => ⟨old_lt ha47 hk.1, hk.2⟩), ?_⟩
      (conv => whnf)
      refine ⟨st8.old, ?_⟩
      have := St.own st8 1 rfl
      unfold catNext
      rw [if_pos h0, hf]
      exact this
  · have d0 : (n.s == 0) = false := beq_eq_false_iff_ne.2 h0
    (conv => whnf); rw [d0]
    by_cases h1 : n.s = 1
    · have d1 : (n.s == 1) = true := by rw [h1]; rfl
      (conv => whnf); rw [d1]
      (conv => whnf); refine VDraw.held (Old H1) 12 (sq [0,1,2,3,5,6,7,8] (.f 4 (.f 9 (sq [10] (.f 11 (.f 12 .e)))))) rfl (by kernel_rfl) ?_
      (conv => whnf); refine (hb.frame (st1.old.mono hS)).ld (hup st1) fun vb hvb => ?_
      (conv => whnf); refine fa fl114_1 ?_
      (conv => whnf); refine ld1 ct3 (ndx1 q1) q1.lt ?_
      (conv => whnf); refine (ha.frame (st1.old.mono hS)).ld (hup st1) fun va hva => ?_
      (conv => whnf); refine fa fl114_2 ?_
      (conv => whnf); refine ld1 ct3 (ndx2 q1) q1.lt ?_
      (conv => whnf); refine pures (step_p (hup st1) hvb hc) fun H2 ha2 => ?_
      have st2 := st1.call ha2
      refine ⟨ha2, ?_⟩
      (conv => whnf); refine pures (step_p (hup st2) (hva.frame (ha2.mono fun k hk => hup st1 k hk)) hc) fun H3 ha3 => ?_
      have st3 := st2.call ha3
      have ha13 : Agr (Old H1) H1 H3 := ha2.trans (ha3.mono fun k hk => old_lt ha2 hk)
      refine ⟨ha13, ?_⟩
      (conv => whnf); refine vbuildS Try.underlying114 rfl (ndV root) node_z (ndL ⟨1, stepM b n.x c, stepM a n.y c⟩) rfl ?_
      (conv => whnf); refine vbuild1 sl115 (ndL ⟨1, stepM b n.x c, stepM a n.y c⟩) rfl rfl (by decide) (by decide) ?_
      intro q4 H4 hq4 hs4 hb4 ha4
      have st4 := nodes1 st3 hq4 hs4 hb4 ha4
      refine ⟨ha13.trans (ha4.mono fun k hk => by have := old_lt ha13 hk; omega), ?_⟩
      have r4 := st4.blk 0 rfl
      (conv => whnf); refine VSeq.run ?_
      (conv => whnf); refine (ha.frame (st4.old.mono hS)).ld (fun _ _ => trivial) fun va4 hva4 => ?_
      (conv => whnf); refine fa fl114_2 ?_
      (conv => whnf); refine ld1 ct3 (ndx2 r4) trivial ?_
      (conv => whnf); refine pures (final_p hva4) fun H5 ha5 => ?_
      have st5 := st4.call ha5
      cases hf : finM a n.y with
      | false =>
        (conv => whnf)
        refine ⟨st5.old, ?_⟩
        have := St.own st5 1 rfl
        unfold catNext
        rw [if_neg h0, if_pos h1, hf]
        exact this
      | true =>
        have r5 := st5.blk 0 rfl
        have hout : ∀ k, S k → k < H5.size ∧ ¬ slB (.slice (some ⟨q4, 0, none⟩) 1 1) k := fun k hk => ⟨hup st5 k hk, fun h => (st5.in_ 1 rfl (.inl h)).1 (hS k hk)⟩
        have d01 := st5.apart (i := 0) (j := 1) (by decide) rfl rfl
        have hp5 : p1 < H5.size ∧ ¬ slB (.slice (some ⟨q4, 0, none⟩) 1 1) p1 := ⟨r5.lt, fun h => d01 p1 rfl (.inl h)⟩
        (conv => whnf); refine VDraw.held (fun k => k < H5.size ∧ ¬ slB (.slice (some ⟨q4, 0, none⟩) 1 1) k) 12 (sq [0,1,2,3,4,6,7] (.f 5 (.f 8 (sq [9] (.f 10 (.f 11 (.f 12 .e))))))) rfl (by kernel_rfl) ?_
        (conv => whnf); refine (hb.frame (st5.old.mono hS)).ld hout fun vb5 hvb5 => ?_
        (conv => whnf); refine fa fl114_1 ?_
        (conv => whnf); refine ld1 ct3 (ndx1 r5) hp5 ?_
        (conv => whnf); refine (hb.frame (st5.old.mono hS)).ld hout fun vb5' hvb5' => ?_
        (conv => whnf); refine pures (step_p (hup st5) hvb5 hc) fun H6 ha6 => ?_
        have st6 := st5.call ha6
        refine ⟨ha6.mono fun k hk => hk.1, ?_⟩
        (conv => whnf); refine pures (step_p (q := 0) (hup st6) (hvb5'.frame (ha6.mono fun k hk => hup st5 k hk)) hc) fun H7 ha7 => ?_
        have st7 := st6.call ha7
        have ha57 : Agr (Old H5) H5 H7 := ha6.trans (ha7.mono fun k hk => old_lt ha6 hk)
        refine ⟨ha57.mono fun k hk => hk.1, ?_⟩
        (conv => whnf); refine vbuildS Try.underlying114 rfl (ndV root) node_z (ndL ⟨2, stepM b n.x c, stepM b 0 c⟩) rfl ?_
        (conv => whnf); refine vbuild1 sl115 (ndL ⟨2, stepM b n.x c, stepM b 0 c⟩) rfl rfl (by decide) (by decide) ?_
        intro q8 H8 hq8 hs8 hb8 ha8
        have st8 := st7.skip hq8 ha8
        have ha58 : Agr (Old H5) H5 H8 := ha57.trans (ha8.mono fun k hk => by have := old_lt ha57 hk; omega)
        refine ⟨ha58.mono fun k hk => hk.1, ?_⟩
        (conv => whnf); refine appG (ys := [⟨2, stepM b n.x c, stepM b 0 c⟩]) (ds := ndL ⟨2, stepM b n.x c, stepM b 0 c⟩) st8 1 sl115 rfl (hb8.cells fun j v hv => by rw [Nat.zero_add]; exact hv) (nodesR _ _) rfl (by simp [ndL, Value.oneCell']) (by simp only [List.length_singleton]; decide) (by simp only [List.length_singleton]; decide) fun a' c' H9 st9 ha9 => ?_
        refine ⟨(ha58.mono fun k hk => hk.1).trans (ha9.mono fun k hk => ⟨old_lt ha58 hk.1, hk.2⟩), ?_⟩
        (conv => whnf)
        refine ⟨st9.old, ?_⟩
        have := St.own st9 1 rfl
        unfold catNext
        rw [if_neg h0, if_pos h1, hf]
        exact this
    · have d1 : (n.s == 1) = false := beq_eq_false_iff_ne.2 h1
      (conv => whnf); rw [d1]
      (conv => whnf); refine VDraw.held (Old H1) 12 (sq [0,1,2,3,5,6,7,8] (.f 4 (.f 9 (sq [10] (.f 11 (.f 12 .e)))))) rfl (by kernel_rfl) ?_
      (conv => whnf); refine (hb.frame (st1.old.mono hS)).ld (hup st1) fun vb hvb => ?_
      (conv => whnf); refine fa fl114_1 ?_
      (conv => whnf); refine ld1 ct3 (ndx1 q1) q1.lt ?_
      (conv => whnf); refine (hb.frame (st1.old.mono hS)).ld (hup st1) fun va hva => ?_
      (conv => whnf); refine fa fl114_2 ?_
      (conv => whnf); refine ld1 ct3 (ndx2 q1) q1.lt ?_
      (conv => whnf); refine pures (step_p (hup st1) hvb hc) fun H2 ha2 => ?_
      have st2 := st1.call ha2
      refine ⟨ha2, ?_⟩
      (conv => whnf); refine pures (step_p (hup st2) (hva.frame (ha2.mono fun k hk => hup st1 k hk)) hc) fun H3 ha3 => ?_
      have st3 := st2.call ha3
      have ha13 : Agr (Old H1) H1 H3 := ha2.trans (ha3.mono fun k hk => old_lt ha2 hk)
      refine ⟨ha13, ?_⟩
      (conv => whnf); refine vbuildS Try.underlying114 rfl (ndV root) node_z (ndL ⟨2, stepM b n.x c, stepM b n.y c⟩) rfl ?_
      (conv => whnf); refine vbuild1 sl115 (ndL ⟨2, stepM b n.x c, stepM b n.y c⟩) rfl rfl (by decide) (by decide) ?_
      intro q4 H4 hq4 hs4 hb4 ha4
      have st4 := nodes1 st3 hq4 hs4 hb4 ha4
      refine ⟨ha13.trans (ha4.mono fun k hk => by have := old_lt ha13 hk; omega), ?_⟩
      (conv => whnf)
      refine ⟨st4.old, ?_⟩
      have := St.own st4 1 rfl
      unfold catNext
      rw [if_neg h0, if_neg h1]
      exact this
set_option maxHeartbeats 8000000 in
theorem cat2_p {S : Nat → Prop} {H : Heap} {pa pb : Nat} {a b : Option AM} (hS : ∀ k, S k → k < H.size) (ha : VarA S H pa a) (hb : VarA S H pb b) (n : Nd) :
    Pure Try.prog 69 #[ndV n, .pointer (some ⟨pb, 0, none⟩), .pointer (some ⟨pa, 0, none⟩)] H (.bool (catEnds a b n)) := by
  refine FnOk.of_vc Try.func69 rfl (Try.call69 _) ?_
  (conv => whnf); refine vbox (ndL n) rfl ?_
  intro p1 H1 hp1 hs1 hb1 ha1
  have st1 := (St.nil H).box hp1 hs1 hb1 ha1
  have q1 := st1.blk 0 rfl
  (conv => whnf); refine fa fl114_0 ?_
  (conv => whnf); refine ld1 ct3 (ndx0 q1) trivial ?_
  by_cases h1 : n.s = 1
  · have d1 : (n.s == 1) = true := by rw [h1]; rfl
    have e : catEnds a b n = (finM b n.x && finM a n.y && finM b 0) := by unfold catEnds; rw [if_pos h1]
    rw [e]
    (conv => whnf); rw [d1]
    (conv => whnf); refine (hb.frame (st1.old.mono hS)).ld (fun _ _ => trivial) fun vb hvb => ?_
    (conv => whnf); refine fa fl114_1 ?_
    (conv => whnf); refine ld1 ct3 (ndx1 q1) trivial ?_
    (conv => whnf); refine pures (final_p hvb) fun H2 ha2 => ?_
    have st2 := st1.call ha2
    have q2 := st2.blk 0 rfl
    cases hf : finM b n.x with
    | false =>
      (conv => whnf)
      exact ⟨rfl, st2.old⟩
    | true =>
      (conv => whnf); refine (ha.frame (st2.old.mono hS)).ld (fun _ _ => trivial) fun va hva => ?_
      (conv => whnf); refine fa fl114_2 ?_
      (conv => whnf); refine ld1 ct3 (ndx2 q2) trivial ?_
      (conv => whnf); refine pures (final_p hva) fun H3 ha3 => ?_
      have st3 := st2.call ha3
      cases hf2 : finM a n.y with
      | false =>
        (conv => whnf)
        exact ⟨rfl, st3.old⟩
      | true =>
        (conv => whnf); refine (hb.frame (st3.old.mono hS)).ld (fun _ _ => trivial) fun vb3 hvb3 => ?_
        (conv => whnf); refine pures (final_p hvb3) fun H4 ha4 => ?_
        have st4 := st3.call ha4
        (conv => whnf)
        exact ⟨rfl, st4.old⟩
  · have d1 : (n.s == 1) = false := beq_eq_false_iff_ne.2 h1
    (conv => whnf); rw [d1]
    by_cases h2 : n.s = 2
    · have d2 : (n.s == 2) = true := by rw [h2]; rfl
      have e : catEnds a b n = (finM b n.x && finM b n.y) := by unfold catEnds; rw [if_neg h1, if_pos h2]
      rw [e]
      (conv => whnf); rw [d2]
      (conv => whnf); refine (hb.frame (st1.old.mono hS)).ld (fun _ _ => trivial) fun vb hvb => ?_
      (conv => whnf); refine fa fl114_1 ?_
      (conv => whnf); refine ld1 ct3 (ndx1 q1) trivial ?_
      (conv => whnf); refine pures (final_p hvb) fun H2 ha2 => ?_
      have st2 := st1.call ha2
      have q2 := st2.blk 0 rfl
      cases hf : finM b n.x with
      | false =>
        (conv => whnf)
        exact ⟨rfl, st2.old⟩
      | true =>
        (conv => whnf); refine (hb.frame (st2.old.mono hS)).ld (fun _ _ => trivial) fun va hva => ?_
        (conv => whnf); refine fa fl114_2 ?_
        (conv => whnf); refine ld1 ct3 (ndx2 q2) trivial ?_
        (conv => whnf); refine pures (final_p hva) fun H3 ha3 => ?_
        have st3 := st2.call ha3
        (conv => whnf)
        exact ⟨rfl, st3.old⟩
    · have d2 : (n.s == 2) = false := beq_eq_false_iff_ne.2 h2
      have e : catEnds a b n = false := by unfold catEnds; rw [if_neg h1, if_neg h2]
      rw [e]
      (conv => whnf); rw [d2]
      (conv => whnf)
      exact ⟨rfl, st1.old⟩
end Go.Proofs.Ytpnnedkpbmilkaa

/- ambig's cut and Cat: the walks. -/
set_option linter.unusedVariables false
set_option linter.unusedSimpArgs false
set_option maxRecDepth 100000
namespace Go.Proofs.Ytpnnedkpbmilkaa
open Go.VC
attribute [local irreducible] mRun gRun atRun
set_option maxHeartbeats 4000000 in
theorem cut_p {S : Nat → Prop} {H : Heap} {va vb : Value} {a b : Option AM} {t : ByteArray} {l r : Nat} (hS : ∀ k, S k → k < H.size) (ha : AutoV S H va a) (hb : AutoV S H vb b) (ht : t.size ≤ 1099511627776) (hlr : l ≤ r) (hr : r ≤ t.size) (hc : CutM a b t r = true) (hlt : ∀ k, l ≤ k → k < r → CutM a b t k = false) :
    Pure Try.prog 71 #[va, vb, .string t, .int .i64 (l : Int)] H (.int .i64 (r : Int)) := by
  refine FnOk.of_vc Try.func71 rfl (Try.call71 _) ?_
  (conv => whnf)
  refine VLoop.mk [3] (fun k : Nat => [.int .i64 (k : Int)]) (fun k H1 => l ≤ k ∧ k ≤ r ∧ St H H1 []) (fun k _ => r - k) ?_ ?_
  · (conv => whnf)
    exact ⟨l, rfl, Nat.le_refl _, hlr, St.nil H⟩
  · rintro k H1 junk ⟨hk, hkr, st1⟩
    have hk' : CutM a b t k = decide (k = r) := by
      by_cases h : k = r
      · subst h; rw [hc]; simp
      · rw [hlt k hk (by omega)]; simp [h]
    have hup : ∀ {H' : Heap} {ps : List Pc}, St H H' ps → ∀ k, S k → k < H'.size := fun st k hk => st.up (hS k hk)
    (conv => whnf); refine vcutSH strT (by omega) (by omega) ?_
    rw [Int.toNat_natCast]
    (conv => whnf); refine pures (accepts_p (hup st1) (ha.frame (st1.old.mono hS)) (by simp only [ByteArray.size_extract, maxLen]; omega)) fun H2 ha2 => ?_
    have st2 := st1.call ha2
    unfold CutM at hk'
    cases h1 : acceptsM a (t.extract 0 k) with
    | false =>
      rw [h1, Bool.false_and] at hk'
      have hne : k ≠ r := fun e => by rw [decide_eq_true e] at hk'; cases hk'
      (conv => whnf); rw [w64 (x := (k : Int) + 1) (by omega) (by omega)]
      exact ⟨rfl, k + 1, rfl, ⟨by omega, by omega, st2⟩, by omega⟩
    | true =>
      rw [h1, Bool.true_and] at hk'
      (conv => whnf); refine vcutSL strT (by omega) (by omega) ?_
      rw [Int.toNat_natCast]
      (conv => whnf); refine pures (accepts_p (hup st2) (hb.frame (st2.old.mono hS)) (by simp only [ByteArray.size_extract, maxLen]; omega)) fun H3 ha3 => ?_
      have st3 := st2.call ha3
      rw [hk']
      by_cases hkr2 : k = r
      · subst hkr2
        rw [decide_eq_true rfl]
        (conv => whnf)
        exact ⟨rfl, st3.old⟩
      · rw [decide_eq_false hkr2]
        (conv => whnf); rw [w64 (x := (k : Int) + 1) (by omega) (by omega)]
        exact ⟨rfl, k + 1, rfl, ⟨by omega, by omega, st3⟩, by omega⟩

theorem AutoV.cells {S : Nat → Prop} {H : Heap} {v : Value} {o : Option AM} (h : AutoV S H v o) : v.cells = [v].toArray ∧ v.oneCell' = true := by
  cases o with
  | none => obtain rfl := h; exact ⟨rfl, rfl⟩
  | some A => obtain ⟨pb, rfl, -⟩ := h; exact ⟨rfl, rfl⟩
theorem graph_z : (Try.prog.info? 112).bind (·.zero) = some (.agg #[.slice none 0 0, .nilFunc, .nilFunc]) := by kernel_rfl
theorem split_z : (Try.prog.info? 80).bind (·.zero) = some (.agg #[.string ⟨#[]⟩, .int .i64 0, .int .i64 0]) := by kernel_rfl
def spL (t : ByteArray) (i j : Nat) : List Value := [.string t, .int .i64 (i : Int), .int .i64 (j : Int)]
set_option maxHeartbeats 8000000 in
theorem cat_c {S : Nat → Prop} {H : Heap} {va vb : Value} {a b : Option AM} (hS : ∀ k, S k → k < H.size) (ha : AutoV S H va a) (hb : AutoV S H vb b) (hca : ∃ ls, CellsOk a ls) (hcb : ∃ ls, CellsOk b ls) :
    FnOk Try.prog 47 #[va, vb] H fun v H' => Agr (Old H) H H' ∧ ∃ t i j ok, v = .tuple #[.agg (spL t i j).toArray, .bool ok] ∧ CatAns a b t i j ok ∧ t.size ≤ 1099511627776 := by
  refine FnOk.of_vc Try.func47 rfl (Try.call47 _) ?_
  have hup : ∀ {H' : Heap} {ps : List Pc}, St H H' ps → ∀ k, S k → k < H'.size := fun st k hk => st.up (hS k hk)
  (conv => whnf); refine vbox [va] ha.cells.1 ?_
  intro p1 H1 hp1 hs1 hb1 ha1
  have st1 := (St.nil H).box hp1 hs1 hb1 ha1
  (conv => whnf); refine vbox [vb] hb.cells.1 ?_
  intro p2 H2 hp2 hs2 hb2 ha2
  have st2 := st1.box hp2 hs2 hb2 ha2
  (conv => whnf); refine valloc _ (spL ⟨#[]⟩ 0 0) split_z rfl ?_
  intro p3 H3 hp3 hs3 hb3 ha3
  have st3 := st2.box hp3 hs3 hb3 ha3
  have va3 : VarA (Old H3) H3 p1 a := ⟨va, (st3.in_ 0 rfl rfl).2, st3.blk 0 rfl, (ha.frame (st3.old.mono hS)).mono (hup st3)⟩
  have vb3 : VarA (Old H3) H3 p2 b := ⟨vb, (st3.in_ 1 rfl rfl).2, st3.blk 1 rfl, (hb.frame (st3.old.mono hS)).mono (hup st3)⟩
  (conv => whnf); refine ld1 (v := va) ct31 (by rw [(st3.blk 0 rfl).cell]; rfl) trivial ?_
  (conv => whnf); refine ld1 (v := vb) ct31 (by rw [(st3.blk 1 rfl).cell]; rfl) trivial ?_
  (conv => whnf); refine vbuild2 sl125 [va] [vb] ha.cells.1 hb.cells.1 rfl rfl (by decide) (by decide) ?_
  intro q4 H4 hq4 hs4 hb4 ha4
  have st4 := st3.skip hq4 ha4
  have ha34 : Agr (Old H3) H3 H4 := ha4.mono fun k hk => by unfold Old at hk; omega
  have hsl : SlD tV (Old H4) H4 (some ⟨q4, 0, none⟩) 2 ([(va, a), (vb, b)].map (·.1)) := SlD.ofBlk hb4 (show q4 < H4.size by omega) ⟨[va], [vb], rfl, rfl, Ty.reps_one rfl⟩ rfl (by decide)
  (conv => whnf); refine VCall.mk (reps_c (S := Old H4) (os := [(va, a), (vb, b)]) (fun k hk => hk) hsl (by simp) (fun x hx => ?_)) ?_
  · rcases List.mem_cons.1 hx with rfl | hx
    · exact ⟨(ha.frame (st4.old.mono hS)).mono (hup st4), hca⟩
    · rw [List.mem_singleton] at hx
      subst hx
      exact ⟨(hb.frame (st4.old.mono hS)).mono (hup st4), hcb⟩
  rintro _ H5 ⟨ha5, hown5⟩
  obtain ⟨a5, c5, rfl, st5⟩ := st4.got ha5 hown5
  have hcell : ∀ o ∈ [a, b], ∀ s ∈ cellsM o, s ∈ allCells [(va, a), (vb, b)] := fun o ho s hs => by
    unfold allCells
    simp only [List.flatMap_cons, List.flatMap_nil, List.append_nil, List.mem_append]
    rcases List.mem_cons.1 ho with rfl | ho
    · exact .inl hs
    · rw [List.mem_singleton] at ho; subst ho; exact .inr hs
  have hcov := reps_cov2 (os := [a, b]) (fun o ho => by
    rcases List.mem_cons.1 ho with rfl | ho
    · exact hca
    · rw [List.mem_singleton] at ho; subst ho; exact hcb) hcell
  have hlt := reps_lt (allCells [(va, a), (vb, b)])
  have hlen := reps_len2 (allCells [(va, a), (vb, b)])
  have hsort := reps_sorted (allCells [(va, a), (vb, b)])
  clear hcell
  rw [List.length_map] at st5 ⊢
  generalize repsM (allCells [(va, a), (vb, b)]) = by_ at *
  (conv => whnf); refine vbuildS Try.underlying112 rfl _ graph_z [.slice a5 by_.length c5, .nilFunc, .nilFunc] rfl ?_
  (conv => whnf); refine vbox [.slice a5 by_.length c5, .nilFunc, .nilFunc] rfl ?_
  intro p6 H6 hp6 hs6 hb6 ha6
  have st6 := st5.box hp6 hs6 hb6 ha6
  (conv => whnf); refine fa fl112_1 ?_
  (conv => whnf); refine st1B st6 4 ct109 rfl (by simp) rfl fun H7 st7 => ?_
  (conv => whnf); refine fa fl112_2 ?_
  (conv => whnf); refine st1B st7 4 ct110 rfl (by simp) rfl fun H8 st8 => ?_
  have hSt : StepOk a := ha.steps
  have hSb : StepOk b := hb.steps
  have hg := cat_ok hSt hSb hlt hlen
  have hcg : ∀ c, c < 256 → ∃ r ∈ by_, r ≤ c ∧ ∀ n, (catG a b).next n r = (catG a b).next n c := fun c hc => by
    obtain ⟨r, hr, hrc, hall⟩ := hcov c hc
    exact ⟨r, hr, hrc, fun n => cat_cov (hall a (by simp)) (hall b (by simp))⟩
  have va8 : VarA (Old H8) H8 p1 a := ⟨va, (st8.in_ 0 rfl rfl).2, st8.blk 0 rfl, (ha.frame (st8.old.mono hS)).mono (hup st8)⟩
  have vb8 : VarA (Old H8) H8 p2 b := ⟨vb, (st8.in_ 1 rfl rfl).2, st8.blk 1 rfl, (hb.frame (st8.old.mono hS)).mono (hup st8)⟩
  have hv8 : GraphV (Old H8) H8 (.pointer (some ⟨p6, 0, none⟩)) (catG a b) by_ := ⟨p6, a5, c5, 68, 69, [], [.pointer (some ⟨p1, 0, none⟩), .pointer (some ⟨p2, 0, none⟩)], [], [.pointer (some ⟨p2, 0, none⟩), .pointer (some ⟨p1, 0, none⟩)], rfl,
    (st8.in_ 4 rfl rfl).2, st8.blk 4 rfl, st8.view 3 rfl, fun H' h' n c _ hc => cat1_c (fun k hk => old_lt h' hk) (va8.frame h') (vb8.frame h') n (hlt c hc), fun H' h' n _ => cat2_p (fun k hk => old_lt h' hk) (va8.frame h') (vb8.frame h') n⟩
  (conv => whnf); refine VCall.mk (first_c (fun k hk => hk) hg hcg hsort hv8) ?_
  rintro _ H9 ⟨ha9, w, ok, rfl, hR, hwl⟩
  have st9 := st8.call ha9
  cases ok with
  | false =>
    obtain ⟨rfl, hno⟩ := hR.2 rfl
    (conv => whnf); refine vbuildS Try.underlying80 rfl _ split_z (spL ⟨#[]⟩ 0 0) rfl ?_
    (conv => whnf); refine stNB (cs := spL ⟨#[]⟩ 0 0) st9 2 rfl rfl (show 0 + 3 ≤ 3 by decide) rfl fun H10 st10 => ?_
    rw [show splice (spL ⟨#[]⟩ 0 0) 0 (spL ⟨#[]⟩ 0 0) = spL ⟨#[]⟩ 0 0 from rfl] at st10
    (conv => whnf); refine ldN (cs := spL ⟨#[]⟩ 0 0) ag80 ((st10.blk 2 rfl).cells fun j v hv => by rw [Nat.zero_add]; exact hv) trivial ?_
    (conv => whnf)
    exact ⟨st10.old, ⟨#[]⟩, 0, 0, false, rfl, ⟨fun h => (by cases h), fun _ => ⟨rfl, rfl, rfl, hno⟩⟩, by decide⟩
  | true =>
    have hw := hR.1 rfl
    obtain ⟨i, j, h1, h2, h3, h4, h5, h6⟩ := two_cuts hw.bytes hw.leads
    have hws : (bA w).size ≤ 1099511627776 := by rw [bA_size]; omega
    (conv => whnf); refine ld1 (v := va) ct31 (by rw [(st9.blk 0 rfl).cell]; rfl) trivial ?_
    (conv => whnf); refine ld1 (v := vb) ct31 (by rw [(st9.blk 1 rfl).cell]; rfl) trivial ?_
    (conv => whnf); refine pures (cut_p (S := S) (l := 0) (r := i) (hup st9) (ha.frame (st9.old.mono hS)) (hb.frame (st9.old.mono hS)) hws (Nat.zero_le _) (by rw [bA_size]; omega) h3 fun k _ hk => h5 k hk) fun H10 ha10 => ?_
    have st10 := st9.call ha10
    (conv => whnf); refine ld1 (v := va) ct31 (by rw [(st10.blk 0 rfl).cell]; rfl) trivial ?_
    (conv => whnf); refine ld1 (v := vb) ct31 (by rw [(st10.blk 1 rfl).cell]; rfl) trivial ?_
    (conv => whnf); rw [w64 (x := (i : Int) + 1) (by omega) (by omega)]
    refine pures (cut_p (S := S) (l := i + 1) (r := j) (hup st10) (ha.frame (st10.old.mono hS)) (hb.frame (st10.old.mono hS)) hws (by omega) (by rw [bA_size]; omega) h4 fun k hk hk2 => h6 k (by omega) hk2) fun H11 ha11 => ?_
    have st11 := st10.call ha11
    (conv => whnf); refine vbuildS Try.underlying80 rfl _ split_z (spL (bA w) i j) rfl ?_
    (conv => whnf); refine stNB (cs := spL (bA w) i j) st11 2 rfl rfl (show 0 + 3 ≤ 3 by decide) rfl fun H12 st12 => ?_
    rw [show splice (spL ⟨#[]⟩ 0 0) 0 (spL (bA w) i j) = spL (bA w) i j from rfl] at st12
    (conv => whnf); refine ldN (cs := spL (bA w) i j) ag80 ((st12.blk 2 rfl).cells fun j v hv => by rw [Nat.zero_add]; exact hv) trivial ?_
    (conv => whnf)
    exact ⟨st12.old, bA w, i, j, true, rfl, ⟨fun _ => ⟨w, rfl, hw, h1, h2, h3, h4, h5, h6⟩, fun h => (by cases h)⟩, hws⟩
end Go.Proofs.Ytpnnedkpbmilkaa

/- ambig's Iter and its functions: the walks. -/
set_option linter.unusedVariables false
set_option linter.unusedSimpArgs false
set_option maxRecDepth 100000
namespace Go.Proofs.Ytpnnedkpbmilkaa
open Go.VC
attribute [local irreducible] mRun gRun atRun
def iv (x : Int) : Value := .int .i64 x
theorem vone (H : Heap) (v : Value) : tV.reps none_ H [v] [v] := Ty.reps_one rfl
set_option maxHeartbeats 4000000 in
theorem moves_c {S : Nat → Prop} {H : Heap} {pa : Nat} {a : Option AM} (hS : ∀ k, S k → k < H.size) (ha : VarA S H pa a) (q : Int) {c : Nat} (hc : c < 256) :
    FnOk Try.prog 72 #[.int .i64 q, .int .u8 (c : Int), .pointer (some ⟨pa, 0, none⟩)] H fun v H' => Agr (Old H) H H' ∧ SlO tV none_ H' H.size 3 v ((moves a q c).map iv) := by
  refine FnOk.of_vc Try.func72 rfl (Try.call72 _) ?_
  have hup : ∀ {H' : Heap} {ps : List Pc}, St H H' ps → ∀ k, S k → k < H'.size := fun st k hk => st.up (hS k hk)
  (conv => whnf); refine ha.ld (fun _ _ => trivial) fun va hva => ?_
  (conv => whnf); refine pures (step_p hS hva hc) fun H1 ha1 => ?_
  have st1 := (St.nil H).call ha1
  (conv => whnf); refine vbuild1 sl35 [iv (stepM a q c)] rfl rfl (by decide) (by decide) ?_
  intro q2 H2 hq2 hs2 hb2 ha2
  have st2 := st1.new (T := tV) (n := 1) (xs := [iv (stepM a q c)]) hq2 hs2 hb2 ha2 (vone _ _) rfl (by decide)
  (conv => whnf); refine VSeq.run ?_
  (conv => whnf); refine (ha.frame (st2.old.mono hS)).ld (fun _ _ => trivial) fun va2 hva2 => ?_
  (conv => whnf); refine pures (final_p hva2) fun H3 ha3 => ?_
  have st3 := st2.call ha3
  cases hf : finM a q with
  | false =>
    (conv => whnf)
    refine ⟨st3.old, ?_⟩
    have := St.own st3 0 rfl
    unfold moves
    rw [hf]
    exact this
  | true =>
    (conv => whnf); refine (ha.frame (st3.old.mono hS)).ld (fun _ _ => trivial) fun va3 hva3 => ?_
    (conv => whnf); refine pures (step_p (q := 0) (hup st3) hva3 hc) fun H4 ha4 => ?_
    have st4 := st3.call ha4
    (conv => whnf); refine vbuild1 sl35 [iv (stepM a 0 c)] rfl rfl (by decide) (by decide) ?_
    intro q5 H5 hq5 hs5 hb5 ha5
    have st5 := st4.skip hq5 ha5
    (conv => whnf); refine appG (ys := [iv (stepM a 0 c)]) (ds := [iv (stepM a 0 c)]) st5 0 sl35 rfl (hb5.cells fun j v hv => by rw [Nat.zero_add]; exact hv) (vone _ _) rfl (by simp [iv, Value.oneCell']) (by simp only [List.length_singleton]; decide) (by simp only [List.length_singleton]; decide) fun a' c' H6 st6 ha6 => ?_
    (conv => whnf)
    refine ⟨st6.old, ?_⟩
    have := St.own st6 0 rfl
    unfold moves
    rw [hf]
    exact this
/-- A variable that holds Iter's moves. -/
structure VarF (S : Nat → Prop) (H : Heap) (p pa : Nat) : Prop where
  in_ : S p
  blk : Blk H p 118 [.func (.func 72) #[] #[.pointer (some ⟨pa, 0, none⟩)]]
theorem VarF.frame {S : Nat → Prop} {H H' : Heap} {p pa : Nat} (h : VarF S H p pa) (k : Agr S H H') : VarF S H' p pa := ⟨h.1, h.2.agr k h.1⟩
def pairs1 (x : Int) (ys : List Int) : List Nd := ys.map fun y => ⟨1, x, y⟩
set_option maxHeartbeats 8000000 in
theorem iter2_c {S : Nat → Prop} {H : Heap} {pa pf : Nat} {a : Option AM} (hS : ∀ k, S k → k < H.size) (ha : VarA S H pa a) (hf : VarF S H pf pa) (n : Nd) {c : Nat} (hc : c < 256) :
    FnOk Try.prog 73 #[ndV n, .int .u8 (c : Int), .pointer (some ⟨pa, 0, none⟩), .pointer (some ⟨pf, 0, none⟩)] H fun v H' => Agr (Old H) H H' ∧ SlO tNd none_ H' H.size 114 v (iterNext a n c) := by
  refine FnOk.of_vc Try.func73 rfl (Try.call73 _) ?_
  have hup : ∀ {H' : Heap} {ps : List Pc}, St H H' ps → ∀ k, S k → k < H'.size := fun st k hk => st.up (hS k hk)
  (conv => whnf); refine vbox (ndL n) rfl ?_
  intro p1 H1 hp1 hs1 hb1 ha1
  have st1 := (St.nil H).box hp1 hs1 hb1 ha1
  have q1 := st1.blk 0 rfl
  (conv => whnf); refine fa fl114_0 ?_
  (conv => whnf); refine ld1 ct3 (ndx0 q1) trivial ?_
  by_cases h0 : n.s = 0
  · have d0 : (n.s == 0) = true := by rw [h0]; rfl
    (conv => whnf); rw [d0]
    (conv => whnf); refine (ha.frame (st1.old.mono hS)).ld (fun _ _ => trivial) fun va hva => ?_
    (conv => whnf); refine fa fl114_1 ?_
    (conv => whnf); refine ld1 ct3 (ndx1 q1) trivial ?_
    (conv => whnf); refine pures (step_p (hup st1) hva hc) fun H2 ha2 => ?_
    have st2 := st1.call ha2
    (conv => whnf); refine vbuildS Try.underlying114 rfl (ndV root) node_z (ndL ⟨0, stepM a n.x c, 0⟩) rfl ?_
    (conv => whnf); refine vbuild1 sl115 (ndL ⟨0, stepM a n.x c, 0⟩) rfl rfl (by decide) (by decide) ?_
    intro q3 H3 hq3 hs3 hb3 ha3
    have st3 := nodes1 st2 hq3 hs3 hb3 ha3
    have r3 := st3.blk 0 rfl
    (conv => whnf); refine VSeq.run ?_
    (conv => whnf); refine (ha.frame (st3.old.mono hS)).ld (fun _ _ => trivial) fun va3 hva3 => ?_
    (conv => whnf); refine fa fl114_1 ?_
    (conv => whnf); refine ld1 ct3 (ndx1 r3) trivial ?_
    (conv => whnf); refine pures (final_p hva3) fun H4 ha4 => ?_
    have st4 := st3.call ha4
    cases hf : finM a n.x with
    | false =>
      (conv => whnf)
      refine ⟨st4.old, ?_⟩
      have := St.own st4 1 rfl
      unfold iterNext
      rw [if_pos h0, hf]
      exact this
    | true =>
      have r4 := st4.blk 0 rfl
      have hout : ∀ k, S k → k < H4.size ∧ ¬ slB (.slice (some ⟨q3, 0, none⟩) 1 1) k := fun k hk => ⟨hup st4 k hk, fun h => (st4.in_ 1 rfl (.inl h)).1 (hS k hk)⟩
      have d01 := st4.apart (i := 0) (j := 1) (by decide) rfl rfl
      have hp4 : p1 < H4.size ∧ ¬ slB (.slice (some ⟨q3, 0, none⟩) 1 1) p1 := ⟨r4.lt, fun h => d01 p1 rfl (.inl h)⟩
      (conv => whnf); refine VDraw.held (fun k => k < H4.size ∧ ¬ slB (.slice (some ⟨q3, 0, none⟩) 1 1) k) 12 (sq [0,1,2,4,5,6,7] (.f 3 (.f 8 (sq [9] (.f 10 (.f 11 (.f 12 .e))))))) rfl (by kernel_rfl) ?_
      (conv => whnf); refine (ha.frame (st4.old.mono hS)).ld hout fun vb4 hvb4 => ?_
      (conv => whnf); refine (ha.frame (st4.old.mono hS)).ld hout fun va4 hva4 => ?_
      (conv => whnf); refine fa fl114_1 ?_
      (conv => whnf); refine ld1 ct3 (ndx1 r4) hp4 ?_
      (conv => whnf); refine pures (step_p (q := 0) (hup st4) hvb4 hc) fun H5 ha5 => ?_
      have st5 := st4.call ha5
      refine ⟨ha5.mono fun k hk => hk.1, ?_⟩
      (conv => whnf); refine pures (step_p (hup st5) (hva4.frame (ha5.mono fun k hk => hup st4 k hk)) hc) fun H6 ha6 => ?_
      have st6 := st5.call ha6
      have ha46 : Agr (Old H4) H4 H6 := ha5.trans (ha6.mono fun k hk => old_lt ha5 hk)
      refine ⟨ha46.mono fun k hk => hk.1, ?_⟩
      (conv => whnf); refine vbuildS Try.underlying114 rfl (ndV root) node_z (ndL ⟨1, stepM a 0 c, stepM a n.x c⟩) rfl ?_
      (conv => whnf); refine vbuild1 sl115 (ndL ⟨1, stepM a 0 c, stepM a n.x c⟩) rfl rfl (by decide) (by decide) ?_
      intro q7 H7 hq7 hs7 hb7 ha7
      have st7 := st6.skip hq7 ha7
      have ha47 : Agr (Old H4) H4 H7 := ha46.trans (ha7.mono fun k hk => by have := old_lt ha46 hk; omega)
      refine ⟨ha47.mono fun k hk => hk.1, ?_⟩
      (conv => whnf); refine appG (ys := [⟨1, stepM a 0 c, stepM a n.x c⟩]) (ds := ndL ⟨1, stepM a 0 c, stepM a n.x c⟩) st7 1 sl115 rfl (hb7.cells fun j v hv => by rw [Nat.zero_add]; exact hv) (nodesR _ _) rfl (by simp [ndL, Value.oneCell']) (by simp only [List.length_singleton]; decide) (by simp only [List.length_singleton]; decide) fun a' c' H8 st8 ha8 => ?_
      refine ⟨(ha47.mono fun k hk => hk.1).trans (ha8.mono fun k hk => ⟨old_lt ha47 hk.1, hk.2⟩), ?_⟩
      (conv => whnf)
      refine ⟨st8.old, ?_⟩
      have := St.own st8 1 rfl
      unfold iterNext
      rw [if_pos h0, hf]
      exact this
  · have d0 : (n.s == 0) = false := beq_eq_false_iff_ne.2 h0
    have hR : iterNext a n c = (moves a n.x c).flatMap fun x => pairs1 x (moves a n.y c) := by
      unfold iterNext pairs1
      rw [if_neg h0]
    rw [hR]
    have hx2 := moves_len (a := a) n.x c
    have hy2 := moves_len (a := a) n.y c
    (conv => whnf); rw [d0]
    (conv => whnf); refine ld1 ct118 (by rw [(hf.frame (st1.old.mono hS)).blk.cell]; rfl) trivial ?_
    (conv => whnf); refine fa fl114_1 ?_
    (conv => whnf); refine ld1 ct3 (ndx1 q1) trivial ?_
    (conv => whnf); refine VCall.mk (moves_c (hup st1) (ha.frame (st1.old.mono hS)) n.x hc) ?_
    rintro _ H2 ⟨ha2, hown2⟩
    obtain ⟨a2, c2, rfl, st2⟩ := st1.got ha2 hown2
    rw [List.length_map] at st2 ⊢
    generalize moves a n.x c = xs at *
    have st3 := st2.nils tNd 114
    (conv => whnf)
    refine VLoop.mk [8, 46] (fun x : Nat × List Nd × Option Addr × Nat => match x with | (i, out, a, c) => [.slice a out.length c, .int .i64 (i : Int)])
      (fun x H4 => x.1 ≤ xs.length ∧ x.2.1 = (xs.take x.1).flatMap (fun x => pairs1 x (moves a n.y c)) ∧ x.2.1.length ≤ 2 * x.1 ∧ St H H4 [pB 114 p1 (ndL n), pS tV 3 a2 xs.length c2 (xs.map iv), pS tNd 114 x.2.2.1 x.2.1.length x.2.2.2 x.2.1]) (fun x _ => xs.length - x.1) ?_ ?_
    · (conv => whnf)
      exact ⟨(0, [], none, 0), rfl, by simp, rfl, by simp, st3⟩
    · rintro ⟨i, out, a4, c4⟩ H4 junk4 ⟨hi, hout, hol, st4⟩
      simp only at hi hout hol st4
      (conv => whnf); refine VIte.mk (fun hz => ?_) (fun hz => ?_) <;> simp only [decide_eq_true_eq, decide_eq_false_iff_not] at hz
      · obtain ⟨x, hx⟩ := get_some (l := xs) (k := i) (by omega)
        have hnext : (xs.take (i + 1)).flatMap (fun x => pairs1 x (moves a n.y c)) = out ++ pairs1 x (moves a n.y c) := by
          rw [hout]; exact take_flat _ hx
        have q4 := st4.blk 0 rfl
        (conv => whnf); refine ixO (j := i) (x := iv x) sl35 st4 1 rfl (by rw [List.getElem?_map, hx]; rfl) rfl fun b5 o5 cs5 hO5 hc5 hr5 => ?_
        obtain rfl := hr5
        (conv => whnf); refine ld1 ct3 hc5.one trivial ?_
        (conv => whnf); refine ld1 ct118 (by rw [(hf.frame (st4.old.mono hS)).blk.cell]; rfl) trivial ?_
        (conv => whnf); refine fa fl114_2 ?_
        (conv => whnf); refine ld1 ct3 (ndx2 q4) trivial ?_
        (conv => whnf); refine VCall.mk (moves_c (hup st4) (ha.frame (st4.old.mono hS)) n.y hc) ?_
        rintro _ H5 ⟨ha5, hown5⟩
        obtain ⟨a5, c5, rfl, st5⟩ := st4.got ha5 hown5
        rw [List.length_map] at st5 ⊢
        generalize moves a n.y c = ys at *
        (conv => whnf)
        refine VLoop.mk [8, 56] (fun x : Nat × List Nd × Option Addr × Nat => match x with | (k, out, a, c) => [.slice a out.length c, .int .i64 (k : Int)])
          (fun y H6 => y.1 ≤ ys.length ∧ y.2.1 = out ++ pairs1 x (ys.take y.1) ∧ St H H6 [pB 114 p1 (ndL n), pS tV 3 a2 xs.length c2 (xs.map iv), pS tNd 114 y.2.2.1 y.2.1.length y.2.2.2 y.2.1, pS tV 3 a5 ys.length c5 (ys.map iv)]) (fun y _ => ys.length - y.1) ?_ ?_
        · (conv => whnf)
          exact ⟨(0, out, a4, c4), rfl, by simp, by simp [pairs1], st5⟩
        · rintro ⟨k, o6, a6, c6⟩ H6 junk6 ⟨hk, ho6, st6⟩
          simp only at hk ho6 st6
          (conv => whnf); refine VIte.mk (fun hz2 => ?_) (fun hz2 => ?_) <;> simp only [decide_eq_true_eq, decide_eq_false_iff_not] at hz2
          · obtain ⟨y, hy⟩ := get_some (l := ys) (k := k) (by omega)
            have hnext2 : out ++ pairs1 x (ys.take (k + 1)) = o6 ++ [⟨1, x, y⟩] := by
              rw [ho6, take_succ_snoc hy]; simp [pairs1]
            have hol6 : o6.length ≤ 2 * i + k := by
              rw [ho6]; simp only [pairs1, List.length_append, List.length_map, List.length_take]; omega
            (conv => whnf); refine ixO (j := k) (x := iv y) sl35 st6 3 rfl (by rw [List.getElem?_map, hy]; rfl) rfl fun b7 o7 cs7 hO7 hc7 hr7 => ?_
            obtain rfl := hr7
            (conv => whnf); refine ld1 ct3 hc7.one trivial ?_
            (conv => whnf); refine vbuildS Try.underlying114 rfl (ndV root) node_z (ndL ⟨1, x, y⟩) rfl ?_
            (conv => whnf); refine vbuild1 sl115 (ndL ⟨1, x, y⟩) rfl rfl (by decide) (by decide) ?_
            intro q8 H8 hq8 hs8 hb8 ha8
            have st8 := st6.skip hq8 ha8
            (conv => whnf); refine appG (ys := [⟨1, x, y⟩]) (ds := ndL ⟨1, x, y⟩) st8 2 sl115 rfl (hb8.cells fun j v hv => by rw [Nat.zero_add]; exact hv) (nodesR _ _) rfl (by simp [ndL, Value.oneCell']) (by simp only [List.length_singleton, maxLen]; omega) (by simp only [List.length_singleton]; omega) fun a' c' H9 st9 ha9 => ?_
            (conv => whnf); rw [w64 (x := (k : Int) + 1) (by omega) (by omega)]
            refine ⟨rfl, (k + 1, o6 ++ [⟨1, x, y⟩], a', c'), by simp, ⟨by simp only; omega, hnext2.symm, ?_⟩, by simp only; omega⟩
            simp only [List.length_append, List.length_singleton]
            exact st9.pick [0, 1, 2, 3] (by decide)
          · obtain rfl : k = ys.length := by omega
            rw [List.take_length] at ho6
            (conv => whnf); rw [w64 (x := (i : Int) + 1) (by omega) (by omega)]
            refine ⟨rfl, (i + 1, o6, a6, c6), by simp, ⟨by simp only; omega, by simp only; rw [hnext, ho6], ?_, st6.pick [0, 1, 2] (by decide)⟩, by simp only; omega⟩
            simp only
            rw [ho6]
            simp only [pairs1, List.length_append, List.length_map]; omega
      · obtain rfl : i = xs.length := by omega
        rw [List.take_length] at hout
        (conv => whnf)
        refine ⟨st4.old, ?_⟩
        have := St.own st4 2 rfl
        rw [hout] at this ⊢
        exact this
set_option maxHeartbeats 4000000 in
theorem iter3_p {S : Nat → Prop} {H : Heap} {pa : Nat} {a : Option AM} (hS : ∀ k, S k → k < H.size) (ha : VarA S H pa a) (n : Nd) :
    Pure Try.prog 74 #[ndV n, .pointer (some ⟨pa, 0, none⟩)] H (.bool (iterEnds a n)) := by
  refine FnOk.of_vc Try.func74 rfl (Try.call74 _) ?_
  (conv => whnf); refine vbox (ndL n) rfl ?_
  intro p1 H1 hp1 hs1 hb1 ha1
  have st1 := (St.nil H).box hp1 hs1 hb1 ha1
  have q1 := st1.blk 0 rfl
  have e : iterEnds a n = (n.s == 1 && finM a n.x && finM a n.y) := rfl
  rw [e]
  (conv => whnf); refine fa fl114_0 ?_
  (conv => whnf); refine ld1 ct3 (ndx0 q1) trivial ?_
  cases h1 : (n.s == 1) with
  | false =>
    (conv => whnf)
    rw [h1]
    (conv => whnf)
    exact ⟨rfl, st1.old⟩
  | true =>
    (conv => whnf)
    rw [h1]
    (conv => whnf); refine (ha.frame (st1.old.mono hS)).ld (fun _ _ => trivial) fun vb hvb => ?_
    (conv => whnf); refine fa fl114_1 ?_
    (conv => whnf); refine ld1 ct3 (ndx1 q1) trivial ?_
    (conv => whnf); refine pures (final_p hvb) fun H2 ha2 => ?_
    have st2 := st1.call ha2
    have q2 := st2.blk 0 rfl
    cases hf : finM a n.x with
    | false =>
      (conv => whnf)
      exact ⟨rfl, st2.old⟩
    | true =>
      (conv => whnf); refine (ha.frame (st2.old.mono hS)).ld (fun _ _ => trivial) fun va hva => ?_
      (conv => whnf); refine fa fl114_2 ?_
      (conv => whnf); refine ld1 ct3 (ndx2 q2) trivial ?_
      (conv => whnf); refine pures (final_p hva) fun H3 ha3 => ?_
      have st3 := st2.call ha3
      (conv => whnf)
      exact ⟨rfl, st3.old⟩
end Go.Proofs.Ytpnnedkpbmilkaa

/- ambig's Iter: the walk. -/
set_option linter.unusedVariables false
set_option linter.unusedSimpArgs false
set_option maxRecDepth 100000
namespace Go.Proofs.Ytpnnedkpbmilkaa
open Go.VC
attribute [local irreducible] mRun gRun atRun
theorem FirstR.uniq {g : Gr} {w v : List Nat} {ok ok' : Bool} (h : FirstR g w ok) (k : FirstR g v ok') : w = v ∧ ok = ok' := by
  cases ok <;> cases ok'
  · exact ⟨(h.2 rfl).1.trans (k.2 rfl).1.symm, rfl⟩
  · have hw := k.1 rfl
    exact absurd hw.1.2.2.1 ((h.2 rfl).2 v hw.1.2.1)
  · have hw := h.1 rfl
    exact absurd hw.1.2.2.1 ((k.2 rfl).2 w hw.1.2.1)
  · exact ⟨(h.1 rfl).uniq (k.1 rfl), rfl⟩
/-- What Iter answers. -/
def IterAns (a : Option AM) (w : List Nat) (ok : Bool) : Prop := (finM a 0 = true → w = [] ∧ ok = true) ∧ (finM a 0 = false → FirstR (iterG a) w ok)
theorem IterAns.uniq {a : Option AM} {w v : List Nat} {ok ok' : Bool} (h : IterAns a w ok) (k : IterAns a v ok') : w = v ∧ ok = ok' := by
  cases hf : finM a 0 with
  | true =>
    obtain ⟨rfl, rfl⟩ := h.1 hf
    obtain ⟨rfl, rfl⟩ := k.1 hf
    exact ⟨rfl, rfl⟩
  | false => exact (h.2 hf).uniq (k.2 hf)
set_option maxHeartbeats 8000000 in
theorem iter_c {S : Nat → Prop} {H : Heap} {va : Value} {a : Option AM} (hS : ∀ k, S k → k < H.size) (ha : AutoV S H va a) (hca : ∃ ls, CellsOk a ls) :
    FnOk Try.prog 48 #[va] H fun v H' => Agr (Old H) H H' ∧ ∃ w ok, v = .tuple #[.string (bA w), .bool ok] ∧ IterAns a w ok ∧ w.length ≤ 1099511627776 := by
  refine FnOk.of_vc Try.func48 rfl (Try.call48 _) ?_
  have hup : ∀ {H' : Heap} {ps : List Pc}, St H H' ps → ∀ k, S k → k < H'.size := fun st k hk => st.up (hS k hk)
  (conv => whnf); refine vbox [va] ha.cells.1 ?_
  intro p1 H1 hp1 hs1 hb1 ha1
  have st1 := (St.nil H).box hp1 hs1 hb1 ha1
  (conv => whnf); refine ld1 (v := va) ct31 (by rw [(st1.blk 0 rfl).cell]; rfl) trivial ?_
  (conv => whnf); refine pures (final_p (q := 0) (ha.frame (st1.old.mono hS))) fun H2 ha2 => ?_
  have st2 := st1.call ha2
  cases hf : finM a 0 with
  | true =>
    (conv => whnf)
    exact ⟨st2.old, [], true, rfl, ⟨fun _ => ⟨rfl, rfl⟩, (fun h => by rw [hf] at h; cases h)⟩, Nat.zero_le _⟩
  | false =>
  (conv => whnf); refine valloc .nilFunc [.nilFunc] rfl rfl ?_
  intro p3 H3 hp3 hs3 hb3 ha3
  have st3 := st2.box hp3 hs3 hb3 ha3
  (conv => whnf); refine st1B st3 1 ct118 rfl (by simp) rfl fun H4 st4 => ?_
  (conv => whnf); refine ld1 (v := va) ct31 (by rw [(st4.blk 0 rfl).cell]; rfl) trivial ?_
  (conv => whnf); refine vbuild1 sl125 [va] ha.cells.1 rfl (by decide) (by decide) ?_
  intro q5 H5 hq5 hs5 hb5 ha5
  have st5 := st4.skip hq5 ha5
  have hsl : SlD tV (Old H5) H5 (some ⟨q5, 0, none⟩) 1 ([(va, a)].map (·.1)) := SlD.ofBlk hb5 (show q5 < H5.size by omega) (Ty.reps_one rfl) rfl (by decide)
  (conv => whnf); refine VCall.mk (reps_c (S := Old H5) (os := [(va, a)]) (fun k hk => hk) hsl (by simp) (fun x hx => ?_)) ?_
  · rw [List.mem_singleton] at hx
    subst hx
    exact ⟨(ha.frame (st5.old.mono hS)).mono (hup st5), hca⟩
  rintro _ H6 ⟨ha6, hown6⟩
  obtain ⟨a6, c6, rfl, st6⟩ := st5.got ha6 hown6
  have hcov := reps_cov2 (os := [a]) (sets := allCells [(va, a)]) (fun o ho => by
    rw [List.mem_singleton] at ho; subst ho; exact hca) fun o ho s hs => by
      rw [List.mem_singleton] at ho; subst ho
      unfold allCells
      simpa using hs
  have hlt := reps_lt (allCells [(va, a)])
  have hlen := reps_len2 (allCells [(va, a)])
  have hsort := reps_sorted (allCells [(va, a)])
  rw [List.length_map] at st6 ⊢
  generalize repsM (allCells [(va, a)]) = by_ at *
  (conv => whnf); refine vbuildS Try.underlying112 rfl _ graph_z [.slice a6 by_.length c6, .nilFunc, .nilFunc] rfl ?_
  (conv => whnf); refine vbox [.slice a6 by_.length c6, .nilFunc, .nilFunc] rfl ?_
  intro p7 H7 hp7 hs7 hb7 ha7
  have st7 := st6.box hp7 hs7 hb7 ha7
  (conv => whnf); refine fa fl112_1 ?_
  (conv => whnf); refine st1B st7 3 ct109 rfl (by simp) rfl fun H8 st8 => ?_
  (conv => whnf); refine fa fl112_2 ?_
  (conv => whnf); refine st1B st8 3 ct110 rfl (by simp) rfl fun H9 st9 => ?_
  have hg := iter_ok ha.steps hlt hlen
  have hcg : ∀ c, c < 256 → ∃ r ∈ by_, r ≤ c ∧ ∀ n, (iterG a).next n r = (iterG a).next n c := fun c hc => by
    obtain ⟨r, hr, hrc, hall⟩ := hcov c hc
    exact ⟨r, hr, hrc, fun n => iter_cov (hall a (by simp))⟩
  have va9 : VarA (Old H9) H9 p1 a := ⟨va, (st9.in_ 0 rfl rfl).2, st9.blk 0 rfl, (ha.frame (st9.old.mono hS)).mono (hup st9)⟩
  have vf9 : VarF (Old H9) H9 p3 p1 := ⟨(st9.in_ 1 rfl rfl).2, st9.blk 1 rfl⟩
  have hv9 : GraphV (Old H9) H9 (.pointer (some ⟨p7, 0, none⟩)) (iterG a) by_ := ⟨p7, a6, c6, 73, 74, [], [.pointer (some ⟨p1, 0, none⟩), .pointer (some ⟨p3, 0, none⟩)], [], [.pointer (some ⟨p1, 0, none⟩)], rfl,
    (st9.in_ 3 rfl rfl).2, st9.blk 3 rfl, st9.view 2 rfl, fun H' h' n c _ hc => iter2_c (fun k hk => old_lt h' hk) (va9.frame h') (vf9.frame h') n (hlt c hc), fun H' h' n _ => iter3_p (fun k hk => old_lt h' hk) (va9.frame h') n⟩
  (conv => whnf); refine VCall.mk (first_c (fun k hk => hk) hg hcg hsort hv9) ?_
  rintro _ H10 ⟨ha10, w, ok, rfl, hR, hwl⟩
  have st10 := st9.call ha10
  (conv => whnf)
  exact ⟨st10.old, w, ok, rfl, ⟨(fun h => by rw [hf] at h; cases h), fun _ => hR⟩, by omega⟩
end Go.Proofs.Ytpnnedkpbmilkaa
