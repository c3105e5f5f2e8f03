/- The law's ints, holds, same: over equal things. -/
import Derived.Test.YtlnmhfhdjnenoaaPNfa6
set_option linter.unusedVariables false
set_option linter.unusedSimpArgs false
set_option maxRecDepth 100000
namespace Go.Proofs.Ytlnmhfhdjnenoaa
open Go.VC
set_option maxHeartbeats 4000000 in
theorem holds04_p {S : Nat → Prop} {H : Heap} {a : Option Addr} {c : Nat} {xs : List Int} {q : Int} (hS : ∀ k, S k → k < H.size) (h : SlD tIk S H a c xs) :
    Pure Try.prog 20 #[.slice a xs.length c, .int .i64 q] H (.bool (decide (q ∈ xs))) := by
  have hle := h.le
  unfold maxLen at hle
  refine FnOk.of_vc Try.func20 rfl (Try.call20 _) ?_
  (conv => whnf)
  refine VLoop.mk [5] (fun i : Nat => [.int .i64 (i : Int)]) (fun i H2 => i ≤ xs.length ∧ Agr (Old H) H H2 ∧ q ∉ xs.take i) (fun i _ => xs.length - i) ?_ ?_
  · (conv => whnf)
    exact ⟨0, rfl, Nat.zero_le _, Agr.refl _ _, by simp⟩
  · rintro i H2 junk ⟨hi, ha, hno⟩
    (conv => whnf); refine VIte.mk (fun hz => ?_) (fun hz => ?_) <;> simp only [decide_eq_true_eq, decide_eq_false_iff_not] at hz
    · obtain ⟨x, hx⟩ := get_some (l := xs) (k := i) (by omega)
      (conv => whnf); refine ixr (i := i) sl47 (h.frame (ha.mono hS)) hx rfl ?_
      rintro b3 o3 c3 hS3 hc3 ⟨rfl, -⟩
      (conv => whnf); refine ld1 ct3 hc3.one trivial ?_
      by_cases he : x = q
      · have d1 : (x == q) = true := by rw [he]; simp
        (conv => whnf); rw [d1]
        (conv => whnf)
        refine ⟨?_, ha⟩
        rw [decide_eq_true (he ▸ List.mem_of_getElem? hx)]
      · have d1 : (x == q) = false := beq_eq_false_iff_ne.2 he
        (conv => whnf); rw [d1]
        (conv => whnf); rw [w64 (x := (i : Int) + 1) (by omega) (by omega)]
        refine ⟨rfl, i + 1, by simp, ⟨by omega, ha, ?_⟩, by omega⟩
        rw [take_succ_snoc hx, List.mem_append, List.mem_singleton]
        rintro (h1 | h1)
        · exact hno h1
        · exact he h1.symm
    · obtain rfl : i = xs.length := by omega
      rw [List.take_length] at hno
      (conv => whnf)
      exact ⟨by rw [decide_eq_false hno], ha⟩
set_option maxHeartbeats 4000000 in
theorem ints04_p {S S2 : Nat → Prop} {H : Heap} {a a2 : Option Addr} {c c2 : Nat} {xs : List Int} (hS : ∀ k, S k → k < H.size) (hS2 : ∀ k, S2 k → k < H.size) (h : SlD tIk S H a c xs) (h2 : SlD tIk S2 H a2 c2 xs) :
    Pure Try.prog 17 #[.slice a xs.length c, .slice a2 xs.length c2] H (.bool true) := by
  have hle := h.le
  unfold maxLen at hle
  refine FnOk.of_vc Try.func17 rfl (Try.call17 _) ?_
  have d1 : ((xs.length : Int) != (xs.length : Int)) = false := by simp
  (conv => whnf); rw [d1]
  (conv => whnf)
  refine VLoop.mk [5] (fun i : Nat => [.int .i64 (i : Int)]) (fun i H2 => i ≤ xs.length ∧ Agr (Old H) H H2) (fun i _ => xs.length - i) ?_ ?_
  · (conv => whnf)
    exact ⟨0, rfl, Nat.zero_le _, Agr.refl _ _⟩
  · rintro i H2 junk ⟨hi, ha⟩
    (conv => whnf); refine VIte.mk (fun hz => ?_) (fun hz => ?_) <;> simp only [decide_eq_true_eq, decide_eq_false_iff_not] at hz
    · obtain ⟨x, hx⟩ := get_some (l := xs) (k := i) (by omega)
      (conv => whnf); refine VDraw.lex rfl (by kernel_rfl) ?_
      (conv => whnf); refine ixr (i := i) sl47 (h.frame (ha.mono hS)) hx rfl ?_
      rintro b3 o3 c3 hS3 hc3 ⟨rfl, -⟩
      (conv => whnf); refine ld1 ct3 hc3.one trivial ?_
      (conv => whnf); refine ixr (i := i) sl47 (h2.frame (ha.mono hS2)) hx rfl ?_
      rintro b4 o4 c4 hS4 hc4 ⟨rfl, -⟩
      (conv => whnf); refine ld1 ct3 hc4.one trivial ?_
      have d2 : (x != x) = false := by simp
      (conv => whnf); rw [d2]
      (conv => whnf); rw [w64 (x := (i : Int) + 1) (by omega) (by omega)]
      exact ⟨rfl, i + 1, by simp, ⟨by omega, ha⟩, by omega⟩
    · (conv => whnf)
      exact ⟨rfl, ha⟩
theorem edDL_set (e : EdM) : ∀ (j : Nat) (v : Value), (funL fun b => e.set.getLsbD b)[j]? = some v → (edDL e)[3 + j]? = some v := by
  intro j v h
  have hj : j < 256 := by have := (List.getElem?_eq_some_iff.1 h).1; rwa [funL_len] at this
  rw [funL_get _ hj] at h
  rw [edDL_bit e hj]
  exact h
set_option maxHeartbeats 8000000 in
theorem same04_p {S S2 : Nat → Prop} {H : Heap} {v w : Value} {a : NfM} (hS : ∀ k, S k → k < H.size) (hS2 : ∀ k, S2 k → k < H.size) (h : NfV S H v a) (h2 : NdV S2 H w a) :
    Pure Try.prog 12 #[v, w] H (.bool true) := by
  have hr := h.1
  have hl := h.2.1
  refine FnOk.of_vc Try.func12 rfl (Try.call12 _) ?_
  (conv => whnf); refine nf_box h fun ea ec he h1 => ?_
  subst he
  intro p H1 hp hs1 hb1 ha1
  have st1 := (St.nil H).box hp hs1 hb1 ha1
  (conv => whnf); refine nd_box (h2.frame (st1.old.mono hS2)) fun fa_ fc hf g1 => ?_
  subst hf
  intro q H2 hq hs2 hb2 ha2
  have st2 := st1.box hq hs2 hb2 ha2
  have g2 : SlD tEdD S2 H2 fa_ fc a.edges := g1.frame (ha2.mono fun k hk => by have := st1.up (hS2 k hk); omega)
  have hB1 := st2.blk 0 rfl
  have hB2 := st2.blk 1 rfl
  have d1 : ∀ x : Int, (x != x) = false := fun x => by simp
  have d2 : ∀ x : Bool, (x != x) = false := fun x => by simp
  (conv => whnf); refine fa fl25_0 ?_
  (conv => whnf); refine ld1 (v := .int .i64 a.st) ct3 (by rw [hB1.cell]; rfl) trivial ?_
  (conv => whnf); refine fa fl34_0 ?_
  (conv => whnf); refine ld1 (v := .int .i64 a.st) ct3 (by rw [hB2.cell]; rfl) trivial ?_
  (conv => whnf); rw [d1]
  (conv => whnf); refine fa fl25_1 ?_
  (conv => whnf); refine ld1 (v := .int .i64 a.start) ct3 (by rw [hB1.cell]; rfl) trivial ?_
  (conv => whnf); refine fa fl34_1 ?_
  (conv => whnf); refine ld1 (v := .int .i64 a.start) ct3 (by rw [hB2.cell]; rfl) trivial ?_
  (conv => whnf); rw [d1]
  (conv => whnf); refine fa fl25_2 ?_
  (conv => whnf); refine ld1 (v := .int .i64 a.fin) ct3 (by rw [hB1.cell]; rfl) trivial ?_
  (conv => whnf); refine fa fl34_2 ?_
  (conv => whnf); refine ld1 (v := .int .i64 a.fin) ct3 (by rw [hB2.cell]; rfl) trivial ?_
  (conv => whnf); rw [d1]
  (conv => whnf); refine fa fl25_3 ?_
  (conv => whnf); refine ld1 (v := .slice ea a.edges.length ec) ct23 (by rw [hB1.cell]; rfl) trivial ?_
  (conv => whnf); refine fa fl34_3 ?_
  (conv => whnf); refine ld1 (v := .slice fa_ a.edges.length fc) ct32 (by rw [hB2.cell]; rfl) trivial ?_
  (conv => whnf); rw [d1]
  (conv => whnf)
  refine VLoop.mk [5] (fun i : Nat => [.int .i64 (i : Int)]) (fun i H3 => i ≤ a.edges.length ∧ St H H3 [pB 25 p (nfL a (.slice ea a.edges.length ec)), pB 34 q (nfL a (.slice fa_ a.edges.length fc))]) (fun i _ => a.edges.length - i) ?_ ?_
  · (conv => whnf)
    exact ⟨0, rfl, Nat.zero_le _, st2⟩
  · rintro i H3 junk ⟨hi, st3⟩
    have hC1 := st3.blk 0 rfl
    have hC2 := st3.blk 1 rfl
    (conv => whnf); refine fa fl34_3 ?_
    (conv => whnf); refine ld1 (v := .slice fa_ a.edges.length fc) ct32 (by rw [hC2.cell]; rfl) trivial ?_
    (conv => whnf); refine VIte.mk (fun hz => ?_) (fun hz => ?_) <;> simp only [decide_eq_true_eq, decide_eq_false_iff_not] at hz
    · obtain ⟨e, he⟩ := get_some (l := a.edges) (k := i) (by omega)
      have u1 : SlD tEd S H3 ea ec a.edges := (h1.frame (st3.old.mono hS))
      have u2 : SlD tEdD S2 H3 fa_ fc a.edges := g1.frame (show Agr S2 H1 H3 from fun k hk => by rw [st3.old k (hS2 k hk), st1.old k (hS2 k hk)])
      (conv => whnf); refine VDraw.heldZ (Old H3) [] (sq [0,1,2,3,4,5,6,7,8,9] (.b 10 (.f 11 (.f 12 (.f 13 .e))) 11 (.f 10 (.f 12 (.f 13 .e))))) rfl (by kernel_rfl) ?_
      (conv => whnf); refine fa fl25_3 ?_
      (conv => whnf); refine ld1 (v := .slice ea a.edges.length ec) ct23 (by rw [hC1.cell]; rfl) (st3.in_ 0 rfl rfl).2 ?_
      (conv => whnf); refine ixr (i := i) sl23 u1 he rfl ?_
      rintro b4 o4 c4 hS4 hc4 ⟨rfl, hok⟩
      (conv => whnf); refine ldN (cs := edL e) ag81 hc4 (st3.up (hS _ hS4)) ?_
      (conv => whnf); refine fa fl34_3 ?_
      (conv => whnf); refine ld1 (v := .slice fa_ a.edges.length fc) ct32 (by rw [hC2.cell]; rfl) (st3.in_ 1 rfl rfl).2 ?_
      (conv => whnf); refine ixr (i := i) sl32 u2 he rfl ?_
      rintro b5 o5 c5 hS5 hc5 ⟨rfl, -⟩
      (conv => whnf); refine ldN (cs := edDL e) (by rw [edDL_len]; exact ag83) hc5 (st3.up (hS2 _ hS5)) ?_
      (conv => whnf); refine ⟨?_, ?_⟩
      · have t3 := St.nil H3
        refine valloc _ [.int .i64 0, .int .i64 0, .bool false, .int .u64 0, .int .u64 0, .int .u64 0, .int .u64 0] edge_z rfl ?_
        intro x H4 hx4 hs4 hb4 ha4
        have t4 := t3.box hx4 hs4 hb4 ha4
        refine ⟨t4.old, ?_⟩
        (conv => whnf)
        refine valloc _ edZL edgeD_z rfl ?_
        intro y H5 hx5 hs5 hb5 ha5
        have t5 := t4.box hx5 hs5 hb5 ha5
        refine ⟨t5.old, ?_⟩
        (conv => whnf); refine stNB (cs := edL e) t5 0 rfl rfl (Nat.le_refl _) rfl fun H6 t6 => ?_
        refine ⟨t6.old, ?_⟩
        rw [splice_all (show (edL e).length = 7 from rfl)] at t6
        (conv => whnf); refine stNB (cs := edDL e) t6 1 (by rw [edDL_len]; rfl) rfl (by rw [edDL_len]; decide) (edD_ones e) fun H7 t7 => ?_
        refine ⟨t7.old, ?_⟩
        rw [splice_all (show (edDL e).length = edZL.length by rw [edDL_len, edZL_len])] at t7
        have st7 := st3.call t7.old
        have hx7 := t7.blk 0 rfl
        have hy7 := t7.blk 1 rfl
        have hxl := hx7.lt
        have hyl := hy7.lt
        (conv => whnf); refine VDraw.quiet (Old H7) rfl (by kernel_rfl) ?_
        (conv => whnf); refine fa fl81_0 ?_
        (conv => whnf); refine ld1 (v := .int .i64 e.fr) ct3 (by rw [hx7.cell]; rfl) hxl ?_
        (conv => whnf); refine fa fl83_0 ?_
        (conv => whnf); refine ld1 (v := .int .i64 e.fr) ct3 (by rw [hy7.cell]; rfl) hyl ?_
        (conv => whnf); rw [d1]
        (conv => whnf); refine fa fl81_1 ?_
        (conv => whnf); refine ld1 (v := .int .i64 e.to) ct3 (by rw [hx7.cell]; rfl) hxl ?_
        (conv => whnf); refine fa fl83_1 ?_
        (conv => whnf); refine ld1 (v := .int .i64 e.to) ct3 (by rw [hy7.cell]; rfl) hyl ?_
        (conv => whnf); rw [d1]
        (conv => whnf); refine fa fl81_2 ?_
        (conv => whnf); refine ld1 (v := .bool e.sil) ct4 (by rw [hx7.cell]; rfl) hxl ?_
        (conv => whnf); refine fa fl83_2 ?_
        (conv => whnf); refine ld1 (v := .bool e.sil) ct4 (by rw [hy7.cell]; rfl) hyl ?_
        (conv => whnf); refine bneq_b Try.underlying4 ?_
        rw [show (!(e.sil == e.sil)) = false by simp]
        (conv => whnf); refine fa fl81_3 ?_
        (conv => whnf); refine ldN (cs := setL e.set) ag65 (hx7.cells fun j v hv => edL_set e j v hv) hxl ?_
        (conv => whnf); refine fa fl83_3 ?_
        (conv => whnf); refine ldN (cs := funL fun b => e.set.getLsbD b) (by rw [funL_len]; exact ag75) (hy7.cells fun j v hv => edDL_set e j v hv) hyl ?_
        (conv => whnf); refine pureq (fun H' h' => words_p _ e.set (fun i hi => rfl) H') ?_
        (conv => whnf); refine set_neq4 e.set e.set ?_
        rw [show (!decide (e.set = e.set)) = false by simp]
        (conv => whnf)
        intro H8 ha8
        (conv => whnf); rw [w64 (x := (i : Int) + 1) (by omega) (by omega)]
        exact ⟨rfl, i + 1, by simp, ⟨by omega, st7.call ha8⟩, by omega⟩
      · have t3 := St.nil H3
        refine valloc _ edZL edgeD_z rfl ?_
        intro y H4 hx4 hs4 hb4 ha4
        have t4 := t3.box hx4 hs4 hb4 ha4
        refine ⟨t4.old, ?_⟩
        (conv => whnf)
        refine valloc _ [.int .i64 0, .int .i64 0, .bool false, .int .u64 0, .int .u64 0, .int .u64 0, .int .u64 0] edge_z rfl ?_
        intro x H5 hx5 hs5 hb5 ha5
        have t5 := t4.box hx5 hs5 hb5 ha5
        refine ⟨t5.old, ?_⟩
        (conv => whnf); refine stNB (cs := edL e) t5 1 rfl rfl (Nat.le_refl _) rfl fun H6 t6 => ?_
        refine ⟨t6.old, ?_⟩
        rw [splice_all (show (edL e).length = 7 from rfl)] at t6
        (conv => whnf); refine stNB (cs := edDL e) t6 0 (by rw [edDL_len]; rfl) rfl (by rw [edDL_len]; decide) (edD_ones e) fun H7 t7 => ?_
        refine ⟨t7.old, ?_⟩
        rw [splice_all (show (edDL e).length = edZL.length by rw [edDL_len, edZL_len])] at t7
        have st7 := st3.call t7.old
        have hx7 := t7.blk 1 rfl
        have hy7 := t7.blk 0 rfl
        have hxl := hx7.lt
        have hyl := hy7.lt
        (conv => whnf); refine VDraw.quiet (Old H7) rfl (by kernel_rfl) ?_
        (conv => whnf); refine fa fl81_0 ?_
        (conv => whnf); refine ld1 (v := .int .i64 e.fr) ct3 (by rw [hx7.cell]; rfl) hxl ?_
        (conv => whnf); refine fa fl83_0 ?_
        (conv => whnf); refine ld1 (v := .int .i64 e.fr) ct3 (by rw [hy7.cell]; rfl) hyl ?_
        (conv => whnf); rw [d1]
        (conv => whnf); refine fa fl81_1 ?_
        (conv => whnf); refine ld1 (v := .int .i64 e.to) ct3 (by rw [hx7.cell]; rfl) hxl ?_
        (conv => whnf); refine fa fl83_1 ?_
        (conv => whnf); refine ld1 (v := .int .i64 e.to) ct3 (by rw [hy7.cell]; rfl) hyl ?_
        (conv => whnf); rw [d1]
        (conv => whnf); refine fa fl81_2 ?_
        (conv => whnf); refine ld1 (v := .bool e.sil) ct4 (by rw [hx7.cell]; rfl) hxl ?_
        (conv => whnf); refine fa fl83_2 ?_
        (conv => whnf); refine ld1 (v := .bool e.sil) ct4 (by rw [hy7.cell]; rfl) hyl ?_
        (conv => whnf); refine bneq_b Try.underlying4 ?_
        rw [show (!(e.sil == e.sil)) = false by simp]
        (conv => whnf); refine fa fl81_3 ?_
        (conv => whnf); refine ldN (cs := setL e.set) ag65 (hx7.cells fun j v hv => edL_set e j v hv) hxl ?_
        (conv => whnf); refine fa fl83_3 ?_
        (conv => whnf); refine ldN (cs := funL fun b => e.set.getLsbD b) (by rw [funL_len]; exact ag75) (hy7.cells fun j v hv => edDL_set e j v hv) hyl ?_
        (conv => whnf); refine pureq (fun H' h' => words_p _ e.set (fun i hi => rfl) H') ?_
        (conv => whnf); refine set_neq4 e.set e.set ?_
        rw [show (!decide (e.set = e.set)) = false by simp]
        (conv => whnf)
        intro H8 ha8
        (conv => whnf); rw [w64 (x := (i : Int) + 1) (by omega) (by omega)]
        exact ⟨rfl, i + 1, by simp, ⟨by omega, st7.call ha8⟩, by omega⟩
    · (conv => whnf)
      exact ⟨rfl, st3.old⟩
end Go.Proofs.Ytlnmhfhdjnenoaa
