/- The law's nets as automata: the walks of machine and doc. -/
import Derived.Test.YtlnmhfhdjnenoaaPNfa2
import Derived.Test.YtlnmhfhdjnenoaaMDfa
import Derived.Test.YtlnmhfhdjnenoaaVHeldG
set_option linter.unusedVariables false
set_option linter.unusedSimpArgs false
set_option maxRecDepth 100000
namespace Go.Proofs.Ytlnmhfhdjnenoaa
open Go.VC
theorem way_z : (Try.prog.info? 60).bind (·.zero) = some (.agg #[.int .i64 0, .int .i64 0, .bool false, .int .u64 0, .int .u64 0, .int .u64 0, .int .u64 0]) := rfl
set_option maxHeartbeats 4000000 in
theorem machine04_c {S : Nat → Prop} {H : Heap} {v : Value} {a : NfM} (hS : ∀ k, S k → k < H.size) (h : NfV S H v a) :
    FnOk Try.prog 13 #[v] H fun v' H' => Agr (Old H) H H' ∧ ∃ ea ec, v' = .agg (nfL a (.slice ea a.edges.length ec)).toArray ∧ SlO tEd none_ H' H.size 81 (.slice ea a.edges.length ec) a.edges := by
  have hl := h.2.1
  refine FnOk.of_vc Try.func13 rfl (Try.call13 _) ?_
  (conv => whnf); refine nf_box h fun ea ec he h1 => ?_
  subst he
  intro p H1 hp hs1 hb1 ha1
  have st1 := (St.nil H).box hp hs1 hb1 ha1
  (conv => whnf); refine valloc _ [.int .i64 0, .int .i64 0, .int .i64 0, .slice none 0 0] nfa_z rfl ?_
  intro r H2 hr hs2 hb2 ha2
  have st2 := st1.box hr hs2 hb2 ha2
  (conv => whnf); refine fa fl45_0 ?_
  (conv => whnf); refine ld1 (v := .int .i64 a.st) ct3 (by rw [(st2.blk 0 rfl).cell]; rfl) trivial ?_
  (conv => whnf); refine fa fl45_1 ?_
  (conv => whnf); refine ld1 (v := .int .i64 a.start) ct3 (by rw [(st2.blk 0 rfl).cell]; rfl) trivial ?_
  (conv => whnf); refine fa fl45_2 ?_
  (conv => whnf); refine ld1 (v := .int .i64 a.fin) ct3 (by rw [(st2.blk 0 rfl).cell]; rfl) trivial ?_
  (conv => whnf); refine vbuildS Try.underlying25 rfl _ nfa_z (nfL a (.slice none 0 0)) rfl ?_
  (conv => whnf); refine valloc _ [.int .i64 0, .int .i64 0, .int .i64 0, .slice none 0 0] nfa_z rfl ?_
  intro q H3 hq hs3 hb3 ha3
  have st3 := st2.box hq hs3 hb3 ha3
  (conv => whnf); refine stNB (cs := nfL a (.slice none 0 0)) st3 2 rfl rfl (Nat.le_refl _) rfl fun H4 st4 => ?_
  rw [splice_all (show (nfL a (.slice none 0 0)).length = 4 from rfl)] at st4
  have st5 := st4.nils tEd 81
  (conv => whnf)
  refine VLoop.mk [4] (fun i : Nat => [.int .i64 (i : Int)]) (fun i H5 => i ≤ a.edges.length ∧ ∃ a' c', St H H5 [pB 45 p (nfL a (.slice ea a.edges.length ec)), pB 25 r [.int .i64 0, .int .i64 0, .int .i64 0, .slice none 0 0], pB 25 q (nfL a (.slice a' i c')), pS tEd 81 a' i c' (a.edges.take i)]) (fun i _ => a.edges.length - i) ?_ ?_
  · (conv => whnf)
    exact ⟨0, rfl, Nat.zero_le _, none, 0, st5⟩
  · rintro i H5 junk ⟨hi, a', c', st⟩
    (conv => whnf); refine fa fl45_3 ?_
    (conv => whnf); refine ld1 (v := .slice ea a.edges.length ec) ct43 (by rw [(st.blk 0 rfl).cell]; rfl) trivial ?_
    (conv => whnf); refine VIte.mk (fun hz => ?_) (fun hz => ?_) <;> simp only [decide_eq_true_eq, decide_eq_false_iff_not] at hz
    · obtain ⟨e, he⟩ := get_some (l := a.edges) (k := i) (by omega)
      (conv => whnf); refine fa fl45_3 ?_
      (conv => whnf); refine ld1 (v := .slice ea a.edges.length ec) ct43 (by rw [(st.blk 0 rfl).cell]; rfl) trivial ?_
      (conv => whnf); refine ixr (i := i) sl43 (h1.frame (st.old.mono hS)) he rfl ?_
      rintro b6 o6 c6 hS6 hc6 ⟨rfl, hok⟩
      (conv => whnf); refine ldN (cs := edL e) ag60 hc6 trivial ?_
      (conv => whnf); refine valloc _ [.int .i64 0, .int .i64 0, .bool false, .int .u64 0, .int .u64 0, .int .u64 0, .int .u64 0] way_z rfl ?_
      intro x H6 hx hs6 hb6 ha6
      have st6 := st.box hx hs6 hb6 ha6
      (conv => whnf); refine stNB (cs := edL e) st6 4 rfl rfl (Nat.le_refl _) rfl fun H7 st7 => ?_
      rw [splice_all (show (edL e).length = 7 from rfl)] at st7
      have hbx := st7.blk 4 rfl
      (conv => whnf); refine fa fl25_3 ?_
      (conv => whnf); refine ld1 (v := .slice a' i c') ct23 (by rw [(st7.blk 2 rfl).cell]; rfl) trivial ?_
      (conv => whnf); refine fa fl60_0 ?_
      (conv => whnf); refine ld1 (v := .int .i64 e.fr) ct3 (by rw [hbx.cell]; rfl) trivial ?_
      (conv => whnf); refine fa fl60_1 ?_
      (conv => whnf); refine ld1 (v := .int .i64 e.to) ct3 (by rw [hbx.cell]; rfl) trivial ?_
      (conv => whnf); refine fa fl60_2 ?_
      (conv => whnf); refine ld1 (v := .bool e.sil) ct4 (by rw [hbx.cell]; rfl) trivial ?_
      (conv => whnf); refine fa fl60_3 ?_
      (conv => whnf); refine ldN (cs := setL e.set) ag58 (hbx.cells fun j v hv => edL_set e j v hv) trivial ?_
      (conv => whnf); refine edge_build e ?_
      (conv => whnf); refine vbuild1 sl23 (edL e) rfl rfl (by decide) (by decide) ?_
      intro y H8 hy hs8 hb8 ha8
      have st8 := st7.skip hy ha8
      have htl : (a.edges.take i).length = i := by rw [List.length_take]; omega
      (conv => whnf); refine appO (ys := [e]) st8 3 sl23 rfl (hb8.cells (o := 0) (cs := edL e) fun j v hv => by rw [Nat.zero_add]; exact hv) (Ty.reps_one ⟨rfl, hok⟩) rfl (fun u hu => List.all_eq_true.1 (ed_ones e) u hu) (by rw [htl]; simp; omega) (by decide) fun a9 c9 H9 st9 _ => ?_
      rw [htl] at st9 ⊢
      (conv => whnf); refine fa fl25_3 ?_
      (conv => whnf); refine st1B st9 2 ct23 rfl (show 3 < 4 by decide) rfl fun H10 st10 => ?_
      (conv => whnf); rw [w64 (x := (i : Int) + 1) (by omega) (by omega)]
      have ht : a.edges.take i ++ [e] = a.edges.take (i + 1) := (take_succ_snoc he).symm
      rw [ht] at st10
      exact ⟨rfl, i + 1, by simp, ⟨by omega, a9, c9, st10.pick [0, 1, 2, 3] (by decide)⟩, by omega⟩
    · obtain rfl : i = a.edges.length := by omega
      rw [List.take_length] at st
      (conv => whnf); refine ldN (cs := nfL a (.slice a' a.edges.length c')) ag25 ((st.blk 2 rfl).cells fun j v hv => by rw [Nat.zero_add]; exact hv) trivial ?_
      (conv => whnf); refine stNB (cs := nfL a (.slice a' a.edges.length c')) st 1 rfl rfl (Nat.le_refl _) rfl fun H7 st7 => ?_
      rw [splice_all (show (nfL a (.slice a' a.edges.length c')).length = 4 from rfl)] at st7
      (conv => whnf); refine ldN (cs := nfL a (.slice a' a.edges.length c')) ag25 ((st7.blk 1 rfl).cells fun j v hv => by rw [Nat.zero_add]; exact hv) trivial ?_
      exact ⟨st7.old, a', c', rfl, St.own st7 3 rfl⟩
set_option maxHeartbeats 4000000 in
theorem doc04_c {S : Nat → Prop} {H : Heap} {v : Value} {a : NfM} (hS : ∀ k, S k → k < H.size) (h : NfV S H v a) :
    FnOk Try.prog 15 #[v] H fun v' H' => Agr (Old H) H H' ∧ ∃ ea ec, v' = .agg (nfL a (.slice ea a.edges.length ec)).toArray ∧ SlO tEdD none_ H' H.size 83 (.slice ea a.edges.length ec) a.edges := by
  have hl := h.2.1
  refine FnOk.of_vc Try.func15 rfl (Try.call15 _) ?_
  (conv => whnf); refine nf_box h fun ea ec he h1 => ?_
  subst he
  intro p H1 hp hs1 hb1 ha1
  have st1 := (St.nil H).box hp hs1 hb1 ha1
  (conv => whnf); refine valloc _ [.int .i64 0, .int .i64 0, .int .i64 0, .slice none 0 0] nfd_z rfl ?_
  intro r H2 hr hs2 hb2 ha2
  have st2 := st1.box hr hs2 hb2 ha2
  (conv => whnf); refine fa fl45_0 ?_
  (conv => whnf); refine ld1 (v := .int .i64 a.st) ct3 (by rw [(st2.blk 0 rfl).cell]; rfl) trivial ?_
  (conv => whnf); refine fa fl45_1 ?_
  (conv => whnf); refine ld1 (v := .int .i64 a.start) ct3 (by rw [(st2.blk 0 rfl).cell]; rfl) trivial ?_
  (conv => whnf); refine fa fl45_2 ?_
  (conv => whnf); refine ld1 (v := .int .i64 a.fin) ct3 (by rw [(st2.blk 0 rfl).cell]; rfl) trivial ?_
  (conv => whnf); refine vbuildS Try.underlying34 rfl _ nfd_z (nfL a (.slice none 0 0)) rfl ?_
  (conv => whnf); refine valloc _ [.int .i64 0, .int .i64 0, .int .i64 0, .slice none 0 0] nfd_z rfl ?_
  intro q H3 hq hs3 hb3 ha3
  have st3 := st2.box hq hs3 hb3 ha3
  (conv => whnf); refine stNB (cs := nfL a (.slice none 0 0)) st3 2 rfl rfl (Nat.le_refl _) rfl fun H4 st4 => ?_
  rw [splice_all (show (nfL a (.slice none 0 0)).length = 4 from rfl)] at st4
  have st5 := st4.nils tEdD 83
  (conv => whnf)
  refine VLoop.mk [4] (fun i : Nat => [.int .i64 (i : Int)]) (fun i H5 => i ≤ a.edges.length ∧ ∃ a' c', St H H5 [pB 45 p (nfL a (.slice ea a.edges.length ec)), pB 34 r [.int .i64 0, .int .i64 0, .int .i64 0, .slice none 0 0], pB 34 q (nfL a (.slice a' i c')), pS tEdD 83 a' i c' (a.edges.take i)]) (fun i _ => a.edges.length - i) ?_ ?_
  · (conv => whnf)
    exact ⟨0, rfl, Nat.zero_le _, none, 0, st5⟩
  · rintro i H5 junk ⟨hi, a', c', st⟩
    (conv => whnf); refine fa fl45_3 ?_
    (conv => whnf); refine ld1 (v := .slice ea a.edges.length ec) ct43 (by rw [(st.blk 0 rfl).cell]; rfl) trivial ?_
    (conv => whnf); refine VIte.mk (fun hz => ?_) (fun hz => ?_) <;> simp only [decide_eq_true_eq, decide_eq_false_iff_not] at hz
    · obtain ⟨e, he⟩ := get_some (l := a.edges) (k := i) (by omega)
      (conv => whnf); refine fa fl45_3 ?_
      (conv => whnf); refine ld1 (v := .slice ea a.edges.length ec) ct43 (by rw [(st.blk 0 rfl).cell]; rfl) trivial ?_
      (conv => whnf); refine ixr (i := i) sl43 (h1.frame (st.old.mono hS)) he rfl ?_
      rintro b6 o6 c6 hS6 hc6 ⟨rfl, hok⟩
      (conv => whnf); refine ldN (cs := edL e) ag60 hc6 trivial ?_
      (conv => whnf); refine valloc _ [.int .i64 0, .int .i64 0, .bool false, .int .u64 0, .int .u64 0, .int .u64 0, .int .u64 0] way_z rfl ?_
      intro x H6 hx hs6 hb6 ha6
      have st6 := st.box hx hs6 hb6 ha6
      (conv => whnf); refine stNB (cs := edL e) st6 4 rfl rfl (Nat.le_refl _) rfl fun H7 st7 => ?_
      rw [splice_all (show (edL e).length = 7 from rfl)] at st7
      have hbx := st7.blk 4 rfl
      have htl : (a.edges.take i).length = i := by rw [List.length_take]; omega
      (conv => whnf); refine VDraw.heldZ (Old H7) [13, 14, 15] (sq [0,1,2,3,4,5,6,7,8,9] (.f 10 (sq [11] (.f 12 (.f 13 (.f 14 (.f 15 .e))))))) rfl (by kernel_rfl) ?_
      (conv => whnf); refine fa fl34_3 ?_
      (conv => whnf); refine ld1 (v := .slice a' i c') ct32 (by rw [(st7.blk 2 rfl).cell]; rfl) (st7.in_ 2 rfl rfl).2 ?_
      (conv => whnf); refine fa fl60_0 ?_
      (conv => whnf); refine ld1 (v := .int .i64 e.fr) ct3 (by rw [hbx.cell]; rfl) (st7.in_ 4 rfl rfl).2 ?_
      (conv => whnf); refine fa fl60_1 ?_
      (conv => whnf); refine ld1 (v := .int .i64 e.to) ct3 (by rw [hbx.cell]; rfl) (st7.in_ 4 rfl rfl).2 ?_
      (conv => whnf); refine fa fl60_2 ?_
      (conv => whnf); refine ld1 (v := .bool e.sil) ct4 (by rw [hbx.cell]; rfl) (st7.in_ 4 rfl rfl).2 ?_
      (conv => whnf); refine fa fl60_3 ?_
      (conv => whnf); refine ldN (cs := setL e.set) ag58 (hbx.cells fun j v hv => edL_set e j v hv) (st7.in_ 4 rfl rfl).2 ?_
      (conv => whnf); refine pures (from_p e.set H7) fun H8 ha8 => ?_
      have st8 := st7.call ha8
      refine ⟨ha8, ?_⟩
      (conv => whnf); refine edgeD_build e ?_
      (conv => whnf); refine vbuild1 sl32 (edDL e) rfl (edDL_len e) (by decide) (by decide) ?_
      intro y H9 hy hs9 hb9 ha9
      have st9 := st8.skip hy ha9
      refine ⟨ha8.trans (ha9.mono fun k hk => by have := old_lt ha8 hk; omega), ?_⟩
      (conv => whnf); refine appO (ys := [e]) st9 3 sl32 rfl (hb9.cells (o := 0) (cs := edDL e) fun j v hv => by rw [Nat.zero_add]; exact hv) (Ty.reps_one ⟨rfl, hok⟩) rfl (fun u hu => List.all_eq_true.1 (edD_ones e) u hu) (by rw [htl]; simp; omega) (by decide) fun a9 c9 H10 st10 _ => ?_
      rw [htl] at st10 ⊢
      (conv => whnf); refine fa fl34_3 ?_
      (conv => whnf); refine st1B st10 2 ct32 rfl (show 3 < 4 by decide) rfl fun H11 st10 => ?_
      (conv => whnf); rw [w64 (x := (i : Int) + 1) (by omega) (by omega)]
      have ht : a.edges.take i ++ [e] = a.edges.take (i + 1) := (take_succ_snoc he).symm
      rw [ht] at st10
      exact ⟨rfl, i + 1, by simp, ⟨by omega, a9, c9, st10.pick [0, 1, 2, 3] (by decide)⟩, by omega⟩
    · obtain rfl : i = a.edges.length := by omega
      rw [List.take_length] at st
      (conv => whnf); refine ldN (cs := nfL a (.slice a' a.edges.length c')) ag34 ((st.blk 2 rfl).cells fun j v hv => by rw [Nat.zero_add]; exact hv) trivial ?_
      (conv => whnf); refine stNB (cs := nfL a (.slice a' a.edges.length c')) st 1 rfl rfl (Nat.le_refl _) rfl fun H7 st7 => ?_
      rw [splice_all (show (nfL a (.slice a' a.edges.length c')).length = 4 from rfl)] at st7
      (conv => whnf); refine ldN (cs := nfL a (.slice a' a.edges.length c')) ag34 ((st7.blk 1 rfl).cells fun j v hv => by rw [Nat.zero_add]; exact hv) trivial ?_
      exact ⟨st7.old, a', c', rfl, St.own st7 3 rfl⟩
end Go.Proofs.Ytlnmhfhdjnenoaa
