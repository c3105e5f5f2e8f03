/- The document's With, Build over trees without signs; the law NfaLarge: its walk. -/
import Derived.Test.YtlnmhfhdjnenoaaPDTx
set_option linter.unusedVariables false
set_option linter.unusedSimpArgs false
set_option maxRecDepth 100000
namespace Go.Proofs.Ytlnmhfhdjnenoaa
open Go.VC
def OwnD (H H' : Heap) (r : ReM) (v : Value) : Prop := Agr (Old H) H H' ∧ ∃ ea ec, v = .tuple #[.agg (nfL (nfaOf r) (.slice ea (nfaOf r).edges.length ec)).toArray, .int .i64 0] ∧ SlO tEdD none_ H' H.size 83 (.slice ea (nfaOf r).edges.length ec) (nfaOf r).edges
abbrev nfZ : List Value := [.int .i64 0, .int .i64 0, .int .i64 0, .slice none 0 0]
set_option maxHeartbeats 4000000 in
theorem with_c {S : Nat → Prop} {H : Heap} {v : Value} {ns : List RnM} {root : Int} {r : ReM} {i : Nat} (hpl : r.plain = true) (hn : r.nodes ≤ 2000) (hS : ∀ k, S k → k < H.size) (hv : ReV S H v ns root) (ht : TreeAt ns r i) :
    FnOk Try.prog 25 #[v, .int .i64 (i : Int), .slice none 0 0] H fun u H' => OwnD H H' r u := by
  have hst := stM_nodes r
  have hin := bldM_in r hpl 0
  obtain ⟨hl, na, nc, rfl, h1⟩ := hv
  refine FnOk.of_vc Try.func25 rfl (Try.call25 _) ?_
  (conv => whnf); refine vbox (reL (.slice na ns.length nc) root) rfl ?_
  intro p H1 hp hs1 hb1 ha1
  have st1 := (St.nil H).box hp hs1 hb1 ha1
  (conv => whnf); refine valloc _ nfZ nfd_z rfl ?_
  intro y H2 hy hs2 hb2 ha2
  have st2 := st1.box hy hs2 hb2 ha2
  (conv => whnf); refine vbuildS Try.underlying34 rfl _ nfd_z (dbL 0 (.slice none 0 0)) rfl ?_
  (conv => whnf); refine vbox (dbL 0 (.slice none 0 0)) rfl ?_
  intro bb H3 hbb hs3 hb3 ha3
  have st3 : St H H3 (pB tDb bb (dbL 0 (.slice none 0 0)) :: pS tEdD 83 none 0 0 [] :: [pB tRe p (reL (.slice na ns.length nc) root), pB tDb y nfZ]) := ((st2.box hbb hs3 hb3 ha3).nils tEdD 83).pick [2, 3, 0, 1] (by decide)
  (conv => whnf); refine ldN (cs := reL (.slice na ns.length nc) root) ag39 ((st3.blk 2 rfl).cells fun j v hv => by rw [Nat.zero_add]; exact hv) trivial ?_
  have hv0 : ReV (Old H) H (.agg (reL (.slice na ns.length nc) root).toArray) ns root := ⟨hl, na, nc, rfl, h1.mono fun k hk => hS k hk⟩
  (conv => whnf); refine VCall.mk (partD_c (n := 0) (es := []) hv0 r hpl ht rfl st3 (by omega) (by simp only [List.length_nil]; omega)) ?_
  rintro _ H4 ⟨rfl, a4, c4, st4⟩
  rw [List.nil_append, Nat.zero_add] at st4
  have d2 : decide ((65536 : Int) < (stM r : Int)) = false := decide_eq_false (by omega)
  (conv => whnf); refine fa fl34_0 ?_
  (conv => whnf); refine ld1 (v := .int .i64 (stM r : Int)) ct3 (by rw [(st4.blk 0 rfl).cell]; rfl) trivial ?_
  (conv => whnf); rw [d2]
  (conv => whnf); refine fa fl34_1 ?_
  (conv => whnf); refine st1B st4 0 ct3 rfl (show 1 < 4 by decide) rfl fun H5 st5 => ?_
  (conv => whnf); refine fa fl34_2 ?_
  (conv => whnf); refine st1B st5 0 ct3 rfl (show 2 < 4 by decide) rfl fun H6 st6 => ?_
  replace st6 : St H H6 [pB tDb bb (nfL (nfaOf r) (.slice a4 (nfaOf r).edges.length c4)), pS tEdD 83 a4 (nfaOf r).edges.length c4 (nfaOf r).edges, pB tRe p (reL (.slice na ns.length nc) root), pB tDb y nfZ] := st6
  (conv => whnf); refine ldN (cs := nfL (nfaOf r) (.slice a4 (nfaOf r).edges.length c4)) ag34 ((st6.blk 0 rfl).cells fun j v hv => by rw [Nat.zero_add]; exact hv) trivial ?_
  (conv => whnf); refine stNB (cs := nfL (nfaOf r) (.slice a4 (nfaOf r).edges.length c4)) st6 3 rfl rfl (Nat.le_refl _) rfl fun H7 st7 => ?_
  rw [splice_all (show (nfL (nfaOf r) (.slice a4 (nfaOf r).edges.length c4)).length = nfZ.length from rfl)] at st7
  (conv => whnf); refine ldN (cs := nfL (nfaOf r) (.slice a4 (nfaOf r).edges.length c4)) ag34 ((st7.blk 3 rfl).cells fun j v hv => by rw [Nat.zero_add]; exact hv) trivial ?_
  (conv => whnf)
  exact ⟨st7.old, a4, c4, rfl, St.own st7 1 rfl⟩
theorem rsizeF_p {S : Nat → Prop} {H : Heap} {v : Value} {ns : List RnM} {r : ReM} {i : Nat} (hn : r.nodes ≤ 1000000000) (hS : ∀ k, S k → k < H.size) (hv : ReV S H v ns (i : Int)) (ht : TreeAt ns r i) :
    Pure Try.prog 23 #[v] H (.int .i64 (r.nodes : Int)) := by
  obtain ⟨hl, na, nc, rfl, h1⟩ := hv
  refine FnOk.of_vc Try.func23 rfl (Try.call23 _) ?_
  (conv => whnf); refine vbox (reL (.slice na ns.length nc) (i : Int)) rfl ?_
  intro p H1 hp hs1 hb1 ha1
  have st1 := (St.nil H).box hp hs1 hb1 ha1
  (conv => whnf); refine re_load hl (st1.blk 0 rfl) ag39 trivial (h1.frame (st1.old.mono hS)) fun v2 hv2 => ?_
  (conv => whnf); refine fa fl39_1 ?_
  (conv => whnf); refine ld1 (v := .int .i64 (i : Int)) ct3 (by rw [(st1.blk 0 rfl).cell]; rfl) trivial ?_
  (conv => whnf); refine pures (rsize_p r hn (fun k hk => st1.up (hS k hk)) hv2 ht) fun H2 ha2 => ?_
  have st2 := st1.call ha2
  (conv => whnf)
  exact ⟨rfl, st2.old⟩
set_option maxHeartbeats 4000000 in
theorem dbuild_c {S : Nat → Prop} {H : Heap} {v : Value} {ns : List RnM} {r : ReM} {i : Nat} (hpl : r.plain = true) (hn : r.nodes ≤ 2000) (hS : ∀ k, S k → k < H.size) (hv : ReV S H v ns (i : Int)) (ht : TreeAt ns r i) :
    FnOk Try.prog 10 #[v] H fun u H' => OwnD H H' r u := by
  obtain ⟨hl, na, nc, rfl, h1⟩ := hv
  refine FnOk.of_vc Try.func10 rfl (Try.call10 _) ?_
  (conv => whnf); refine vbox (reL (.slice na ns.length nc) (i : Int)) rfl ?_
  intro p H1 hp hs1 hb1 ha1
  have st1 := (St.nil H).box hp hs1 hb1 ha1
  (conv => whnf); refine valloc _ nfZ nfd_z rfl ?_
  intro y H2 hy hs2 hb2 ha2
  have st2 := st1.box hy hs2 hb2 ha2
  (conv => whnf); refine re_load hl (st2.blk 0 rfl) ag39 trivial (h1.frame (st2.old.mono hS)) fun v2 hv2 => ?_
  (conv => whnf); refine pures (rsizeF_p (by omega) (fun k hk => st2.up (hS k hk)) hv2 ht) fun H3 ha3 => ?_
  have st3 := st2.call ha3
  have d1 : decide ((2000 : Int) < (r.nodes : Int)) = false := decide_eq_false (by omega)
  (conv => whnf); rw [d1]
  (conv => whnf); refine re_load hl (st3.blk 0 rfl) ag39 trivial (h1.frame (st3.old.mono hS)) fun v3 hv3 => ?_
  (conv => whnf); refine fa fl39_1 ?_
  (conv => whnf); refine ld1 (v := .int .i64 (i : Int)) ct3 (by rw [(st3.blk 0 rfl).cell]; rfl) trivial ?_
  (conv => whnf); refine pures (below_p r hpl (fun k hk => st3.up (hS k hk)) hv3 ht) fun H4 ha4 => ?_
  have st4 := st3.call ha4
  (conv => whnf); refine re_load hl (st4.blk 0 rfl) ag39 trivial (h1.frame (st4.old.mono hS)) fun v4 hv4 => ?_
  (conv => whnf); refine fa fl39_1 ?_
  (conv => whnf); refine ld1 (v := .int .i64 (i : Int)) ct3 (by rw [(st4.blk 0 rfl).cell]; rfl) trivial ?_
  (conv => whnf); refine VCall.mk (with_c hpl hn (fun k hk => st4.up (hS k hk)) hv4 ht) ?_
  rintro _ H5 ⟨ha5, ea, ec, rfl, hown⟩
  obtain ⟨ea', ec', e5, st5⟩ := st4.got ha5 hown
  injection e5 with e51 e52 e53
  subst e51; subst e53
  (conv => whnf); refine stNB (cs := nfL (nfaOf r) (.slice ea (nfaOf r).edges.length ec)) st5 1 rfl rfl (Nat.le_refl _) rfl fun H7 st7 => ?_
  rw [splice_all (show (nfL (nfaOf r) (.slice ea (nfaOf r).edges.length ec)).length = nfZ.length from rfl)] at st7
  (conv => whnf); refine ldN (cs := nfL (nfaOf r) (.slice ea (nfaOf r).edges.length ec)) ag34 ((st7.blk 1 rfl).cells fun j v hv => by rw [Nat.zero_add]; exact hv) trivial ?_
  (conv => whnf)
  exact ⟨st7.old, ea, ec, rfl, St.own st7 2 rfl⟩
theorem nf_rng {r : ReM} (hpl : r.plain = true) (hn : r.nodes ≤ 2000) : (nfaOf r).Rng ∧ (nfaOf r).edges.length ≤ 1048576 := by
  have hst := stM_nodes r
  have hin := bldM_in r hpl 0
  have hlen := bldM_len r hpl 0
  refine ⟨⟨inI64 (by omega), inI64 (by omega), inI64 (by omega)⟩, ?_⟩
  show (bldM r 0).2.2.length ≤ _
  omega
set_option maxHeartbeats 8000000 in
theorem nfaLarge_p (s : ByteArray) (S : Nat → Prop) (H : Heap) (hs : s.size ≤ 1048576) :
    Pure Try.prog 3 #[.string s] H (.bool true) := by
  have hbl := byN_len s
  have hnod := textR_nodes (byN s)
  have hpl := textR_plain (byN s)
  refine FnOk.of_vc Try.func3 rfl (Try.call3 _) ?_
  (conv => whnf); refine pures (speaks04_p H) fun H1 ha1 => ?_
  have st1 := (St.nil H).call ha1
  by_cases h6 : 60000 < s.size
  · have d1 : decide ((60000 : Int) < (s.size : Int)) = true := decide_eq_true (by omega)
    (conv => whnf); rw [d1]
    (conv => whnf)
    exact ⟨rfl, st1.old⟩
  · have d1 : decide ((60000 : Int) < (s.size : Int)) = false := decide_eq_false (by omega)
    (conv => whnf); rw [d1]
    (conv => whnf); refine pures (text_p s hs H1) fun H2 ha2 => ?_
    have st2 := st1.call ha2
    (conv => whnf); refine VCall.mk (build_c (textR (byN s)) hpl (by omega) H2) ?_
    rintro v H3 ⟨ha3, hv⟩
    by_cases hb : 1000 < s.size
    · have d2 : decide ((1000 : Int) < (s.size : Int)) = true := decide_eq_true (by omega)
      rw [if_pos (show 2000 < (textR (byN s)).nodes by omega)] at hv
      subst hv
      have st3 := st2.call ha3
      (conv => whnf); refine valloc _ nfZ nfa_z rfl ?_
      intro y H4 hy hs4 hb4 ha4
      have st4 := st3.box hy hs4 hb4 ha4
      (conv => whnf); refine stNB (cs := nfZ) st4 0 rfl rfl (Nat.le_refl _) rfl fun H5 st5 => ?_
      rw [splice_all (show nfZ.length = nfZ.length from rfl)] at st5
      (conv => whnf); rw [d2]
      (conv => whnf); refine fa fl25_0 ?_
      (conv => whnf); refine ld1 (v := .int .i64 0) ct3 (by rw [(st5.blk 0 rfl).cell]; rfl) trivial ?_
      (conv => whnf); refine fa fl25_1 ?_
      (conv => whnf); refine ld1 (v := .int .i64 0) ct3 (by rw [(st5.blk 0 rfl).cell]; rfl) trivial ?_
      (conv => whnf); refine fa fl25_2 ?_
      (conv => whnf); refine ld1 (v := .int .i64 0) ct3 (by rw [(st5.blk 0 rfl).cell]; rfl) trivial ?_
      (conv => whnf); refine fa fl25_3 ?_
      (conv => whnf); refine ld1 (v := .slice none 0 0) ct23 (by rw [(st5.blk 0 rfl).cell]; rfl) trivial ?_
      (conv => whnf)
      exact ⟨rfl, st5.old⟩
    · have d2 : decide ((1000 : Int) < (s.size : Int)) = false := decide_eq_false (by omega)
      have hn2 : (textR (byN s)).nodes ≤ 2000 := by omega
      rw [if_neg (show ¬ 2000 < (textR (byN s)).nodes by omega)] at hv
      have htr := tdN_tree (byN s)
      obtain ⟨hrng, hel⟩ := nf_rng hpl hn2
      generalize textR (byN s) = r at *
      obtain ⟨ea, ec, rfl, hown⟩ := hv
      obtain ⟨ea', ec', e3, st3⟩ := st2.got ha3 hown
      injection e3 with e31 e32 e33
      subst e31; subst e33
      (conv => whnf); refine valloc _ nfZ nfa_z rfl ?_
      intro y H4 hy hs4 hb4 ha4
      have st4 := st3.box hy hs4 hb4 ha4
      (conv => whnf); refine stNB (cs := nfL (nfaOf r) (.slice ea (nfaOf r).edges.length ec)) st4 1 rfl rfl (Nat.le_refl _) rfl fun H5 st5 => ?_
      rw [splice_all (show (nfL (nfaOf r) (.slice ea (nfaOf r).edges.length ec)).length = nfZ.length from rfl)] at st5
      (conv => whnf); rw [d2]
      (conv => whnf); refine VCall.mk (dtext_c s hs H5) ?_
      rintro _ H6 ⟨ha6, na, nc, rfl, hown6⟩
      obtain ⟨na', nc', e6, st6⟩ := st5.got ha6 hown6
      injection e6 with e61 e62 e63
      subst e61; subst e63
      have htl := tdN_len (byN s)
      have hre : ReV (Old H6) H6 (.agg (reL (.slice na (tdN (byN s)).length nc) ((2 * (byN s).length - 2 : Nat) : Int)).toArray) (tdN (byN s)) ((2 * (byN s).length - 2 : Nat) : Int) := ⟨by omega, na, nc, rfl, st6.view 2 rfl⟩
      (conv => whnf); refine VCall.mk (dbuild_c hpl hn2 (fun k hk => hk) hre htr) ?_
      rintro _ H7 ⟨ha7, da, dc, rfl, hown7⟩
      obtain ⟨da', dc', e7, st7⟩ := st6.got ha7 hown7
      injection e7 with e71 e72 e73
      subst e71; subst e73
      (conv => whnf); refine valloc _ nfZ nfd_z rfl ?_
      intro z H8 hz hs8 hb8 ha8
      have st8 := st7.box hz hs8 hb8 ha8
      (conv => whnf); refine stNB (cs := nfL (nfaOf r) (.slice da (nfaOf r).edges.length dc)) st8 4 rfl rfl (Nat.le_refl _) rfl fun H9 st9 => ?_
      rw [splice_all (show (nfL (nfaOf r) (.slice da (nfaOf r).edges.length dc)).length = nfZ.length from rfl)] at st9
      (conv => whnf); refine nf_load hrng hel (st9.blk 1 rfl) ag25 trivial (st9.view 0 rfl) fun v10 hv10 => ?_
      (conv => whnf); refine nd_load hrng hel (st9.blk 4 rfl) ag34 trivial (st9.view 3 rfl) fun w10 hw10 => ?_
      (conv => whnf); refine pures (same04_p (fun k hk => hk) (fun k hk => hk) hv10 hw10) fun H11 ha11 => ?_
      have st11 := st9.call ha11
      (conv => whnf)
      exact ⟨rfl, st11.old⟩
end Go.Proofs.Ytlnmhfhdjnenoaa
