/- Trees of texts; Size, Text, Build over trees without signs: the walks. -/
import Derived.Test.YtlnmhfhdjnenoaaPBld
import Derived.Test.YtlnmhfhdjnenoaaPNfa6
set_option linter.unusedVariables false
set_option linter.unusedSimpArgs false
set_option maxRecDepth 100000
namespace Go.Proofs.Ytlnmhfhdjnenoaa
open Go.VC
def nodeT : ReM → TypeId
  | .eps => 64
  | .cls _ => 68
  | .cat _ _ => 70
  | .alt _ _ => 117
  | .star _ => 119
  | .and_ _ _ => 120
  | .minus _ _ => 121
def nodeP : ReM → Value
  | .eps => .agg #[]
  | .cls s => setV s
  | .cat a b => .agg #[nodeV a, nodeV b]
  | .alt a b => .agg #[nodeV a, nodeV b]
  | .star a => .agg #[nodeV a]
  | .and_ a b => .agg #[nodeV a, nodeV b]
  | .minus a b => .agg #[nodeV a, nodeV b]
theorem nodeV_eq (r : ReM) : nodeV r = .iface (nodeT r) (nodeP r) := by cases r <;> rfl
def sizeF : ReM → FuncId
  | .eps => 91
  | .cls _ => 93
  | .cat _ _ => 95
  | .alt _ _ => 98
  | .star _ => 100
  | .and_ _ _ => 102
  | .minus _ _ => 104
theorem size_m (r : ReM) (w : World) : (callMethod (.iface (nodeT r) (nodeP r)) "Size" #[]).run Try.prog w = .ok (.enter (sizeF r) #[nodeP r]) w := by
  cases r with
  | eps => exact m_eps_size _ w
  | cls => exact m_cls_size _ w
  | cat => exact m_cat_size _ w
  | alt => exact m_alt_size _ w
  | star => exact m_star_size _ w
  | and_ => exact m_and_size _ w
  | minus => exact m_minus_size _ w
theorem sure_p (r : ReM) (H : Heap) : Pure Try.prog 96 #[nodeV r] H (.iface (nodeT r) (nodeP r)) := by
  rw [nodeV_eq]
  refine FnOk.of_vc Try.func96 rfl (Try.call96 _) ?_
  (conv => whnf); refine ifeq Try.underlying30 ?_
  (conv => whnf)
  exact ⟨rfl, Agr.refl _ _⟩
set_option maxHeartbeats 4000000 in
theorem size_p : ∀ (r : ReM), r.nodes ≤ 1000000000 → ∀ (H : Heap), Pure Try.prog (sizeF r) #[nodeP r] H (.int .i64 (r.nodes : Int)) := fun r => by
  induction r with
  | eps =>
    intro hn H
    refine FnOk.of_vc Try.func91 rfl (Try.call91 _) ?_
    (conv => whnf); refine vbox [] rfl ?_
    intro x H1 hx hs1 hb1 ha1
    have st1 := (St.nil H).box hx hs1 hb1 ha1
    (conv => whnf)
    exact ⟨rfl, st1.old⟩
  | cls s =>
    intro hn H
    refine FnOk.of_vc Try.func93 rfl (Try.call93 _) ?_
    (conv => whnf); refine vbox (setL s) rfl ?_
    intro x H1 hx hs1 hb1 ha1
    have st1 := (St.nil H).box hx hs1 hb1 ha1
    (conv => whnf)
    exact ⟨rfl, st1.old⟩
  | cat a b iha ihb =>
    intro hn H
    simp only [ReM.nodes] at hn
    refine FnOk.of_vc Try.func95 rfl (Try.call95 _) ?_
    (conv => whnf); refine vbox [nodeV a, nodeV b] rfl ?_
    intro x H1 hx hs1 hb1 ha1
    have st1 := (St.nil H).box hx hs1 hb1 ha1
    have hxl := hb1.lt
    (conv => whnf); refine VDraw.heldZ (Old H1) [] (sq [0,1,5,6] (.f 2 (.f 3 (sq [4] (.f 7 (.f 8 (sq [9] (.f 10 .e)))))))) rfl (by kernel_rfl) ?_
    (conv => whnf); refine fa fl70_0 ?_
    (conv => whnf); refine ld1 (v := nodeV a) ct30 (by rw [hb1.cell]; rfl) hxl ?_
    (conv => whnf); refine fa fl70_1 ?_
    (conv => whnf); refine ld1 (v := nodeV b) ct30 (by rw [hb1.cell]; rfl) hxl ?_
    (conv => whnf); refine pures (sure_p a H1) fun H2 ha2 => ?_
    refine ⟨ha2, ?_⟩
    (conv => whnf); refine VInv.mk (sizeF a) #[nodeP a] (size_m a) (iha (by omega) H2) ?_
    rintro _ H3 ⟨rfl, ha3⟩
    have h13 := ha2.trans (ha3.mono fun k hk => old_lt ha2 hk)
    refine ⟨h13, ?_⟩
    (conv => whnf); rw [w64 (x := 1 + (a.nodes : Int)) (by omega) (by omega)]
    (conv => whnf); refine pures (sure_p b H3) fun H4 ha4 => ?_
    have h14 := h13.trans (ha4.mono fun k hk => old_lt h13 hk)
    refine ⟨h14, ?_⟩
    (conv => whnf); refine VInv.mk (sizeF b) #[nodeP b] (size_m b) (ihb (by omega) H4) ?_
    rintro _ H5 ⟨rfl, ha5⟩
    have h15 := h14.trans (ha5.mono fun k hk => old_lt h14 hk)
    refine ⟨h15, ?_⟩
    (conv => whnf); rw [w64 (x := 1 + (a.nodes : Int) + (b.nodes : Int)) (by omega) (by omega)]
    refine ⟨h15, ?_⟩
    (conv => whnf)
    exact ⟨by simp only [ReM.nodes]; simp, st1.old.trans (h15.mono fun k hk => st1.up hk)⟩
  | alt a b iha ihb =>
    intro hn H
    simp only [ReM.nodes] at hn
    refine FnOk.of_vc Try.func98 rfl (Try.call98 _) ?_
    (conv => whnf); refine vbox [nodeV a, nodeV b] rfl ?_
    intro x H1 hx hs1 hb1 ha1
    have st1 := (St.nil H).box hx hs1 hb1 ha1
    have hxl := hb1.lt
    (conv => whnf); refine VDraw.heldZ (Old H1) [] (sq [0,1,5,6] (.f 2 (.f 3 (sq [4] (.f 7 (.f 8 (sq [9] (.f 10 .e)))))))) rfl (by kernel_rfl) ?_
    (conv => whnf); refine fa fl117_0 ?_
    (conv => whnf); refine ld1 (v := nodeV a) ct30 (by rw [hb1.cell]; rfl) hxl ?_
    (conv => whnf); refine fa fl117_1 ?_
    (conv => whnf); refine ld1 (v := nodeV b) ct30 (by rw [hb1.cell]; rfl) hxl ?_
    (conv => whnf); refine pures (sure_p a H1) fun H2 ha2 => ?_
    refine ⟨ha2, ?_⟩
    (conv => whnf); refine VInv.mk (sizeF a) #[nodeP a] (size_m a) (iha (by omega) H2) ?_
    rintro _ H3 ⟨rfl, ha3⟩
    have h13 := ha2.trans (ha3.mono fun k hk => old_lt ha2 hk)
    refine ⟨h13, ?_⟩
    (conv => whnf); rw [w64 (x := 1 + (a.nodes : Int)) (by omega) (by omega)]
    (conv => whnf); refine pures (sure_p b H3) fun H4 ha4 => ?_
    have h14 := h13.trans (ha4.mono fun k hk => old_lt h13 hk)
    refine ⟨h14, ?_⟩
    (conv => whnf); refine VInv.mk (sizeF b) #[nodeP b] (size_m b) (ihb (by omega) H4) ?_
    rintro _ H5 ⟨rfl, ha5⟩
    have h15 := h14.trans (ha5.mono fun k hk => old_lt h14 hk)
    refine ⟨h15, ?_⟩
    (conv => whnf); rw [w64 (x := 1 + (a.nodes : Int) + (b.nodes : Int)) (by omega) (by omega)]
    refine ⟨h15, ?_⟩
    (conv => whnf)
    exact ⟨by simp only [ReM.nodes]; simp, st1.old.trans (h15.mono fun k hk => st1.up hk)⟩
  | star a iha =>
    intro hn H
    simp only [ReM.nodes] at hn
    refine FnOk.of_vc Try.func100 rfl (Try.call100 _) ?_
    (conv => whnf); refine vbox [nodeV a] rfl ?_
    intro x H1 hx hs1 hb1 ha1
    have st1 := (St.nil H).box hx hs1 hb1 ha1
    (conv => whnf); refine fa fl119_0 ?_
    (conv => whnf); refine ld1 (v := nodeV a) ct30 (by rw [hb1.cell]; rfl) trivial ?_
    (conv => whnf); refine pures (sure_p a H1) fun H2 ha2 => ?_
    have st2 := st1.call ha2
    (conv => whnf); refine VInv.mk (sizeF a) #[nodeP a] (size_m a) (iha (by omega) H2) ?_
    rintro _ H3 ⟨rfl, ha3⟩
    have st3 := st2.call ha3
    (conv => whnf); rw [w64 (x := 1 + (a.nodes : Int)) (by omega) (by omega)]
    (conv => whnf)
    exact ⟨by simp only [ReM.nodes]; simp, st3.old⟩
  | and_ a b iha ihb =>
    intro hn H
    simp only [ReM.nodes] at hn
    refine FnOk.of_vc Try.func102 rfl (Try.call102 _) ?_
    (conv => whnf); refine vbox [nodeV a, nodeV b] rfl ?_
    intro x H1 hx hs1 hb1 ha1
    have st1 := (St.nil H).box hx hs1 hb1 ha1
    have hxl := hb1.lt
    (conv => whnf); refine VDraw.heldZ (Old H1) [] (sq [0,1,5,6] (.f 2 (.f 3 (sq [4] (.f 7 (.f 8 (sq [9] (.f 10 .e)))))))) rfl (by kernel_rfl) ?_
    (conv => whnf); refine fa fl120_0 ?_
    (conv => whnf); refine ld1 (v := nodeV a) ct30 (by rw [hb1.cell]; rfl) hxl ?_
    (conv => whnf); refine fa fl120_1 ?_
    (conv => whnf); refine ld1 (v := nodeV b) ct30 (by rw [hb1.cell]; rfl) hxl ?_
    (conv => whnf); refine pures (sure_p a H1) fun H2 ha2 => ?_
    refine ⟨ha2, ?_⟩
    (conv => whnf); refine VInv.mk (sizeF a) #[nodeP a] (size_m a) (iha (by omega) H2) ?_
    rintro _ H3 ⟨rfl, ha3⟩
    have h13 := ha2.trans (ha3.mono fun k hk => old_lt ha2 hk)
    refine ⟨h13, ?_⟩
    (conv => whnf); rw [w64 (x := 1 + (a.nodes : Int)) (by omega) (by omega)]
    (conv => whnf); refine pures (sure_p b H3) fun H4 ha4 => ?_
    have h14 := h13.trans (ha4.mono fun k hk => old_lt h13 hk)
    refine ⟨h14, ?_⟩
    (conv => whnf); refine VInv.mk (sizeF b) #[nodeP b] (size_m b) (ihb (by omega) H4) ?_
    rintro _ H5 ⟨rfl, ha5⟩
    have h15 := h14.trans (ha5.mono fun k hk => old_lt h14 hk)
    refine ⟨h15, ?_⟩
    (conv => whnf); rw [w64 (x := 1 + (a.nodes : Int) + (b.nodes : Int)) (by omega) (by omega)]
    refine ⟨h15, ?_⟩
    (conv => whnf)
    exact ⟨by simp only [ReM.nodes]; simp, st1.old.trans (h15.mono fun k hk => st1.up hk)⟩
  | minus a b iha ihb =>
    intro hn H
    simp only [ReM.nodes] at hn
    refine FnOk.of_vc Try.func104 rfl (Try.call104 _) ?_
    (conv => whnf); refine vbox [nodeV a, nodeV b] rfl ?_
    intro x H1 hx hs1 hb1 ha1
    have st1 := (St.nil H).box hx hs1 hb1 ha1
    have hxl := hb1.lt
    (conv => whnf); refine VDraw.heldZ (Old H1) [] (sq [0,1,5,6] (.f 2 (.f 3 (sq [4] (.f 7 (.f 8 (sq [9] (.f 10 .e)))))))) rfl (by kernel_rfl) ?_
    (conv => whnf); refine fa fl121_0 ?_
    (conv => whnf); refine ld1 (v := nodeV a) ct30 (by rw [hb1.cell]; rfl) hxl ?_
    (conv => whnf); refine fa fl121_1 ?_
    (conv => whnf); refine ld1 (v := nodeV b) ct30 (by rw [hb1.cell]; rfl) hxl ?_
    (conv => whnf); refine pures (sure_p a H1) fun H2 ha2 => ?_
    refine ⟨ha2, ?_⟩
    (conv => whnf); refine VInv.mk (sizeF a) #[nodeP a] (size_m a) (iha (by omega) H2) ?_
    rintro _ H3 ⟨rfl, ha3⟩
    have h13 := ha2.trans (ha3.mono fun k hk => old_lt ha2 hk)
    refine ⟨h13, ?_⟩
    (conv => whnf); rw [w64 (x := 1 + (a.nodes : Int)) (by omega) (by omega)]
    (conv => whnf); refine pures (sure_p b H3) fun H4 ha4 => ?_
    have h14 := h13.trans (ha4.mono fun k hk => old_lt h13 hk)
    refine ⟨h14, ?_⟩
    (conv => whnf); refine VInv.mk (sizeF b) #[nodeP b] (size_m b) (ihb (by omega) H4) ?_
    rintro _ H5 ⟨rfl, ha5⟩
    have h15 := h14.trans (ha5.mono fun k hk => old_lt h14 hk)
    refine ⟨h15, ?_⟩
    (conv => whnf); rw [w64 (x := 1 + (a.nodes : Int) + (b.nodes : Int)) (by omega) (by omega)]
    refine ⟨h15, ?_⟩
    (conv => whnf)
    exact ⟨by simp only [ReM.nodes]; simp, st1.old.trans (h15.mono fun k hk => st1.up hk)⟩
/-! ### Build -/
theorem stM_nodes : ∀ r : ReM, stM r ≤ 2 * r.nodes
  | .eps => by simp [stM, ReM.nodes]
  | .cls _ => by simp [stM, ReM.nodes]
  | .cat a b => by have := stM_nodes a; have := stM_nodes b; simp only [stM, ReM.nodes]; omega
  | .alt a b => by have := stM_nodes a; have := stM_nodes b; simp only [stM, ReM.nodes]; omega
  | .star a => by have := stM_nodes a; simp only [stM, ReM.nodes]; omega
  | .and_ a b => by simp [stM]
  | .minus a b => by simp [stM]
def nfaOf (r : ReM) : NfM := ⟨(stM r : Int), ((bldM r 0).1 : Int), ((bldM r 0).2.1 : Int), (bldM r 0).2.2⟩
def zeroNf : Value := .agg #[.int .i64 0, .int .i64 0, .int .i64 0, .slice none 0 0]
/-- What Build of a plain tree answers. -/
def BldR (H H' : Heap) (r : ReM) (v : Value) : Prop := Agr (Old H) H H' ∧ if 2000 < r.nodes then v = .tuple #[zeroNf, .int .i64 24] else
  ∃ ea ec, v = .tuple #[.agg (nfL (nfaOf r) (.slice ea (nfaOf r).edges.length ec)).toArray, .int .i64 0] ∧ SlO tEd none_ H' H.size 81 (.slice ea (nfaOf r).edges.length ec) (nfaOf r).edges
theorem bd_z : (Try.prog.info? 104).bind (·.zero) = some (.agg #[.int .i64 0, .int .i64 0, .int .i64 0, .slice none 0 0, .nilFunc, .int .i64 0]) := rfl
set_option maxHeartbeats 4000000 in
theorem buildWith_c (r : ReM) (hpl : r.plain = true) (hb : r.nodes ≤ 1000000000) (H : Heap) : FnOk Try.prog 21 #[nodeV r, .nilFunc] H fun v H' => BldR H H' r v := by
  rw [nodeV_eq]
  refine FnOk.of_vc Try.func21 rfl (Try.call21 _) ?_
  (conv => whnf); refine valloc _ [.int .i64 0, .int .i64 0, .int .i64 0, .slice none 0 0] nfa_z rfl ?_
  intro y H1 hy hs1 hb1 ha1
  have st1 := (St.nil H).box hy hs1 hb1 ha1
  (conv => whnf); refine ifneq Try.underlying30 ?_
  (conv => whnf); refine VInv.mk (sizeF r) #[nodeP r] (size_m r) (size_p r hb H1) ?_
  rintro _ H2 ⟨rfl, ha2⟩
  have st2 := st1.call ha2
  by_cases hbig : 2000 < r.nodes
  · have d1 : decide ((2000 : Int) < (r.nodes : Int)) = true := decide_eq_true (by omega)
    (conv => whnf); rw [d1]
    (conv => whnf); refine vbuildS Try.underlying25 rfl _ nfa_z [.int .i64 0, .int .i64 0, .int .i64 0, .slice none 0 0] rfl ?_
    (conv => whnf); refine stNB (cs := [.int .i64 0, .int .i64 0, .int .i64 0, .slice none 0 0]) st2 0 rfl rfl (Nat.le_refl _) rfl fun H3 st3 => ?_
    (conv => whnf); refine ldN (cs := [.int .i64 0, .int .i64 0, .int .i64 0, .slice none 0 0]) ag25 ((st3.blk 0 rfl).cells fun j v hv => by rw [Nat.zero_add]; exact hv) trivial ?_
    (conv => whnf)
    exact ⟨st3.old, by rw [if_pos hbig]; rfl⟩
  · have d1 : decide ((2000 : Int) < (r.nodes : Int)) = false := decide_eq_false (by omega)
    have hst := stM_nodes r
    have hin := bldM_in r hpl 0
    (conv => whnf); rw [d1]
    (conv => whnf); refine vbuildS Try.underlying104 rfl _ bd_z (bdL 0 (.slice none 0 0) .nilFunc) (by kernel_rfl) ?_
    (conv => whnf); refine vbox (bdL 0 (.slice none 0 0) .nilFunc) rfl ?_
    intro bb H3 hbb hs3 hb3 ha3
    have st3 : St H H3 (pB tBd bb (bdL 0 (.slice none 0 0) .nilFunc) :: pS tEd 81 none 0 0 [] :: [pB 25 y [.int .i64 0, .int .i64 0, .int .i64 0, .slice none 0 0]]) := ((st2.box hbb hs3 hb3 ha3).nils tEd 81).pick [1, 2, 0] (by decide)
    have hp := part_c (sub := .nilFunc) (n := 0) (es := []) r hpl st3 (by omega) (by simp only [List.length_nil]; omega)
    rw [nodeV_eq] at hp
    (conv => whnf); refine VCall.mk hp ?_
    rintro _ H4 ⟨rfl, a4, c4, st4⟩
    rw [List.nil_append, Nat.zero_add] at st4
    (conv => whnf); refine fa fl104_0 ?_
    (conv => whnf); refine fa fl25_1 ?_
    (conv => whnf); refine st1B st4 0 ct3 rfl (show 1 < 6 by decide) rfl fun H5 st5 => ?_
    (conv => whnf); refine fa fl104_0 ?_
    (conv => whnf); refine fa fl25_2 ?_
    (conv => whnf); refine st1B st5 0 ct3 rfl (show 2 < 6 by decide) rfl fun H6 st6 => ?_
    (conv => whnf); refine fa fl104_2 ?_
    (conv => whnf); refine ld1 (v := .int .i64 0) ct26 (by rw [(st6.blk 0 rfl).cell]; rfl) trivial ?_
    (conv => whnf); refine fa fl104_0 ?_
    (conv => whnf); refine fa fl25_0 ?_
    (conv => whnf); refine ld1 (v := .int .i64 (stM r : Int)) ct3 (by rw [(st6.blk 0 rfl).cell]; rfl) trivial ?_
    have d2 : decide ((65536 : Int) < (stM r : Int)) = false := decide_eq_false (by omega)
    (conv => whnf); rw [d2]
    (conv => whnf); refine fa fl104_0 ?_
    have hc6 : Cells H6 bb 0 (nfL (nfaOf r) (.slice a4 (nfaOf r).edges.length c4)) := (st6.blk 0 rfl).cells fun j v hv => by
      rw [Nat.zero_add]
      match j, hv with
      | 0, hv => exact hv
      | 1, hv => exact hv
      | 2, hv => exact hv
      | 3, hv => exact hv
    (conv => whnf); refine ldN (cs := nfL (nfaOf r) (.slice a4 (nfaOf r).edges.length c4)) ag25 hc6 trivial ?_
    (conv => whnf); refine stNB (cs := nfL (nfaOf r) (.slice a4 (nfaOf r).edges.length c4)) st6 2 rfl rfl (Nat.le_refl _) rfl fun H7 st7 => ?_
    rw [splice_all (show (nfL (nfaOf r) (.slice a4 (nfaOf r).edges.length c4)).length = 4 from rfl)] at st7
    (conv => whnf); refine ldN (cs := nfL (nfaOf r) (.slice a4 (nfaOf r).edges.length c4)) ag25 ((st7.blk 2 rfl).cells fun j v hv => by rw [Nat.zero_add]; exact hv) trivial ?_
    (conv => whnf)
    exact ⟨st7.old, by rw [if_neg hbig]; exact ⟨a4, c4, rfl, St.own st7 1 rfl⟩⟩
set_option maxHeartbeats 4000000 in
theorem build_c (r : ReM) (hpl : r.plain = true) (hb : r.nodes ≤ 1000000000) (H : Heap) : FnOk Try.prog 8 #[nodeV r] H fun v H' => BldR H H' r v := by
  refine FnOk.of_vc Try.func8 rfl (Try.call8 _) ?_
  (conv => whnf); refine valloc _ [.int .i64 0, .int .i64 0, .int .i64 0, .slice none 0 0] nfa_z rfl ?_
  intro y H1 hy hs1 hb1 ha1
  have st1 := (St.nil H).box hy hs1 hb1 ha1
  (conv => whnf); refine VCall.mk (buildWith_c r hpl hb H1) ?_
  rintro v H2 ⟨ha2, hv⟩
  have st2 := st1.call ha2
  by_cases hbig : 2000 < r.nodes
  · rw [if_pos hbig] at hv
    subst hv
    (conv => whnf); refine stNB (cs := [.int .i64 0, .int .i64 0, .int .i64 0, .slice none 0 0]) st2 0 rfl rfl (Nat.le_refl _) rfl fun H3 st3 => ?_
    (conv => whnf); refine ldN (cs := [.int .i64 0, .int .i64 0, .int .i64 0, .slice none 0 0]) ag25 ((st3.blk 0 rfl).cells fun j v hv => by rw [Nat.zero_add]; exact hv) trivial ?_
    (conv => whnf)
    exact ⟨st3.old, by rw [if_pos hbig]; rfl⟩
  · rw [if_neg hbig] at hv
    obtain ⟨ea, ec, rfl, hown⟩ := hv
    obtain ⟨ea', ec', e3, st3⟩ := st1.got ha2 hown
    injection e3 with e31 e32 e33
    subst e31; subst e33
    (conv => whnf); refine stNB (cs := nfL (nfaOf r) (.slice ea (nfaOf r).edges.length ec)) st3 0 rfl rfl (Nat.le_refl _) rfl fun H7 st7 => ?_
    rw [splice_all (show (nfL (nfaOf r) (.slice ea (nfaOf r).edges.length ec)).length = 4 from rfl)] at st7
    (conv => whnf); refine ldN (cs := nfL (nfaOf r) (.slice ea (nfaOf r).edges.length ec)) ag25 ((st7.blk 0 rfl).cells fun j v hv => by rw [Nat.zero_add]; exact hv) trivial ?_
    (conv => whnf)
    exact ⟨st7.old, by rw [if_neg hbig]; exact ⟨ea, ec, rfl, St.own st7 1 rfl⟩⟩
/-! ### texts -/
def ofB (x : BitVec 256) (l : List Nat) : BitVec 256 := l.foldl (fun x b => x ||| BitVec.twoPow 256 b) x
set_option maxHeartbeats 4000000 in
theorem of_p (s : ByteArray) (hs : s.size ≤ 1048576) (H : Heap) : Pure Try.prog 22 #[.string s] H (setV (ofB 0#256 (byN s))) := by
  refine FnOk.of_vc Try.func22 rfl (Try.call22 _) ?_
  (conv => whnf); refine valloc (setV 0) (setL 0) rfl rfl ?_
  intro r H1 hr hs1 hb1 ha1
  have st1 := (St.nil H).box hr hs1 hb1 ha1
  (conv => whnf); refine valloc (setV 0) (setL 0) rfl rfl ?_
  intro p H2 hp hs2 hb2 ha2
  have st2 := st1.box hp hs2 hb2 ha2
  (conv => whnf)
  refine VLoop.mk [7] (fun i : Nat => [.int .i64 (i : Int)]) (fun i H3 => i ≤ s.size ∧ St H H3 [pB 65 r (setL 0), pB 65 p (setL (ofB 0#256 ((byN s).take i)))]) (fun i _ => s.size - i) ?_ ?_
  · (conv => whnf)
    exact ⟨0, rfl, Nat.zero_le _, st2⟩
  · rintro i H3 junk ⟨hi, st3⟩
    (conv => whnf); refine VIte.mk (fun h => ?_) (fun h => ?_) <;> simp only [decide_eq_true_eq, decide_eq_false_iff_not] at h
    · obtain ⟨c, hc⟩ := getB (s := s) (k := i) (by omega)
      obtain ⟨b, hb⟩ : ∃ b, b = c.toNat := ⟨_, rfl⟩
      have hb256 : b < 256 := by rw [hb]; exact UInt8.toNat_lt c
      obtain ⟨x, hx⟩ : ∃ x, x = ofB 0#256 ((byN s).take i) := ⟨_, rfl⟩
      have hnext : ofB 0#256 ((byN s).take (i + 1)) = x ||| BitVec.twoPow 256 b := by
        rw [take_succ_snoc (byN_get hc), hx, hb]
        unfold ofB
        rw [List.foldl_append]
        rfl
      rw [← hx] at st3
      have hbp := st3.blk 1 rfl
      have hpl := (st3.in_ 1 rfl rfl).2
      (conv => whnf); refine VDraw.heldZ (Old H3) [13] (sq [0,1,2,3,4,5,6,7,8,9,10,11,12] (.f 13 .e)) rfl (by kernel_rfl) ?_
      (conv => whnf); refine vidxs Try.underlying9 rfl hc ?_
      rw [← hb]
      (conv => whnf); refine vshr (b := 6) (by decide) ?_
      (conv => whnf); refine ixa ar65 (by omega) (by omega) ?_
      (conv => whnf); refine ld1 ct57 (v := .int .u64 (wd x (b / 64))) (by rw [hbp.cell, Nat.zero_add, Nat.mul_one]; exact setL_get x b (by omega)) hpl ?_
      (conv => whnf); refine vidxs Try.underlying9 rfl hc ?_
      rw [← hb]
      (conv => whnf); refine vand (b := 63) (inU8 hb256) (inU8 (by decide)) ?_
      have hpow : 2 ^ (b % 64) < 2 ^ 64 := Nat.pow_lt_pow_right (by decide) (by omega)
      rw [and63]
      have hin : inK .u64 ((1 * 2 ^ (b % 64) : Nat) : Int) := inU64 (by omega)
      (conv => whnf); refine vshl (a := 1) (by simp [IntKind.bits]; omega) hin ?_
      (conv => whnf); refine vor (wd_in x _) hin ?_
      (conv => whnf); refine ixa ar65 (by omega) (by omega) ?_
      (conv => whnf); refine st1B st3 1 ct57 rfl (by simp [setL]; omega) rfl fun H4 st4 => ?_
      (conv => whnf); rw [w64 (x := (i : Int) + 1) (by omega) (by omega)]
      refine ⟨rfl, i + 1, by simp, ⟨by omega, ?_⟩, by omega⟩
      rw [hnext, ← setL_put x b (by omega)]
      rw [Nat.zero_add, Nat.mul_one, Nat.one_mul] at st4
      exact st4
    · obtain rfl : i = s.size := by omega
      rw [List.take_of_length_le (by rw [byN_len]; exact Nat.le_refl _)] at st3
      generalize ofB 0#256 (byN s) = x at *
      (conv => whnf); refine ldN (cs := setL x) ag65 ((st3.blk 1 rfl).cells fun j v hv => by rw [Nat.zero_add]; exact hv) trivial ?_
      (conv => whnf); refine stNB (cs := setL x) st3 0 rfl rfl (Nat.le_refl _) rfl fun H4 st4 => ?_
      rw [splice_all (show (setL x).length = (setL 0).length from rfl)] at st4
      (conv => whnf); refine ldN (cs := setL x) ag65 ((st4.blk 0 rfl).cells fun j v hv => by rw [Nat.zero_add]; exact hv) trivial ?_
      exact ⟨rfl, st4.old⟩
def oneS (b : Nat) : BitVec 256 := ofB 0#256 [b]
def textR : List Nat → ReM
  | [] => .eps
  | b :: l => l.foldl (fun r c => .cat r (.cls (oneS c))) (.cls (oneS b))
theorem textR_snoc {l : List Nat} (h : l ≠ []) (c : Nat) : textR (l ++ [c]) = .cat (textR l) (.cls (oneS c)) := by
  cases l with
  | nil => exact absurd rfl h
  | cons b l => simp [textR, List.foldl_append]
theorem textR_plain (l : List Nat) : (textR l).plain = true := by
  cases l with
  | nil => rfl
  | cons b l =>
    unfold textR
    have key : ∀ (l : List Nat) (r : ReM), r.plain = true → (l.foldl (fun r c => ReM.cat r (.cls (oneS c))) r).plain = true := by
      intro l
      induction l with
      | nil => exact fun r h => h
      | cons c l ih => exact fun r h => ih _ (by simp [ReM.plain, h])
    exact key l _ rfl
theorem textR_nodes : ∀ (l : List Nat), (textR l).nodes + 1 = max 2 (2 * l.length) := by
  intro l
  cases l with
  | nil => rfl
  | cons b l =>
    unfold textR
    have key : ∀ (l : List Nat) (r : ReM), (l.foldl (fun r c => ReM.cat r (.cls (oneS c))) r).nodes = r.nodes + 2 * l.length := by
      intro l
      induction l with
      | nil => exact fun r => rfl
      | cons c l ih => intro r; rw [List.foldl_cons, ih]; simp only [ReM.nodes, List.length_cons]; omega
    rw [key]
    simp only [ReM.nodes, List.length_cons]
    omega
def textV (l : List Nat) : Value := match l with | [] => .nilIface | _ => nodeV (textR l)
theorem ext_one {s : ByteArray} {i : Nat} {c : UInt8} (h : s.data[i]? = some c) : byN (s.extract i (i + 1)) = [c.toNat] := by
  have hi := (Array.getElem?_eq_some_iff.1 h).1
  unfold byN
  rw [ByteArray.data_extract, Array.toList_extract, List.extract_eq_take_drop]
  have : (s.data.toList.drop i).take (i + 1 - i) = [c] := by
    rw [show i + 1 - i = 1 by omega]
    have h2 : s.data.toList[i]? = some c := by rw [Array.getElem?_toList]; exact h
    obtain ⟨h3, h4⟩ := List.getElem?_eq_some_iff.1 h2
    rw [List.drop_eq_getElem_cons h3, h4]
    rfl
  rw [this]
  rfl
set_option maxHeartbeats 8000000 in
theorem text_p (s : ByteArray) (hs : s.size ≤ 1048576) (H : Heap) : Pure Try.prog 9 #[.string s] H (nodeV (textR (byN s))) := by
  refine FnOk.of_vc Try.func9 rfl (Try.call9 _) ?_
  have hbl := byN_len s
  by_cases he : s.size = 0
  · have hnil : byN s = [] := List.eq_nil_of_length_eq_zero (by omega)
    have hse : s = ⟨#[]⟩ := text_inj (by
      have : s.data.toList = [] := List.eq_nil_of_length_eq_zero (by rw [Array.length_toList]; exact he)
      rw [this])
    have d0 : (s.toList == (⟨#[]⟩ : ByteArray).toList) = true := by rw [hse]; simp
    (conv => whnf); rw [d0]
    (conv => whnf); refine vbuildS Try.underlying64 rfl _ node_z1 [] rfl ?_
    (conv => whnf)
    exact ⟨by rw [hnil]; rfl, Agr.refl _ _⟩
  · have d0 : (s.toList == (⟨#[]⟩ : ByteArray).toList) = false := by
      cases h : (s.toList == (⟨#[]⟩ : ByteArray).toList) with
      | false => rfl
      | true =>
        rw [text_eq] at h
        rw [h] at he
        exact absurd rfl he
    (conv => whnf); rw [d0]
    (conv => whnf)
    refine VLoop.mk [3, 12] (fun i : Nat => [textV ((byN s).take i), .int .i64 (i : Int)]) (fun i H2 => i ≤ s.size ∧ St H H2 []) (fun i _ => s.size - i) ?_ ?_
    · (conv => whnf)
      exact ⟨0, rfl, Nat.zero_le _, St.nil H⟩
    · rintro i H2 junk ⟨hi, st2⟩
      (conv => whnf); refine VIte.mk (fun hz => ?_) (fun hz => ?_) <;> simp only [decide_eq_true_eq, decide_eq_false_iff_not] at hz
      · obtain ⟨c, hc⟩ := getB (s := s) (k := i) (by omega)
        have w1 : IntKind.wrap .i64 ((i : Int) + 1) = ((i + 1 : Nat) : Int) := by rw [w64 (by omega) (by omega)]; omega
        (conv => whnf); refine VSeq.run ?_
        (conv => whnf); rw [w1]
        (conv => whnf); refine vcutS (l := (i : Int)) (h := ((i + 1 : Nat) : Int)) Try.underlying9 (by omega) (by omega) (by omega) ?_
        rw [Int.toNat_natCast, Int.toNat_natCast]
        (conv => whnf); refine pures (of_p (s.extract i (i + 1)) (by simp; omega) H2) fun H3 ha3 => ?_
        have st3 := st2.call ha3
        rw [ext_one hc]
        (conv => whnf); refine vbuildS Try.underlying68 rfl _ node_z2 (setL (oneS c.toNat)) (by unfold setL; kernel_rfl) ?_
        (conv => whnf); refine valloc _ [.int .u64 0, .int .u64 0, .int .u64 0, .int .u64 0] node_z2 rfl ?_
        intro x H4 hx hs4 hb4 ha4
        have st4 := st3.box hx hs4 hb4 ha4
        (conv => whnf); refine stNB (cs := setL (oneS c.toNat)) st4 0 rfl rfl (Nat.le_refl _) rfl fun H5 st5 => ?_
        rw [splice_all (show (setL (oneS c.toNat)).length = 4 from rfl)] at st5
        have htk := take_succ_snoc (byN_get hc)
        have hb5 : Cells H5 x 0 (setL (oneS c.toNat)) := (st5.blk 0 rfl).cells fun j v hv => by rw [Nat.zero_add]; exact hv
        by_cases hi0 : i = 0
        · subst hi0
          (conv => whnf); refine ifeqN Try.underlying30 ?_
          (conv => whnf); refine ldN (cs := setL (oneS c.toNat)) ag68 hb5 trivial ?_
          (conv => whnf); rw [w1]
          refine ⟨rfl, 0 + 1, ?_, ⟨by omega, st5.pick [] (by decide)⟩, by omega⟩
          rw [htk]
          rfl
        · have hne : (byN s).take i ≠ [] := fun e => by
            have h := congrArg List.length e
            rw [List.length_take, hbl, List.length_nil] at h
            omega
          have htv : textV ((byN s).take i) = .iface (nodeT (textR ((byN s).take i))) (nodeP (textR ((byN s).take i))) := by
            rw [← nodeV_eq]
            cases h : (byN s).take i with
            | nil => exact absurd h hne
            | cons b l => rfl
          have htv2 : textV ((byN s).take (i + 1)) = .iface 70 (.agg #[.iface (nodeT (textR ((byN s).take i))) (nodeP (textR ((byN s).take i))), .iface 68 (setV (oneS c.toNat))]) := by
            have : textV ((byN s).take (i + 1)) = nodeV (textR ((byN s).take (i + 1))) := by
              cases h : (byN s).take (i + 1) with
              | nil =>
                have h9 := congrArg List.length h
                rw [List.length_take, hbl, List.length_nil] at h9
                omega
              | cons b l => rfl
            rw [this, htk, textR_snoc hne, ← nodeV_eq]
            rfl
          rw [htv]
          generalize nodeT (textR ((byN s).take i)) = NT at *
          generalize nodeP (textR ((byN s).take i)) = NP at *
          (conv => whnf); refine ifeq Try.underlying30 ?_
          (conv => whnf); refine ldN (cs := setL (oneS c.toNat)) ag68 hb5 trivial ?_
          (conv => whnf); refine vbuildS Try.underlying70 rfl _ node_z3 [.iface NT NP, .iface 68 (setV (oneS c.toNat))] rfl ?_
          (conv => whnf); rw [w1]
          refine ⟨rfl, i + 1, ?_, ⟨by omega, st5.pick [] (by decide)⟩, by omega⟩
          rw [htv2]
      · obtain rfl : i = s.size := by omega
        (conv => whnf)
        rw [List.take_of_length_le (by rw [hbl]; exact Nat.le_refl _)]
        refine ⟨?_, st2.old⟩
        cases h : byN s with
        | nil => rw [h] at hbl; simp at hbl; omega
        | cons b l => rfl
end Go.Proofs.Ytlnmhfhdjnenoaa
