/- Parts of the proof: PNfa7, PDTx, VElem, PDp2, PDp3, PDp4, PDp5, PDp6, PDp7, PDp8, PDp9, PDp10 -/
import Derived.Test.YtlnmhfhdjnenoaaGreatDoorKNq5
import Derived.Test.YtlnmhfhdjnenoaaGreatDoorKNq2
import Derived.Test.YtlnmhfhdjnenoaaGreatDoorKNq3
import Derived.Test.YtlnmhfhdjnenoaaGreatDoorKNq4
/- The law's ints, holds, same: over equal things. -/
set_option linter.unusedVariables false
set_option linter.unusedSimpArgs false
set_option maxRecDepth 100000
namespace Go.Proofs.YtlnmhfhdjnenoaaGreatDoor
open Go.VC
theorem edDL_set (e : EdM) : ∀ (j : Nat) (v : Value), (funL fun b => e.set.getLsbD b)[j]? = some v → (edDL e)[3 + j]? = some v := by
  intro j v h
  have hj : j < 256 := by have := (List.getElem?_eq_some_iff.1 h).1; rwa [funL_len] at this
  rw [funL_get _ hj] at h
  rw [edDL_bit e hj]
  exact h
set_option maxHeartbeats 8000000 in
theorem same04_p {S S2 : Nat → Prop} {H : Heap} {v w : Value} {a : NfM} (hS : ∀ k, S k → k < H.size) (hS2 : ∀ k, S2 k → k < H.size) (h : NfV S H v a) (h2 : NdV S2 H w a) :
    Pure Tryz.prog 11 #[v, w] H (.bool true) := by
  have hr := h.1
  have hl := h.2.1
  refine FnOk.of_vc Tryz.func11 rfl (Tryz.call11 _) ?_
  (conv => whnf); refine nf_box h fun ea ec he h1 => ?_
  subst he
  intro p H1 hp hs1 hb1 ha1
  have st1 := (St.nil H).box hp hs1 hb1 ha1
  (conv => whnf); refine nd_box (h2.frame (st1.old.mono hS2)) fun fa_ fc hf g1 => ?_
  subst hf
  intro q H2 hq hs2 hb2 ha2
  have st2 := st1.box hq hs2 hb2 ha2
  have g2 : SlD tEdD S2 H2 fa_ fc a.edges := g1.frame (ha2.mono fun k hk => by have := st1.up (hS2 k hk); omega)
  have hB1 := st2.blk 0 rfl
  have hB2 := st2.blk 1 rfl
  have d1 : ∀ x : Int, (x != x) = false := fun x => by simp
  have d2 : ∀ x : Bool, (x != x) = false := fun x => by simp
  (conv => whnf); refine fa fl37_0 ?_
  (conv => whnf); refine ld1 (v := .int .i64 a.st) ct3 (by rw [hB1.cell]; rfl) trivial ?_
  (conv => whnf); refine fa fl42_0 ?_
  (conv => whnf); refine ld1 (v := .int .i64 a.st) ct3 (by rw [hB2.cell]; rfl) trivial ?_
  (conv => whnf); rw [d1]
  (conv => whnf); refine fa fl37_1 ?_
  (conv => whnf); refine ld1 (v := .int .i64 a.start) ct3 (by rw [hB1.cell]; rfl) trivial ?_
  (conv => whnf); refine fa fl42_1 ?_
  (conv => whnf); refine ld1 (v := .int .i64 a.start) ct3 (by rw [hB2.cell]; rfl) trivial ?_
  (conv => whnf); rw [d1]
  (conv => whnf); refine fa fl37_2 ?_
  (conv => whnf); refine ld1 (v := .int .i64 a.fin) ct3 (by rw [hB1.cell]; rfl) trivial ?_
  (conv => whnf); refine fa fl42_2 ?_
  (conv => whnf); refine ld1 (v := .int .i64 a.fin) ct3 (by rw [hB2.cell]; rfl) trivial ?_
  (conv => whnf); rw [d1]
  (conv => whnf); refine fa fl37_3 ?_
  (conv => whnf); refine ld1 (v := .slice ea a.edges.length ec) ct35 (by rw [hB1.cell]; rfl) trivial ?_
  (conv => whnf); refine fa fl42_3 ?_
  (conv => whnf); refine ld1 (v := .slice fa_ a.edges.length fc) ct40 (by rw [hB2.cell]; rfl) trivial ?_
  (conv => whnf); rw [d1]
  (conv => whnf)
  refine VLoop.mk [5] (fun i : Nat => [.int .i64 (i : Int)]) (fun i H3 => i ≤ a.edges.length ∧ St H H3 [pB 37 p (nfL a (.slice ea a.edges.length ec)), pB 42 q (nfL a (.slice fa_ a.edges.length fc))]) (fun i _ => a.edges.length - i) ?_ ?_
  · (conv => whnf)
    exact ⟨0, rfl, Nat.zero_le _, st2⟩
  · rintro i H3 junk ⟨hi, st3⟩
    have hC1 := st3.blk 0 rfl
    have hC2 := st3.blk 1 rfl
    (conv => whnf); refine fa fl42_3 ?_
    (conv => whnf); refine ld1 (v := .slice fa_ a.edges.length fc) ct40 (by rw [hC2.cell]; rfl) trivial ?_
    (conv => whnf); refine VIte.mk (fun hz => ?_) (fun hz => ?_) <;> simp only [decide_eq_true_eq, decide_eq_false_iff_not] at hz
    · obtain ⟨e, he⟩ := get_some (l := a.edges) (k := i) (by omega)
      have u1 : SlD tEd S H3 ea ec a.edges := (h1.frame (st3.old.mono hS))
      have u2 : SlD tEdD S2 H3 fa_ fc a.edges := g1.frame (show Agr S2 H1 H3 from fun k hk => by rw [st3.old k (hS2 k hk), st1.old k (hS2 k hk)])
      (conv => whnf); refine VDraw.heldZ (Old H3) [] (sq [0,1,2,3,4,5,6,7,8,9] (.b 10 (.f 11 (.f 12 (.f 13 .e))) 11 (.f 10 (.f 12 (.f 13 .e))))) rfl (by kernel_rfl) ?_
      (conv => whnf); refine fa fl37_3 ?_
      (conv => whnf); refine ld1 (v := .slice ea a.edges.length ec) ct35 (by rw [hC1.cell]; rfl) (st3.in_ 0 rfl rfl).2 ?_
      (conv => whnf); refine ixr (i := i) sl35 u1 he rfl ?_
      rintro b4 o4 c4 hS4 hc4 ⟨rfl, hok⟩
      (conv => whnf); refine ldN (cs := edL e) ag104 hc4 (st3.up (hS _ hS4)) ?_
      (conv => whnf); refine fa fl42_3 ?_
      (conv => whnf); refine ld1 (v := .slice fa_ a.edges.length fc) ct40 (by rw [hC2.cell]; rfl) (st3.in_ 1 rfl rfl).2 ?_
      (conv => whnf); refine ixr (i := i) sl40 u2 he rfl ?_
      rintro b5 o5 c5 hS5 hc5 ⟨rfl, -⟩
      (conv => whnf); refine ldN (cs := edDL e) (by rw [edDL_len]; exact ag106) hc5 (st3.up (hS2 _ hS5)) ?_
      (conv => whnf); refine ⟨?_, ?_⟩
      · have t3 := St.nil H3
        refine valloc _ [.int .i64 0, .int .i64 0, .bool false, .int .u64 0, .int .u64 0, .int .u64 0, .int .u64 0] edge_z rfl ?_
        intro x H4 hx4 hs4 hb4 ha4
        have t4 := t3.box hx4 hs4 hb4 ha4
        refine ⟨t4.old, ?_⟩
        (conv => whnf)
        refine valloc _ edZL edgeD_z rfl ?_
        intro y H5 hx5 hs5 hb5 ha5
        have t5 := t4.box hx5 hs5 hb5 ha5
        refine ⟨t5.old, ?_⟩
        (conv => whnf); refine stNB (cs := edL e) t5 0 rfl rfl (Nat.le_refl _) rfl fun H6 t6 => ?_
        refine ⟨t6.old, ?_⟩
        rw [splice_all (show (edL e).length = 7 from rfl)] at t6
        (conv => whnf); refine stNB (cs := edDL e) t6 1 (by rw [edDL_len]; rfl) rfl (by rw [edDL_len]; decide) (edD_ones e) fun H7 t7 => ?_
        refine ⟨t7.old, ?_⟩
        rw [splice_all (show (edDL e).length = edZL.length by rw [edDL_len, edZL_len])] at t7
        have st7 := st3.call t7.old
        have hx7 := t7.blk 0 rfl
        have hy7 := t7.blk 1 rfl
        have hxl := hx7.lt
        have hyl := hy7.lt
        (conv => whnf); refine VDraw.quiet (Old H7) rfl (by kernel_rfl) ?_
        (conv => whnf); refine fa fl104_0 ?_
        (conv => whnf); refine ld1 (v := .int .i64 e.fr) ct3 (by rw [hx7.cell]; rfl) hxl ?_
        (conv => whnf); refine fa fl106_0 ?_
        (conv => whnf); refine ld1 (v := .int .i64 e.fr) ct3 (by rw [hy7.cell]; rfl) hyl ?_
        (conv => whnf); rw [d1]
        (conv => whnf); refine fa fl104_1 ?_
        (conv => whnf); refine ld1 (v := .int .i64 e.to) ct3 (by rw [hx7.cell]; rfl) hxl ?_
        (conv => whnf); refine fa fl106_1 ?_
        (conv => whnf); refine ld1 (v := .int .i64 e.to) ct3 (by rw [hy7.cell]; rfl) hyl ?_
        (conv => whnf); rw [d1]
        (conv => whnf); refine fa fl104_2 ?_
        (conv => whnf); refine ld1 (v := .bool e.sil) ct4 (by rw [hx7.cell]; rfl) hxl ?_
        (conv => whnf); refine fa fl106_2 ?_
        (conv => whnf); refine ld1 (v := .bool e.sil) ct4 (by rw [hy7.cell]; rfl) hyl ?_
        (conv => whnf); refine bneq_b Tryz.underlying4 ?_
        rw [show (!(e.sil == e.sil)) = false by simp]
        (conv => whnf); refine fa fl104_3 ?_
        (conv => whnf); refine ldN (cs := setL e.set) ag102 (hx7.cells fun j v hv => edL_set e j v hv) hxl ?_
        (conv => whnf); refine fa fl106_3 ?_
        (conv => whnf); refine ldN (cs := funL fun b => e.set.getLsbD b) (by rw [funL_len]; exact ag92) (hy7.cells fun j v hv => edDL_set e j v hv) hyl ?_
        (conv => whnf); refine pureq (fun H' h' => words_p _ e.set (fun i hi => rfl) H') ?_
        (conv => whnf); refine set_neq4 e.set e.set ?_
        rw [show (!decide (e.set = e.set)) = false by simp]
        (conv => whnf)
        intro H8 ha8
        (conv => whnf); rw [w64 (x := (i : Int) + 1) (by omega) (by omega)]
        exact ⟨rfl, i + 1, by simp, ⟨by omega, st7.call ha8⟩, by omega⟩
      · have t3 := St.nil H3
        refine valloc _ edZL edgeD_z rfl ?_
        intro y H4 hx4 hs4 hb4 ha4
        have t4 := t3.box hx4 hs4 hb4 ha4
        refine ⟨t4.old, ?_⟩
        (conv => whnf)
        refine valloc _ [.int .i64 0, .int .i64 0, .bool false, .int .u64 0, .int .u64 0, .int .u64 0, .int .u64 0] edge_z rfl ?_
        intro x H5 hx5 hs5 hb5 ha5
        have t5 := t4.box hx5 hs5 hb5 ha5
        refine ⟨t5.old, ?_⟩
        (conv => whnf); refine stNB (cs := edL e) t5 1 rfl rfl (Nat.le_refl _) rfl fun H6 t6 => ?_
        refine ⟨t6.old, ?_⟩
        rw [splice_all (show (edL e).length = 7 from rfl)] at t6
        (conv => whnf); refine stNB (cs := edDL e) t6 0 (by rw [edDL_len]; rfl) rfl (by rw [edDL_len]; decide) (edD_ones e) fun H7 t7 => ?_
        refine ⟨t7.old, ?_⟩
        rw [splice_all (show (edDL e).length = edZL.length by rw [edDL_len, edZL_len])] at t7
        have st7 := st3.call t7.old
        have hx7 := t7.blk 1 rfl
        have hy7 := t7.blk 0 rfl
        have hxl := hx7.lt
        have hyl := hy7.lt
        (conv => whnf); refine VDraw.quiet (Old H7) rfl (by kernel_rfl) ?_
        (conv => whnf); refine fa fl104_0 ?_
        (conv => whnf); refine ld1 (v := .int .i64 e.fr) ct3 (by rw [hx7.cell]; rfl) hxl ?_
        (conv => whnf); refine fa fl106_0 ?_
        (conv => whnf); refine ld1 (v := .int .i64 e.fr) ct3 (by rw [hy7.cell]; rfl) hyl ?_
        (conv => whnf); rw [d1]
        (conv => whnf); refine fa fl104_1 ?_
        (conv => whnf); refine ld1 (v := .int .i64 e.to) ct3 (by rw [hx7.cell]; rfl) hxl ?_
        (conv => whnf); refine fa fl106_1 ?_
        (conv => whnf); refine ld1 (v := .int .i64 e.to) ct3 (by rw [hy7.cell]; rfl) hyl ?_
        (conv => whnf); rw [d1]
        (conv => whnf); refine fa fl104_2 ?_
        (conv => whnf); refine ld1 (v := .bool e.sil) ct4 (by rw [hx7.cell]; rfl) hxl ?_
        (conv => whnf); refine fa fl106_2 ?_
        (conv => whnf); refine ld1 (v := .bool e.sil) ct4 (by rw [hy7.cell]; rfl) hyl ?_
        (conv => whnf); refine bneq_b Tryz.underlying4 ?_
        rw [show (!(e.sil == e.sil)) = false by simp]
        (conv => whnf); refine fa fl104_3 ?_
        (conv => whnf); refine ldN (cs := setL e.set) ag102 (hx7.cells fun j v hv => edL_set e j v hv) hxl ?_
        (conv => whnf); refine fa fl106_3 ?_
        (conv => whnf); refine ldN (cs := funL fun b => e.set.getLsbD b) (by rw [funL_len]; exact ag92) (hy7.cells fun j v hv => edDL_set e j v hv) hyl ?_
        (conv => whnf); refine pureq (fun H' h' => words_p _ e.set (fun i hi => rfl) H') ?_
        (conv => whnf); refine set_neq4 e.set e.set ?_
        rw [show (!decide (e.set = e.set)) = false by simp]
        (conv => whnf)
        intro H8 ha8
        (conv => whnf); rw [w64 (x := (i : Int) + 1) (by omega) (by omega)]
        exact ⟨rfl, i + 1, by simp, ⟨by omega, st7.call ha8⟩, by omega⟩
    · (conv => whnf)
      exact ⟨rfl, st3.old⟩
end Go.Proofs.YtlnmhfhdjnenoaaGreatDoor
/- The document's Text, With, Build; the law NfaLarge: the walks. -/
set_option linter.unusedVariables false
set_option linter.unusedSimpArgs false
set_option maxRecDepth 100000
namespace Go.Proofs.YtlnmhfhdjnenoaaGreatDoor
open Go.VC
abbrev tRe : TypeId := 32
/-! ### put -/
section
variable {B : Nat → Prop} {H0 H : Heap} {rest : List Pc} {bb : Nat}
end
theorem re_z : (Tryz.prog.info? 32).bind (·.zero) = some (.agg #[.slice none 0 0, .int .i64 0]) := rfl
abbrev reZ : List Value := [.slice none 0 0, .int .i64 0]
end Go.Proofs.YtlnmhfhdjnenoaaGreatDoor
/- One cell of an element of a slice of the call's own. -/
set_option linter.unusedVariables false
set_option linter.unusedSimpArgs false
namespace Go.VC
section
variable {α : Type} {T : Ty α} {B : Nat → Prop} {H0 H : Heap} {ps : List Pc} {e : TypeId} {b n cap : Nat} {xs : List α}
/-- Its cells. -/
theorem StB.cellsE {j : Nat} {x : α} (st : StB B H0 H ps) (i : Nat) (hp : ps[i]? = some (pS T e (some ⟨b, 0, none⟩) n cap xs)) (hx : xs[j]? = some x) : ∃ c, Cells H b (j * T.size) c ∧ T.rep none_ H c x := by
  have hi := (List.getElem?_eq_some_iff.1 hx).1
  obtain ⟨-, -, -, l, -, -, h, -⟩ := (st.at_ i hp).1.placeS hi
  exact h x hx
theorem StB.ltE (st : StB B H0 H ps) (i : Nat) (hp : ps[i]? = some (pS T e (some ⟨b, 0, none⟩) n cap xs)) : b < H.size := (st.in_ i hp (.inl ⟨0, n, cap, rfl⟩)).2
/-- Its place. -/
theorem ixE {P : Program} {t by_ j : Nat} {z : Value} {k : IntKind} {ji : Int} {S0 : Nat → Prop} {H2 : Heap} {K : Value → Prop} (ht : SlT P t e T.size by_ z) (st : StB B H0 H ps) (i : Nat) (hp : ps[i]? = some (pS T e (some ⟨b, 0, none⟩) n cap xs))
    (hj : j < xs.length) (hji : ji = (j : Int)) (hk : K (.pointer (some ⟨b, j * T.size, none⟩))) : VDet P (Instr.indexAt t (.slice (some ⟨b, 0, none⟩) n cap) (.int k ji)) S0 H2 K := by
  have hn := st.len i hp
  exact ix ht (by omega) (by omega) (by rw [hji, Int.toNat_natCast, Nat.zero_add]; exact hk)
/-- One cell written. -/
theorem st1E {P : Program} {t j k : Nat} {v : Value} {x x' : α} {K : Heap → Prop} (st : StB B H0 H ps) (i : Nat) (ht : CellT P t) (hp : ps[i]? = some (pS T e (some ⟨b, 0, none⟩) n cap xs)) (hx : xs[j]? = some x) (hk : k < T.size) (hv : v.oneCell' = true)
    (hr : ∀ H' c, T.rep none_ H' c x → T.rep none_ H' (c.set k v) x') (kk : ∀ H', StB B H0 H' (ps.set i (pS T e (some ⟨b, 0, none⟩) n cap (xs.set j x'))) → Agr (fun q => q ≠ b) H H' → K H') :
    VEffU P (Instr.storeAt t (.pointer (some ⟨b, j * T.size + k, none⟩)) v) H K := by
  have hj := (List.getElem?_eq_some_iff.1 hx).1
  have hok := st.at_ i hp
  obtain ⟨-, -, -, l, hblk, hlen, hc, hput⟩ := hok.1.placeS hj
  obtain ⟨c, hc, hrep⟩ := hc x hx
  have hcl := T.len hrep
  refine VC.st1 ht hblk (by omega) hv ?_
  intro H' hb' ha' hs'
  have hSH : Agr none_ H H' := fun q hq => hq.elim
  have hrep' := hr H' c (T.frame hrep hSH)
  have hown := hput H' (c.set k v) x' (by
    have : splice l (j * T.size) (c.set k v) = l.set (j * T.size + k) v := by
      apply List.ext_getElem?
      intro m
      rw [splice_get (by rw [List.length_set, hcl]; exact hlen), List.length_set, hcl]
      by_cases hm : j * T.size ≤ m ∧ m < j * T.size + T.size
      · rw [if_pos hm]
        have hcm : m - j * T.size < c.length := by omega
        have hce : (c[m - j * T.size]?) = l[m]? := by
          have h1 := hc (m - j * T.size) _ (List.getElem?_eq_getElem hcm)
          rw [show j * T.size + (m - j * T.size) = m by omega, hblk.cell] at h1
          rw [List.getElem?_eq_getElem hcm, h1]
        by_cases hmk : m = j * T.size + k
        · subst hmk
          rw [show j * T.size + k - j * T.size = k by omega, List.getElem?_set_self (by omega), List.getElem?_set_self (by omega)]
        · rw [List.getElem?_set_ne (by omega), List.getElem?_set_ne (by omega), hce]
      · rw [if_neg hm, List.getElem?_set_ne (by omega)]
    rw [this]; exact hb') hSH hrep'
  exact kk H' (st.upd i hp (ha'.mono fun q hq hkb => hq.2 (.inl (by subst hkb; exact ⟨0, n, cap, rfl⟩))) _ ⟨hown, hok.2⟩ (fun q hq => .inl hq) (fun q hq => by rw [hs']; exact (st.in_ i hp hq).2) (by omega)) ha'
end
end Go.VC
/- The document's parser: add, settle, fold, close: the walks. -/
set_option linter.unusedVariables false
set_option linter.unusedSimpArgs false
set_option maxRecDepth 100000
namespace Go.Proofs.YtlnmhfhdjnenoaaGreatDoor
open Go.VC Go.Lib
abbrev tSt : TypeId := 83
abbrev stP (sb fb : Nat) (na : Option Addr) (nc fc n : Nat) (ds : List RnM) (frs : List FrD) (rest : List Pc) : List Pc :=
  pB tSt sb [.slice na ds.length nc, .slice (some ⟨fb, 0, none⟩) n fc] :: pS tRn 94 na ds.length nc ds :: pS tFr 85 (some ⟨fb, 0, none⟩) n fc frs :: rest
/-- The parser's state in memory. -/
structure Dst (B : Nat → Prop) (H0 H : Heap) (sb fb : Nat) (ds : List RnM) (frs : List FrD) (rest : List Pc) : Prop where
  ex : ∃ na nc fc n, StB B H0 H (stP sb fb na nc fc n ds frs rest)
def NumOk (x : Int) : Prop := -4294967296 < x ∧ x < 4294967296
theorem num_in {x : Int} (h : NumOk x) : inK .i64 x := by
  unfold NumOk at h
  unfold inK
  show (-9223372036854775808 : Int) ≤ x ∧ x ≤ 9223372036854775807
  omega
theorem bin_ok {op x y : Int} (h1 : NumOk op) (h2 : NumOk x) (h3 : NumOk y) : (binN op x y).Ok := ⟨num_in h1, num_in h2, num_in h3, num_in (x := 0) (by unfold NumOk; omega), num_in (x := 0) (by unfold NumOk; omega)⟩
section
variable {B : Nat → Prop} {H0 H : Heap} {sb fb nc fc n : Nat} {na : Option Addr} {ds : List RnM} {frs : List FrD} {rest : List Pc}
theorem add_c {op x y : Int} (st : StB B H0 H (stP sb fb na nc fc n ds frs rest)) (h1 : NumOk op) (h2 : NumOk x) (h3 : NumOk y) (hl : ds.length ≤ 16777216) :
    FnOk Tryz.prog 55 #[.pointer (some ⟨sb, 0, none⟩), .int .i64 op, .int .i64 x, .int .i64 y] H
      (fun v H' => v = .int .i64 (ds.length : Int) ∧ Agr (fun k => k = fb) H H' ∧ ∃ na' nc', StB B H0 H' (stP sb fb na' nc' fc n (ds ++ [binN op x y]) frs rest)) := by
  have f1 : fb ≠ sb := fun e => st.apart2 (i := 0) (j := 2) rfl rfl (by decide) sb rfl (.inl ⟨0, n, fc, by rw [e]⟩)
  have f2 : ¬ slB (.slice na ds.length nc) fb := fun e => st.apart2 (i := 1) (j := 2) rfl rfl (by decide) fb (.inl e) (.inl ⟨0, n, fc, rfl⟩)
  have f3 : fb < H.size := st.ltE 2 rfl
  refine FnOk.of_vc Tryz.func55 rfl (Tryz.call55 _) ?_
  (conv => whnf); refine VC.fa fl83_0 ?_
  (conv => whnf); refine ld1 (v := .slice na ds.length nc) ct30 (by rw [(st.blk 0 rfl).cell]; rfl) trivial ?_
  (conv => whnf); refine rn_build2 op x y ?_
  (conv => whnf); refine vbuild1 sl30 (rnL (binN op x y)) rfl (rnL_len _) (by decide) (by decide) ?_
  intro z H1 hz hs1 hb1 ha1
  have st1 := st.skip hz ha1
  (conv => whnf); refine appG (ys := [binN op x y]) st1 1 sl30 rfl (hb1.cells (o := 0) (cs := rnL (binN op x y)) fun j v hv => by rw [Nat.zero_add]; exact hv) (Ty.reps_one ⟨rfl, bin_ok h1 h2 h3⟩) rfl (fun u hu => List.all_eq_true.1 (rn_ones _) u hu) (by simp [maxLen]; omega) (by simp; omega) fun a9 c9 H9 st9 ha9 => ?_
  have el : ds.length + [binN op x y].length = (ds ++ [binN op x y]).length := by simp
  rw [el] at st9 ⊢
  (conv => whnf); refine VC.fa fl83_0 ?_
  (conv => whnf); refine st1Ba st9 0 ct30 rfl (show 0 < 2 by decide) rfl fun H10 st10 ja js => ?_
  (conv => whnf); refine VC.fa fl83_0 ?_
  (conv => whnf); refine ld1 (v := .slice a9 (ds ++ [binN op x y]).length c9) ct30 (by rw [(st10.blk 0 rfl).cell]; rfl) trivial ?_
  have w1 : IntKind.wrap .i64 (((ds ++ [binN op x y]).length : Int) - 1) = (ds.length : Int) := by
    rw [List.length_append, List.length_singleton, w64 (by omega) (by omega)]; omega
  (conv => whnf); rw [w1]
  (conv => whnf)
  refine ⟨rfl, ?_, a9, c9, st10⟩
  rintro k rfl
  rw [ja _ f1, ha9 _ ⟨by have : z = H.size := hz; omega, f2⟩, ha1 _ (by have : z = H.size := hz; omega)]
-- generated below
theorem fr_cell {fr : List FrD} {f : FrD} {k : Nat} {v : Value} (st : StB B H0 H (stP sb fb na nc fc n ds (fr ++ [f]) rest)) (hk : (frL f)[k]? = some v) : cell H fb (fr.length * tFr.size + k) = some v := by
  obtain ⟨c, hc, rfl⟩ := st.cellsE 2 rfl (x := f) (j := fr.length) (by simp)
  exact hc k v hk
theorem fr_lt {fr : List FrD} {f : FrD} (st : StB B H0 H (stP sb fb na nc fc n ds (fr ++ [f]) rest)) : n = fr.length + 1 := by
  have := st.len 2 rfl
  rw [this]; simp
theorem st1F {t k : Nat} {v : Value} {fr : List FrD} {f f' : FrD} {K : Heap → Prop} (st : StB B H0 H (stP sb fb na nc fc n ds (fr ++ [f]) rest)) (ht : CellT Tryz.prog t) (hk : k < 6) (hv : v.oneCell' = true) (hr : (frL f).set k v = frL f')
    (kk : ∀ H', StB B H0 H' (stP sb fb na nc fc n ds (fr ++ [f']) rest) → Agr (fun q => q ≠ fb) H H' → K H') : VEffU Tryz.prog (Instr.storeAt t (.pointer (some ⟨fb, fr.length * tFr.size + k, none⟩)) v) H K := by
  refine st1E (T := tFr) (x := f) (x' := f') st 2 ht rfl (by simp) hk hv (fun H' c hc => by rw [show c = frL f from hc]; exact hr) fun H' st' ha => ?_
  rw [show (fr ++ [f]).set fr.length f' = fr ++ [f'] from by simp] at st'
  exact kk H' st' ha
structure FrN (f : FrD) : Prop where
  alt : NumOk f.alt
  meet : NumOk f.meet
  row : NumOk f.row
  factor : NumOk f.factor
theorem num_m1 : NumOk (-1) := by unfold NumOk; omega
theorem num_len {m : Nat} (h : m ≤ 16777216) : NumOk (m : Int) := by unfold NumOk; omega
theorem settleD_num {ds : List RnM} {f : FrD} (h : FrN f) (hl : ds.length ≤ 16777216) : FrN (settleD ds f).2 := by
  unfold settleD
  split
  · exact h
  · split
    · exact ⟨h.alt, h.meet, h.factor, num_m1⟩
    · exact ⟨h.alt, h.meet, num_len hl, num_m1⟩
theorem emptyD_num {ds : List RnM} {f : FrD} (h : FrN f) (hl : ds.length ≤ 16777216) : FrN (emptyD ds f).2 := by
  unfold emptyD
  split
  · exact ⟨h.alt, h.meet, num_len hl, h.factor⟩
  · exact h
theorem meetD_num {ds : List RnM} {f : FrD} (h : FrN f) (hl : ds.length ≤ 16777216) : FrN (meetD ds f).2 := by
  unfold meetD
  split
  · exact ⟨h.alt, h.row, num_m1, h.factor⟩
  · exact ⟨h.alt, num_len hl, num_m1, h.factor⟩
theorem foldD_num {ds : List RnM} {f : FrD} (h : FrN f) (hl : ds.length ≤ 16777200) : FrN (foldD ds f).2 := by
  unfold foldD
  have h1 := settleD_len ds f
  have h2 := emptyD_len (settleD ds f).1 (settleD ds f).2
  exact meetD_num (emptyD_num (settleD_num h (by omega)) (by omega)) (by omega)
set_option maxHeartbeats 4000000 in
theorem dsettle_c {fr : List FrD} {f : FrD} (st : StB B H0 H (stP sb fb na nc fc n ds (fr ++ [f]) rest)) (hn : FrN f) (hl : ds.length ≤ 16777216) :
    FnOk Tryz.prog 33 #[.pointer (some ⟨sb, 0, none⟩)] H (fun _ H' => ∃ na' nc', StB B H0 H' (stP sb fb na' nc' fc n (settleD ds f).1 (fr ++ [(settleD ds f).2]) rest)) := by
  have hlen := fr_lt st
  have hmx := st.max 2 rfl
  simp only [List.length_append, List.length_singleton, maxLen] at hmx
  refine FnOk.of_vc Tryz.func33 rfl (Tryz.call33 _) ?_
  (conv => whnf); refine VDraw.lex rfl (by kernel_rfl) ?_
  (conv => whnf); refine VC.fa fl83_1 ?_
  (conv => whnf); refine ld1 (v := .slice (some ⟨fb, 0, none⟩) n fc) ct81 (by rw [(st.blk 0 rfl).cell]; rfl) trivial ?_
  (conv => whnf); refine VC.fa fl83_1 ?_
  (conv => whnf); refine ld1 (v := .slice (some ⟨fb, 0, none⟩) n fc) ct81 (by rw [(st.blk 0 rfl).cell]; rfl) trivial ?_
  (conv => whnf); rw [w64 (x := (n : Int) - 1) (by omega) (by omega)]
  (conv => whnf); refine ixE (j := fr.length) sl81 st 2 rfl (by simp) (by omega) ?_
  (conv => whnf); refine VC.fa fl85_5 ?_
  (conv => whnf); refine ld1 (v := .int .i64 f.factor) ct3 (fr_cell st (k := 5) rfl) trivial ?_
  by_cases h1 : f.factor < 0
  · have d1 : decide (f.factor < 0) = true := decide_eq_true h1
    have e : settleD ds f = (ds, f) := by unfold settleD; rw [if_pos h1]
    (conv => whnf); rw [d1]
    (conv => whnf)
    rw [e]
    exact ⟨na, nc, st⟩
  · have d1 : decide (f.factor < 0) = false := decide_eq_false h1
    (conv => whnf); rw [d1]
    (conv => whnf); try (refine VSeq.run ?_)
    (conv => whnf); refine VC.fa fl85_4 ?_
    (conv => whnf); refine ld1 (v := .int .i64 f.row) ct3 (fr_cell st (k := 4) rfl) trivial ?_
    by_cases h2 : f.row < 0
    · have d2 : decide (f.row < 0) = true := decide_eq_true h2
      have e : settleD ds f = (ds, { f with row := f.factor, factor := -1 }) := by unfold settleD; rw [if_neg h1, if_pos h2]
      (conv => whnf); rw [d2]
      (conv => whnf); refine VC.fa fl85_5 ?_
      (conv => whnf); refine ld1 (v := .int .i64 f.factor) ct3 (fr_cell st (k := 5) rfl) trivial ?_
      (conv => whnf); refine VC.fa fl85_4 ?_
      (conv => whnf); refine st1F (k := 4) (f' := { f with row := f.factor }) st ct3 (by decide) rfl rfl fun G1 sg1 ja => ?_
      (conv => whnf); refine VC.fa fl85_5 ?_
      (conv => whnf); refine st1F (k := 5) (f' := { f with row := f.factor, factor := -1 }) sg1 ct3 (by decide) rfl rfl fun G2 sg2 ja => ?_
      (conv => whnf)
      rw [e]
      exact ⟨na, nc, sg2⟩
    · have d2 : decide (f.row < 0) = false := decide_eq_false h2
      have e : settleD ds f = (ds ++ [binN 2 f.row f.factor], { f with row := ds.length, factor := -1 }) := by unfold settleD; rw [if_neg h1, if_neg h2]
      (conv => whnf); rw [d2]
      (conv => whnf); refine VDraw.heldZ (fun k => k = fb) [13] (sq [0,1,2,3,4,5,6,7,8,9] (.f 10 (sq [11,12] (.f 13 .e)))) rfl (by kernel_rfl) ?_
      (conv => whnf); refine VC.fa fl85_4 ?_
      (conv => whnf); refine ld1 (v := .int .i64 f.row) ct3 (fr_cell st (k := 4) rfl) rfl ?_
      (conv => whnf); refine VC.fa fl85_5 ?_
      (conv => whnf); refine ld1 (v := .int .i64 f.factor) ct3 (fr_cell st (k := 5) rfl) rfl ?_
      (conv => whnf); refine VCall.mk (add_c (op := 2) st (by unfold NumOk; omega) hn.row hn.factor hl) ?_
      rintro _ G1 ⟨rfl, af, na1, nc1, sg1⟩
      refine ⟨af, ?_⟩
      (conv => whnf); refine VC.fa fl85_4 ?_
      (conv => whnf); refine st1F (k := 4) (f' := { f with row := ds.length }) sg1 ct3 (by decide) rfl rfl fun G2 sg2 ja => ?_
      (conv => whnf); refine VC.fa fl85_5 ?_
      (conv => whnf); refine st1F (k := 5) (f' := { f with row := ds.length, factor := -1 }) sg2 ct3 (by decide) rfl rfl fun G3 sg3 ja => ?_
      (conv => whnf)
      rw [e]
      exact ⟨na1, nc1, sg3⟩
set_option maxHeartbeats 8000000 in
theorem dfold_c {fr : List FrD} {f : FrD} (st : StB B H0 H (stP sb fb na nc fc n ds (fr ++ [f]) rest)) (hn : FrN f) (hl : ds.length ≤ 16777200) :
    FnOk Tryz.prog 32 #[.pointer (some ⟨sb, 0, none⟩)] H (fun _ H' => ∃ na' nc', StB B H0 H' (stP sb fb na' nc' fc n (foldD ds f).1 (fr ++ [(foldD ds f).2]) rest)) := by
  have hlen := fr_lt st
  have hmx := st.max 2 rfl
  simp only [List.length_append, List.length_singleton, maxLen] at hmx
  refine FnOk.of_vc Tryz.func32 rfl (Tryz.call32 _) ?_
  (conv => whnf); refine VCall.mk (dsettle_c st hn (by omega)) ?_
  rintro v1 H1 ⟨na1, nc1, st1⟩
  have hn1 := settleD_num hn (ds := ds) (by omega)
  have hl1 := settleD_len ds f
  have e0 : foldD ds f = meetD (emptyD (settleD ds f).1 (settleD ds f).2).1 (emptyD (settleD ds f).1 (settleD ds f).2).2 := rfl
  obtain ⟨ds1, f1, hq⟩ : ∃ ds1 f1, settleD ds f = (ds1, f1) := ⟨_, _, rfl⟩
  rw [hq] at st1 hn1 hl1 e0
  replace st1 : StB B H0 H1 (stP sb fb na1 nc1 fc n ds1 (fr ++ [f1]) rest) := st1
  replace hn1 : FrN f1 := hn1
  replace hl1 : ds1.length ≤ ds.length + 1 := hl1
  replace e0 : foldD ds f = meetD (emptyD ds1 f1).1 (emptyD ds1 f1).2 := e0
  (conv => whnf); refine VDraw.lex rfl (by kernel_rfl) ?_
  (conv => whnf); refine VC.fa fl83_1 ?_
  (conv => whnf); refine ld1 (v := .slice (some ⟨fb, 0, none⟩) n fc) ct81 (by rw [(st1.blk 0 rfl).cell]; rfl) trivial ?_
  (conv => whnf); refine VC.fa fl83_1 ?_
  (conv => whnf); refine ld1 (v := .slice (some ⟨fb, 0, none⟩) n fc) ct81 (by rw [(st1.blk 0 rfl).cell]; rfl) trivial ?_
  (conv => whnf); rw [w64 (x := (n : Int) - 1) (by omega) (by omega)]
  (conv => whnf); refine ixE (j := fr.length) sl81 st1 2 rfl (by simp) (by omega) ?_
  (conv => whnf); try (refine VSeq.run ?_)
  (conv => whnf); refine VC.fa fl85_4 ?_
  (conv => whnf); refine ld1 (v := .int .i64 f1.row) ct3 (fr_cell st1 (k := 4) rfl) trivial ?_
  by_cases h2 : f1.row < 0
  · have d2 : decide (f1.row < 0) = true := decide_eq_true h2
    have e1 : meetD (emptyD ds1 f1).1 (emptyD ds1 f1).2 = meetD (ds1 ++ [binN 0 0 0]) { f1 with row := (ds1.length : Int) } := by unfold emptyD; rw [if_pos h2]
    (conv => whnf); rw [d2]
    (conv => whnf); refine VCall.mk (add_c (op := 0) (x := 0) (y := 0) st1 (by unfold NumOk; omega) (by unfold NumOk; omega) (by unfold NumOk; omega) (by omega)) ?_
    rintro _ G8 ⟨rfl, af8, na8, nc8, sg8⟩
    (conv => whnf); refine VC.fa fl85_4 ?_
    (conv => whnf); refine st1F (k := 4) (f' := { f1 with row := (ds1.length : Int) }) sg8 ct3 (by decide) rfl rfl fun G9 sg9 ja => ?_
    have hn2 : FrN { f1 with row := (ds1.length : Int) } := ⟨hn1.alt, hn1.meet, num_len (by omega), hn1.factor⟩
    (conv => whnf); try (refine VSeq.run ?_)
    (conv => whnf); refine VC.fa fl85_2 ?_
    (conv => whnf); refine ld1 (v := .int .i64 ({ f1 with row := (ds1.length : Int) }).meet) ct3 (fr_cell sg9 (k := 2) rfl) trivial ?_
    by_cases m1 : f1.meet < 0
    · have d3 : decide (f1.meet < 0) = true := decide_eq_true m1
      have e : foldD ds f = (ds1 ++ [binN 0 0 0], { ({ f1 with row := (ds1.length : Int) }) with meet := ({ f1 with row := (ds1.length : Int) }).row, row := -1 }) := by rw [e0, e1]; unfold meetD; rw [if_pos m1]
      (conv => whnf); rw [d3]
      (conv => whnf); refine VC.fa fl85_4 ?_
      (conv => whnf); refine ld1 (v := .int .i64 ({ f1 with row := (ds1.length : Int) }).row) ct3 (fr_cell sg9 (k := 4) rfl) trivial ?_
      (conv => whnf); refine VC.fa fl85_2 ?_
      (conv => whnf); refine st1F (k := 2) (f' := { ({ f1 with row := (ds1.length : Int) }) with meet := ({ f1 with row := (ds1.length : Int) }).row }) sg9 ct3 (by decide) rfl rfl fun G5 sg5 ja => ?_
      (conv => whnf); refine VC.fa fl85_4 ?_
      (conv => whnf); refine st1F (k := 4) (f' := { ({ f1 with row := (ds1.length : Int) }) with meet := ({ f1 with row := (ds1.length : Int) }).row, row := -1 }) sg5 ct3 (by decide) rfl rfl fun G6 sg6 ja => ?_
      (conv => whnf)
      rw [e]
      exact ⟨_, _, sg6⟩
    · have d3 : decide (f1.meet < 0) = false := decide_eq_false m1
      (conv => whnf); rw [d3]
      (conv => whnf); try (refine VSeq.run ?_)
      (conv => whnf); refine VC.fa fl85_3 ?_
      (conv => whnf); refine ld1 (v := .int .u8 (({ f1 with row := (ds1.length : Int) }).sign : Int)) ct5 (fr_cell sg9 (k := 3) rfl) trivial ?_
      by_cases s1 : f1.sign = 38
      · have d4 : ((f1.sign : Int) == 38) = true := by rw [s1]; rfl
        have e : foldD ds f = (ds1 ++ [binN 0 0 0] ++ [binN 5 ({ f1 with row := (ds1.length : Int) }).meet ({ f1 with row := (ds1.length : Int) }).row], { ({ f1 with row := (ds1.length : Int) }) with meet := ((ds1 ++ [binN 0 0 0]).length : Int), row := -1 }) := by rw [e0, e1]; unfold meetD; rw [if_neg m1]; show (_ ++ [binN (if f1.sign = 38 then 5 else 6) _ _], _) = _; rw [if_pos s1]
        (conv => whnf); rw [d4]
        (conv => whnf); refine VDraw.heldZ (fun k => k = fb) [13] (sq [0,1,2,3,4,5,6,7,8,9] (.f 10 (sq [11,12] (.f 13 .e)))) rfl (by kernel_rfl) ?_
        (conv => whnf); refine VC.fa fl85_2 ?_
        (conv => whnf); refine ld1 (v := .int .i64 ({ f1 with row := (ds1.length : Int) }).meet) ct3 (fr_cell sg9 (k := 2) rfl) rfl ?_
        (conv => whnf); refine VC.fa fl85_4 ?_
        (conv => whnf); refine ld1 (v := .int .i64 ({ f1 with row := (ds1.length : Int) }).row) ct3 (fr_cell sg9 (k := 4) rfl) rfl ?_
        (conv => whnf); refine VCall.mk (add_c (op := 5) sg9 (by unfold NumOk; omega) hn2.meet hn2.row (by simp; omega)) ?_
        rintro _ G1 ⟨rfl, af, na1, nc1, sg1⟩
        refine ⟨af, ?_⟩
        (conv => whnf); refine VC.fa fl85_2 ?_
        (conv => whnf); refine st1F (k := 2) (f' := { ({ f1 with row := (ds1.length : Int) }) with meet := ((ds1 ++ [binN 0 0 0]).length : Int) }) sg1 ct3 (by decide) rfl rfl fun G2 sg2 ja => ?_
        (conv => whnf); refine VC.fa fl85_4 ?_
        (conv => whnf); refine st1F (k := 4) (f' := { ({ f1 with row := (ds1.length : Int) }) with meet := ((ds1 ++ [binN 0 0 0]).length : Int), row := -1 }) sg2 ct3 (by decide) rfl rfl fun G6 sg6 ja => ?_
        (conv => whnf)
        rw [e]
        exact ⟨_, _, sg6⟩
      · have d4 : ((f1.sign : Int) == 38) = false := beq_eq_false_iff_ne.2 (by omega)
        have e : foldD ds f = (ds1 ++ [binN 0 0 0] ++ [binN 6 ({ f1 with row := (ds1.length : Int) }).meet ({ f1 with row := (ds1.length : Int) }).row], { ({ f1 with row := (ds1.length : Int) }) with meet := ((ds1 ++ [binN 0 0 0]).length : Int), row := -1 }) := by rw [e0, e1]; unfold meetD; rw [if_neg m1]; show (_ ++ [binN (if f1.sign = 38 then 5 else 6) _ _], _) = _; rw [if_neg s1]
        (conv => whnf); rw [d4]
        (conv => whnf); refine VDraw.heldZ (fun k => k = fb) [13] (sq [0,1,2,3,4,5,6,7,8,9] (.f 10 (sq [11,12] (.f 13 .e)))) rfl (by kernel_rfl) ?_
        (conv => whnf); refine VC.fa fl85_2 ?_
        (conv => whnf); refine ld1 (v := .int .i64 ({ f1 with row := (ds1.length : Int) }).meet) ct3 (fr_cell sg9 (k := 2) rfl) rfl ?_
        (conv => whnf); refine VC.fa fl85_4 ?_
        (conv => whnf); refine ld1 (v := .int .i64 ({ f1 with row := (ds1.length : Int) }).row) ct3 (fr_cell sg9 (k := 4) rfl) rfl ?_
        (conv => whnf); refine VCall.mk (add_c (op := 6) sg9 (by unfold NumOk; omega) hn2.meet hn2.row (by simp; omega)) ?_
        rintro _ G1 ⟨rfl, af, na1, nc1, sg1⟩
        refine ⟨af, ?_⟩
        (conv => whnf); refine VC.fa fl85_2 ?_
        (conv => whnf); refine st1F (k := 2) (f' := { ({ f1 with row := (ds1.length : Int) }) with meet := ((ds1 ++ [binN 0 0 0]).length : Int) }) sg1 ct3 (by decide) rfl rfl fun G2 sg2 ja => ?_
        (conv => whnf); refine VC.fa fl85_4 ?_
        (conv => whnf); refine st1F (k := 4) (f' := { ({ f1 with row := (ds1.length : Int) }) with meet := ((ds1 ++ [binN 0 0 0]).length : Int), row := -1 }) sg2 ct3 (by decide) rfl rfl fun G6 sg6 ja => ?_
        (conv => whnf)
        rw [e]
        exact ⟨_, _, sg6⟩
  · have d2 : decide (f1.row < 0) = false := decide_eq_false h2
    have e1 : meetD (emptyD ds1 f1).1 (emptyD ds1 f1).2 = meetD ds1 f1 := by unfold emptyD; rw [if_neg h2]
    (conv => whnf); rw [d2]
    (conv => whnf); try (refine VSeq.run ?_)
    (conv => whnf); refine VC.fa fl85_2 ?_
    (conv => whnf); refine ld1 (v := .int .i64 (f1).meet) ct3 (fr_cell st1 (k := 2) rfl) trivial ?_
    by_cases m1 : f1.meet < 0
    · have d3 : decide (f1.meet < 0) = true := decide_eq_true m1
      have e : foldD ds f = (ds1, { (f1) with meet := (f1).row, row := -1 }) := by rw [e0, e1]; unfold meetD; rw [if_pos m1]
      (conv => whnf); rw [d3]
      (conv => whnf); refine VC.fa fl85_4 ?_
      (conv => whnf); refine ld1 (v := .int .i64 (f1).row) ct3 (fr_cell st1 (k := 4) rfl) trivial ?_
      (conv => whnf); refine VC.fa fl85_2 ?_
      (conv => whnf); refine st1F (k := 2) (f' := { (f1) with meet := (f1).row }) st1 ct3 (by decide) rfl rfl fun G5 sg5 ja => ?_
      (conv => whnf); refine VC.fa fl85_4 ?_
      (conv => whnf); refine st1F (k := 4) (f' := { (f1) with meet := (f1).row, row := -1 }) sg5 ct3 (by decide) rfl rfl fun G6 sg6 ja => ?_
      (conv => whnf)
      rw [e]
      exact ⟨_, _, sg6⟩
    · have d3 : decide (f1.meet < 0) = false := decide_eq_false m1
      (conv => whnf); rw [d3]
      (conv => whnf); try (refine VSeq.run ?_)
      (conv => whnf); refine VC.fa fl85_3 ?_
      (conv => whnf); refine ld1 (v := .int .u8 ((f1).sign : Int)) ct5 (fr_cell st1 (k := 3) rfl) trivial ?_
      by_cases s1 : f1.sign = 38
      · have d4 : ((f1.sign : Int) == 38) = true := by rw [s1]; rfl
        have e : foldD ds f = (ds1 ++ [binN 5 (f1).meet (f1).row], { (f1) with meet := ((ds1).length : Int), row := -1 }) := by rw [e0, e1]; unfold meetD; rw [if_neg m1]; show (_ ++ [binN (if f1.sign = 38 then 5 else 6) _ _], _) = _; rw [if_pos s1]
        (conv => whnf); rw [d4]
        (conv => whnf); refine VDraw.heldZ (fun k => k = fb) [13] (sq [0,1,2,3,4,5,6,7,8,9] (.f 10 (sq [11,12] (.f 13 .e)))) rfl (by kernel_rfl) ?_
        (conv => whnf); refine VC.fa fl85_2 ?_
        (conv => whnf); refine ld1 (v := .int .i64 (f1).meet) ct3 (fr_cell st1 (k := 2) rfl) rfl ?_
        (conv => whnf); refine VC.fa fl85_4 ?_
        (conv => whnf); refine ld1 (v := .int .i64 (f1).row) ct3 (fr_cell st1 (k := 4) rfl) rfl ?_
        (conv => whnf); refine VCall.mk (add_c (op := 5) st1 (by unfold NumOk; omega) hn1.meet hn1.row (by omega)) ?_
        rintro _ G1 ⟨rfl, af, na1, nc1, sg1⟩
        refine ⟨af, ?_⟩
        (conv => whnf); refine VC.fa fl85_2 ?_
        (conv => whnf); refine st1F (k := 2) (f' := { (f1) with meet := ((ds1).length : Int) }) sg1 ct3 (by decide) rfl rfl fun G2 sg2 ja => ?_
        (conv => whnf); refine VC.fa fl85_4 ?_
        (conv => whnf); refine st1F (k := 4) (f' := { (f1) with meet := ((ds1).length : Int), row := -1 }) sg2 ct3 (by decide) rfl rfl fun G6 sg6 ja => ?_
        (conv => whnf)
        rw [e]
        exact ⟨_, _, sg6⟩
      · have d4 : ((f1.sign : Int) == 38) = false := beq_eq_false_iff_ne.2 (by omega)
        have e : foldD ds f = (ds1 ++ [binN 6 (f1).meet (f1).row], { (f1) with meet := ((ds1).length : Int), row := -1 }) := by rw [e0, e1]; unfold meetD; rw [if_neg m1]; show (_ ++ [binN (if f1.sign = 38 then 5 else 6) _ _], _) = _; rw [if_neg s1]
        (conv => whnf); rw [d4]
        (conv => whnf); refine VDraw.heldZ (fun k => k = fb) [13] (sq [0,1,2,3,4,5,6,7,8,9] (.f 10 (sq [11,12] (.f 13 .e)))) rfl (by kernel_rfl) ?_
        (conv => whnf); refine VC.fa fl85_2 ?_
        (conv => whnf); refine ld1 (v := .int .i64 (f1).meet) ct3 (fr_cell st1 (k := 2) rfl) rfl ?_
        (conv => whnf); refine VC.fa fl85_4 ?_
        (conv => whnf); refine ld1 (v := .int .i64 (f1).row) ct3 (fr_cell st1 (k := 4) rfl) rfl ?_
        (conv => whnf); refine VCall.mk (add_c (op := 6) st1 (by unfold NumOk; omega) hn1.meet hn1.row (by omega)) ?_
        rintro _ G1 ⟨rfl, af, na1, nc1, sg1⟩
        refine ⟨af, ?_⟩
        (conv => whnf); refine VC.fa fl85_2 ?_
        (conv => whnf); refine st1F (k := 2) (f' := { (f1) with meet := ((ds1).length : Int) }) sg1 ct3 (by decide) rfl rfl fun G2 sg2 ja => ?_
        (conv => whnf); refine VC.fa fl85_4 ?_
        (conv => whnf); refine st1F (k := 4) (f' := { (f1) with meet := ((ds1).length : Int), row := -1 }) sg2 ct3 (by decide) rfl rfl fun G6 sg6 ja => ?_
        (conv => whnf)
        rw [e]
        exact ⟨_, _, sg6⟩
set_option maxHeartbeats 8000000 in
theorem dclose_c {fr : List FrD} {f : FrD} (st : StB B H0 H (stP sb fb na nc fc n ds (fr ++ [f]) rest)) (hn : FrN f) (hl : ds.length ≤ 16777200) :
    FnOk Tryz.prog 31 #[.pointer (some ⟨sb, 0, none⟩)] H (fun _ H' => ∃ na' nc', StB B H0 H' (stP sb fb na' nc' fc n (closeD ds f).1 (fr ++ [(closeD ds f).2]) rest)) := by
  have hlen := fr_lt st
  have hmx := st.max 2 rfl
  simp only [List.length_append, List.length_singleton, maxLen] at hmx
  refine FnOk.of_vc Tryz.func31 rfl (Tryz.call31 _) ?_
  (conv => whnf); refine VCall.mk (dfold_c st hn (by omega)) ?_
  rintro v1 H1 ⟨na1, nc1, st1⟩
  have hn1 := foldD_num hn (ds := ds) (by omega)
  have hl1 := foldD_len ds f
  have e0 : closeD ds f = altD (foldD ds f).1 (foldD ds f).2 := rfl
  obtain ⟨ds1, f1, hq⟩ : ∃ ds1 f1, foldD ds f = (ds1, f1) := ⟨_, _, rfl⟩
  rw [hq] at st1 hn1 hl1 e0
  replace st1 : StB B H0 H1 (stP sb fb na1 nc1 fc n ds1 (fr ++ [f1]) rest) := st1
  replace hn1 : FrN f1 := hn1
  replace hl1 : ds1.length ≤ ds.length + 3 := hl1
  replace e0 : closeD ds f = altD ds1 f1 := e0
  (conv => whnf); refine VDraw.lex rfl (by kernel_rfl) ?_
  (conv => whnf); refine VC.fa fl83_1 ?_
  (conv => whnf); refine ld1 (v := .slice (some ⟨fb, 0, none⟩) n fc) ct81 (by rw [(st1.blk 0 rfl).cell]; rfl) trivial ?_
  (conv => whnf); refine VC.fa fl83_1 ?_
  (conv => whnf); refine ld1 (v := .slice (some ⟨fb, 0, none⟩) n fc) ct81 (by rw [(st1.blk 0 rfl).cell]; rfl) trivial ?_
  (conv => whnf); rw [w64 (x := (n : Int) - 1) (by omega) (by omega)]
  (conv => whnf); refine ixE (j := fr.length) sl81 st1 2 rfl (by simp) (by omega) ?_
  (conv => whnf); try (refine VSeq.run ?_)
  (conv => whnf); refine VC.fa fl85_1 ?_
  (conv => whnf); refine ld1 (v := .int .i64 f1.alt) ct3 (fr_cell st1 (k := 1) rfl) trivial ?_
  by_cases h2 : f1.alt < 0
  · have d2 : decide (f1.alt < 0) = true := decide_eq_true h2
    have e : closeD ds f = (ds1, { f1 with alt := f1.meet, meet := -1 }) := by rw [e0]; unfold altD; rw [if_pos h2]
    (conv => whnf); rw [d2]
    (conv => whnf); refine VC.fa fl85_2 ?_
    (conv => whnf); refine ld1 (v := .int .i64 f1.meet) ct3 (fr_cell st1 (k := 2) rfl) trivial ?_
    (conv => whnf); refine VC.fa fl85_1 ?_
    (conv => whnf); refine st1F (k := 1) (f' := { f1 with alt := f1.meet }) st1 ct3 (by decide) rfl rfl fun G5 sg5 ja => ?_
    (conv => whnf); refine VC.fa fl85_2 ?_
    (conv => whnf); refine st1F (k := 2) (f' := { f1 with alt := f1.meet, meet := -1 }) sg5 ct3 (by decide) rfl rfl fun G6 sg6 ja => ?_
    (conv => whnf)
    rw [e]
    exact ⟨_, _, sg6⟩
  · have d2 : decide (f1.alt < 0) = false := decide_eq_false h2
    have e : closeD ds f = (ds1 ++ [binN 3 f1.alt f1.meet], { f1 with alt := (ds1.length : Int), meet := -1 }) := by rw [e0]; unfold altD; rw [if_neg h2]
    (conv => whnf); rw [d2]
    (conv => whnf); refine VDraw.heldZ (fun k => k = fb) [13] (sq [0,1,2,3,4,5,6,7,8,9] (.f 10 (sq [11,12] (.f 13 .e)))) rfl (by kernel_rfl) ?_
    (conv => whnf); refine VC.fa fl85_1 ?_
    (conv => whnf); refine ld1 (v := .int .i64 f1.alt) ct3 (fr_cell st1 (k := 1) rfl) rfl ?_
    (conv => whnf); refine VC.fa fl85_2 ?_
    (conv => whnf); refine ld1 (v := .int .i64 f1.meet) ct3 (fr_cell st1 (k := 2) rfl) rfl ?_
    (conv => whnf); refine VCall.mk (add_c (op := 3) st1 (by unfold NumOk; omega) hn1.alt hn1.meet (by omega)) ?_
    rintro _ G1 ⟨rfl, af, na1, nc1, sg1⟩
    refine ⟨af, ?_⟩
    (conv => whnf); refine VC.fa fl85_1 ?_
    (conv => whnf); refine st1F (k := 1) (f' := { f1 with alt := (ds1.length : Int) }) sg1 ct3 (by decide) rfl rfl fun G2 sg2 ja => ?_
    (conv => whnf); refine VC.fa fl85_2 ?_
    (conv => whnf); refine st1F (k := 2) (f' := { f1 with alt := (ds1.length : Int), meet := -1 }) sg2 ct3 (by decide) rfl rfl fun G6 sg6 ja => ?_
    (conv => whnf)
    rw [e]
    exact ⟨_, _, sg6⟩
end
end Go.Proofs.YtlnmhfhdjnenoaaGreatDoor
/- The document's parser: postfix, digit, open, braces: the walks. -/
set_option linter.unusedVariables false
set_option linter.unusedSimpArgs false
set_option maxRecDepth 100000
namespace Go.Proofs.YtlnmhfhdjnenoaaGreatDoor
open Go.VC Go.Lib
theorem vbt {kk : IntKind} {i : Nat} {t : ByteArray} {S : Nat → Prop} {H : Heap} {K : Value → Prop} (hi : i < t.size) (k : K (.int .u8 (bt t i : Int))) : VDet Tryz.prog (Instr.index 9 (.string t) (.int kk (i : Int))) S H K := by
  obtain ⟨b, h1, h2, h3⟩ := bt_in hi
  refine vidxs rstrT rfl h1 ?_
  rw [← h2]; exact k
set_option maxHeartbeats 4000000 in
theorem postfix_p (c : Nat) (H : Heap) : Pure Tryz.prog 29 #[.int .u8 (c : Int)] H (.bool (postB c)) := by
  refine FnOk.of_vc Tryz.func29 rfl (Tryz.call29 _) ?_
  (conv => whnf)
  by_cases h42 : c = 42
  · have d : ((c : Int) == 42) = true := by rw [h42]; rfl
    (conv => whnf); rw [d]
    (conv => whnf)
    refine ⟨?_, Agr.refl _ _⟩
    rw [h42]; rfl
  · have d : ((c : Int) == 42) = false := nofl h42
    (conv => whnf); rw [d]
    clear d
    by_cases h43 : c = 43
    · have d : ((c : Int) == 43) = true := by rw [h43]; rfl
      (conv => whnf); rw [d]
      (conv => whnf)
      refine ⟨?_, Agr.refl _ _⟩
      rw [h43]; rfl
    · have d : ((c : Int) == 43) = false := nofl h43
      (conv => whnf); rw [d]
      clear d
      by_cases h63 : c = 63
      · have d : ((c : Int) == 63) = true := by rw [h63]; rfl
        (conv => whnf); rw [d]
        (conv => whnf)
        refine ⟨?_, Agr.refl _ _⟩
        rw [h63]; rfl
      · have d : ((c : Int) == 63) = false := nofl h63
        (conv => whnf); rw [d]
        clear d
        by_cases h123 : c = 123
        · have d : ((c : Int) == 123) = true := by rw [h123]; rfl
          (conv => whnf); rw [d]
          (conv => whnf)
          refine ⟨?_, Agr.refl _ _⟩
          rw [h123]; rfl
        · have d : ((c : Int) == 123) = false := nofl h123
          (conv => whnf); rw [d]
          clear d
          (conv => whnf)
          refine ⟨?_, Agr.refl _ _⟩
          rw [postB_no h42 h43 h63 h123]
set_option maxHeartbeats 4000000 in
theorem digit_p {i : Nat} {t : ByteArray} (H : Heap) : Pure Tryz.prog 54 #[.string t, .int .i64 (i : Int)] H (.bool (digB t i)) := by
  refine FnOk.of_vc Tryz.func54 rfl (Tryz.call54 _) ?_
  by_cases hi : i < t.size
  · have d1 : decide ((i : Int) < (t.size : Int)) = true := decide_eq_true (by omega)
    (conv => whnf); rw [d1]
    (conv => whnf); refine vbt hi ?_
    by_cases h2 : 48 ≤ bt t i
    · have d2 : decide (48 ≤ ((bt t i : Nat) : Int)) = true := decide_eq_true (by omega)
      (conv => whnf); rw [d2]
      (conv => whnf); refine vbt hi ?_
      (conv => whnf)
      refine ⟨?_, Agr.refl _ _⟩
      congr 1
      unfold digB
      rw [decide_eq_decide]; omega
    · have d2 : decide (48 ≤ ((bt t i : Nat) : Int)) = false := decide_eq_false (by omega)
      (conv => whnf); rw [d2]
      (conv => whnf)
      refine ⟨?_, Agr.refl _ _⟩
      congr 1
      exact (decide_eq_false fun h => h2 h.1).symm
  · have d1 : decide ((i : Int) < (t.size : Int)) = false := decide_eq_false (by omega)
    (conv => whnf); rw [d1]
    (conv => whnf)
    refine ⟨?_, Agr.refl _ _⟩
    congr 1
    exact (decide_eq_false fun h => by have := bt_out hi; omega).symm
def frZ : List Value := [.int .i64 0, .int .i64 0, .int .i64 0, .int .u8 0, .int .i64 0, .int .i64 0]
theorem fr_z : (Tryz.prog.info? 85).bind (·.zero) = some (.agg frZ.toArray) := by kernel_rfl
def frO (p : Int) : List Value := [.int .i64 p, .int .i64 (-1), .int .i64 (-1), .int .u8 0, .int .i64 (-1), .int .i64 (-1)]
set_option maxHeartbeats 1000000 in
theorem open_c (p : Int) (H : Heap) : FnOk Tryz.prog 28 #[.int .i64 p] H fun v H' => v = .agg (frO p).toArray ∧ Agr (Old H) H H' := by
  refine FnOk.of_vc Tryz.func28 rfl (Tryz.call28 _) ?_
  (conv => whnf); refine valloc (.agg frZ.toArray) frZ fr_z rfl ?_
  intro q H1 hq hs1 hb1 ha1
  (conv => whnf); refine vbuildS Tryz.underlying85 rfl (.agg frZ.toArray) fr_z (frO p) rfl ?_
  (conv => whnf); refine VC.stN (cs := frO p) rfl hb1 (Nat.le_refl _) rfl ?_
  intro H2 hb2 ha2 hs2
  rw [splAll (show (frO p).length = frZ.length from rfl)] at hb2
  (conv => whnf); refine ldN (cs := frO p) ag85 (hb2.cells fun j v hv => by rw [Nat.zero_add]; exact hv) trivial ?_
  exact ⟨rfl, (ha1.mono fun k hk => by have : k < H.size := hk; have : q = H.size := hq; omega).trans (ha2.mono fun k hk => by have : k < H.size := hk; have : q = H.size := hq; omega)⟩
end Go.Proofs.YtlnmhfhdjnenoaaGreatDoor
/- The document's parser: braces: the walk. -/
set_option linter.unusedVariables false
set_option linter.unusedSimpArgs false
set_option maxRecDepth 100000
namespace Go.Proofs.YtlnmhfhdjnenoaaGreatDoor
open Go.VC Go.Lib
/-- What braces answers. -/
def BrD (t : ByteArray) (i : Nat) (v : Value) : Prop := match bracesM t i with
  | .inl (c, p) => v = .tuple #[.int .i64 0, .int .i64 0, .int .i64 0, .int .i64 (c : Int), .int .i64 (p : Int)]
  | .inr (m, n, j) => v = .tuple #[.int .i64 (m : Int), .int .i64 n, .int .i64 (j : Int), .int .i64 0, .int .i64 0]
abbrev pA2 (q : Nat) (x y : Int) : Pc := pB 136 q [.int .i64 x, .int .i64 y]
theorem a2_z : (Tryz.prog.info? 136).bind (·.zero) = some (.agg #[.int .i64 0, .int .i64 0]) := by kernel_rfl
theorem num_off {t : ByteArray} {e w : Nat} (h : digB t e = false) : ∀ k, numM t k e w = (w, e)
  | 0 => rfl
  | k + 1 => by unfold numM; rw [h]; rfl
/-- Where the loop over the numbers stands. -/
structure BrI (t : ByteArray) (i k e : Nat) (x0 x1 : Int) : Prop where
  le : e ≤ t.size
  z : k = 0 → e = i + 1 ∧ x0 = 0 ∧ x1 = 0
  one : k = 1 → digB t (i + 1) = true ∧ x0 = ((numM t 3 (i + 1) 0).1 : Int) ∧ x1 = 0 ∧ e = (numM t 3 (i + 1) 0).2 + 1 ∧ bt t (numM t 3 (i + 1) 0).2 = 44 ∧ bt t e ≠ 125
  two : k = 2 → digB t (i + 1) = true ∧ x0 = ((numM t 3 (i + 1) 0).1 : Int) ∧ x1 = -1 ∧ upM t (numM t 3 (i + 1) 0).1 (numM t 3 (i + 1) 0).2 = .inr (-1, e)
  le2 : k ≤ 2
theorem br_eq {t : ByteArray} {i : Nat} (hd : digB t (i + 1) = true) {n : Int} {e : Nat} (hu : upM t (numM t 3 (i + 1) 0).1 (numM t 3 (i + 1) 0).2 = .inr (n, e)) : bracesM t i = endM t i (numM t 3 (i + 1) 0).1 n e := by
  unfold bracesM; rw [if_pos hd, hu]
theorem br_no {t : ByteArray} {i : Nat} (hd : digB t (i + 1) = false) : bracesM t i = .inl (20, i + 1) := by
  unfold bracesM; rw [hd]; rfl
set_option maxHeartbeats 16000000 in
theorem dbraces_c {t : ByteArray} {i : Nat} {H : Heap} (ht : t.size ≤ 1048576) (hi : i < t.size) :
    FnOk Tryz.prog 30 #[.string t, .int .i64 (i : Int)] H fun v H' => Agr (Old H) H H' ∧ BrD t i v := by
  refine FnOk.of_vcL Tryz.func30 rfl (Tryz.call30 _) ?_
  (conv => whnf); rw [w64 (x := (i : Int) + 1) (by omega) (by omega)]
  (conv => whnf); refine valloc (.agg #[.int .i64 0, .int .i64 0]) [.int .i64 0, .int .i64 0] a2_z rfl ?_
  intro q H1 hq1 hs1 hb1 ha1
  have st1 := (St.nil H).box hq1 hs1 hb1 ha1
  (conv => whnf)
  refine VSeq.cut [11, 9] (fun x : Nat × Nat × Int × Int => match x with | (k, e, _, _) => [.int .i64 (k : Int), .int .i64 (e : Int)]) (fun x G => match x with | (k, e, x0, x1) => ((k = 1 ∨ k = 2) ∧ e ≤ t.size ∧ digB t (i + 1) = true ∧ x0 = ((numM t 3 (i + 1) 0).1 : Int) ∧ (∃ n : Int, upM t (numM t 3 (i + 1) 0).1 (numM t 3 (i + 1) 0).2 = .inr (n, e) ∧ -1 ≤ n ∧ n < 1000 ∧ (k = 1 → n = x0) ∧ (k = 2 → n = x1))) ∧ St H G [pA2 q x0 x1]) ?_ ?_
  · (conv => whnf)
    refine VLoop.mk [11, 9] (fun x : Nat × Nat × Int × Int => match x with | (k, e, _, _) => [.int .i64 (k : Int), .int .i64 (e : Int)]) (fun x G => match x with | (k, e, x0, x1) => BrI t i k e x0 x1 ∧ St H G [pA2 q x0 x1]) (fun x _ => match x with | (k, _, _, _) => 2 - k) ?_ ?_
    · (conv => whnf)
      exact ⟨(0, i + 1, 0, 0), rfl, ⟨hi, fun _ => ⟨rfl, rfl, rfl⟩, fun h => absurd h (by decide), fun h => absurd h (by decide), by omega⟩, st1⟩
    · rintro ⟨k, e, x0, x1⟩ G junk ⟨hI, stg⟩
      have hle := hI.le
      (conv => whnf); refine VIte.mk (fun hz => ?_) (fun hz => ?_) <;> simp only [decide_eq_true_eq, decide_eq_false_iff_not] at hz
      · have hk2 : k < 2 := by omega
        rcases (show k = 0 ∨ k = 1 by omega) with rfl | rfl
        · (conv => whnf); try (refine VSeq.run ?_)
          obtain ⟨rfl, rfl, rfl⟩ := hI.z rfl
          (conv => whnf); refine pures (digit_p (i := (i + 1)) G) fun G1 hg1 => ?_
          have sg1 := stg.call hg1
          cases hd : digB t (i + 1) with
          | false =>
            (conv => whnf)
            refine ⟨sg1.old, ?_⟩
            unfold BrD
            rw [br_no hd]
            rfl
          | true =>
            (conv => whnf)
            have hdi := hd
            (conv => whnf)
            refine VLoop.mk [12, 9] (fun x : Nat × Nat => match x with | (jn, _) => [.int .i64 (jn : Int), .int .i64 (((i + 1) + jn : Nat) : Int)]) (fun x G => match x with | (jn, v) => jn ≤ 3 ∧ v < 10 ^ jn ∧ (i + 1) + jn ≤ t.size ∧ numM t 3 (i + 1) 0 = numM t (3 - jn) ((i + 1) + jn) v ∧ St H G [pA2 q (v : Int) 0]) (fun x _ => match x with | (jn, _) => 3 - jn) ?_ ?_
            · (conv => whnf)
              exact ⟨(0, 0), rfl, by omega, by decide, hle, rfl, sg1⟩
            · rintro ⟨jn, v⟩ G2 junk2 ⟨hjn, hv, hje, hvn, stj⟩
              have hv1 : v < 1000 := Nat.lt_of_lt_of_le hv (Nat.pow_le_pow_right (by omega) hjn)
              have hout : (jn = 3 ∨ digB t ((i + 1) + jn) = false) → numM t 3 (i + 1) 0 = (v, (i + 1) + jn) := fun h => by
                rw [hvn]
                rcases h with rfl | h
                · rfl
                · exact num_off h _
              clear hI
              by_cases hj3 : jn < 3
              · have d2 : decide ((jn : Int) < 3) = true := decide_eq_true (by omega)
                (conv => whnf); rw [d2]
                (conv => whnf); refine pures (digit_p (i := (i + 1) + jn) G2) fun G3 hg3 => ?_
                replace stj := stj.call hg3
                cases hdj : digB t ((i + 1) + jn) with
                | true =>
                  have hlt : (i + 1) + jn < t.size := by
                    unfold digB at hdj
                    have := of_decide_eq_true hdj
                    exact bt_lt (by omega)
                  have hdr : 48 ≤ bt t ((i + 1) + jn) ∧ bt t ((i + 1) + jn) ≤ 57 := by unfold digB at hdj; exact of_decide_eq_true hdj
                  (conv => whnf); try (refine VSeq.run ?_)
                  (conv => whnf); refine VDraw.heldZ (fun k => k = q) [12] (sq [0,1,2,3,4,5,6,7,8,9,10,11] (.f 12 .e)) rfl (by kernel_rfl) ?_
                  (conv => whnf); refine ixa ar136 (by decide) (by decide) ?_
                  (conv => whnf); refine ld1 (v := .int .i64 (v : Int)) ct3 (by rw [(stj.blk 0 rfl).cell]; rfl) rfl ?_
                  (conv => whnf); rw [w64 (x := 10 * (v : Int)) (by omega) (by omega)]
                  refine vbt hlt ?_
                  (conv => whnf); rw [w8 (x := ((bt t ((i + 1) + jn) : Nat) : Int) - 48) (by omega) (by omega)]
                  (conv => whnf); rw [w64 (x := ((bt t ((i + 1) + jn) : Nat) : Int) - 48) (by omega) (by omega)]
                  (conv => whnf); rw [w64 (x := 10 * (v : Int) + (((bt t ((i + 1) + jn) : Nat) : Int) - 48)) (by omega) (by omega)]
                  (conv => whnf); refine ixa ar136 (by decide) (by decide) ?_
                  (conv => whnf); refine st1B stj 0 ct3 rfl (by show _ < (2 : Nat); decide) rfl fun G5 sg5 => ?_
                  (conv => whnf); rw [w64 (x := (((i + 1) + jn : Nat) : Int) + 1) (by omega) (by omega)]
                  (conv => whnf); rw [w64 (x := (jn : Int) + 1) (by omega) (by omega)]
                  have ev : 10 * (v : Int) + (((bt t ((i + 1) + jn) : Nat) : Int) - 48) = ((10 * v + (bt t ((i + 1) + jn) - 48) : Nat) : Int) := by omega
                  rw [ev] at sg5
                  refine ⟨rfl, (jn + 1, 10 * v + (bt t ((i + 1) + jn) - 48)), rfl, ⟨by omega, by rw [Nat.pow_succ]; omega, by omega, ?_, sg5⟩, by show 3 - (jn + 1) < 3 - jn; omega⟩
                  rw [hvn, show 3 - jn = (3 - (jn + 1)) + 1 by omega, numM, hdj]; rfl
                | false =>
                  (conv => whnf); try (refine VSeq.run ?_)
                  (conv => whnf)
                  have hv3 : numM t 3 (i + 1) 0 = (v, (i + 1) + jn) := hout (.inr hdj)
                  have hnm : numM t 3 (i + 1) 0 = (v, (i + 1) + jn) := hv3
                  by_cases h0 : (i + 1) + jn < t.size
                  · have d5 : decide ((t.size : Int) ≤ (((i + 1) + jn : Nat) : Int)) = false := decide_eq_false (by omega)
                    (conv => whnf); rw [d5]
                    (conv => whnf); refine vbt h0 ?_
                    by_cases h44 : bt t ((i + 1) + jn) = 44
                    · have d6 : (((bt t ((i + 1) + jn) : Nat) : Int) != 44) = false := by rw [h44]; rfl
                      (conv => whnf); rw [d6]
                      (conv => whnf); rw [w64 (x := (((i + 1) + jn : Nat) : Int) + 1) (by omega) (by omega)]
                      (conv => whnf); try (refine VSeq.run ?_)
                      (conv => whnf)
                      by_cases h1 : (i + 1) + jn + 1 < t.size
                      · have d7 : decide ((((i + 1) + jn : Nat) : Int) + 1 < (t.size : Int)) = true := decide_eq_true (by omega)
                        (conv => whnf); rw [d7]
                        (conv => whnf); refine vbt (i := (i + 1) + jn + 1) h1 ?_
                        by_cases h125 : bt t ((i + 1) + jn + 1) = 125
                        · have d8 : (((bt t ((i + 1) + jn + 1) : Nat) : Int) == 125) = true := by rw [h125]; rfl
                          (conv => whnf); rw [d8]
                          (conv => whnf); refine ixa ar136 (by decide) (by decide) ?_
                          (conv => whnf); refine st1B stj 0 ct3 rfl (by show _ < (2 : Nat); decide) rfl fun G7 sg7 => ?_
                          replace sg7 : St H G7 [pA2 q (v : Int) (-1)] := sg7
                          (conv => whnf)
                          exact ⟨rfl, (2, (i + 1) + jn + 1, (v : Int), -1), rfl, ⟨⟨by omega, fun h => absurd h (by decide), fun h => absurd h (by decide), fun _ => ⟨hdi, by rw [hnm], rfl, by rw [hnm]; unfold upM; rw [if_pos h44, if_pos h125]⟩, by omega⟩, sg7⟩, by show 2 - 2 < 2 - 0; omega⟩
                        · have d8 : (((bt t ((i + 1) + jn + 1) : Nat) : Int) == 125) = false := nofl h125
                          (conv => whnf); rw [d8]
                          (conv => whnf)
                          exact ⟨rfl, (1, (i + 1) + jn + 1, (v : Int), 0), rfl, ⟨⟨by omega, fun h => absurd h (by decide), fun _ => ⟨hdi, by rw [hnm], rfl, by rw [hnm], by rw [hnm]; exact h44, h125⟩, fun h => absurd h (by decide), by omega⟩, stj⟩, by show 2 - 1 < 2 - 0; omega⟩
                      · have d7 : decide ((((i + 1) + jn : Nat) : Int) + 1 < (t.size : Int)) = false := decide_eq_false (by omega)
                        (conv => whnf); rw [d7]
                        (conv => whnf)
                        exact ⟨rfl, (1, (i + 1) + jn + 1, (v : Int), 0), rfl, ⟨⟨by omega, fun h => absurd h (by decide), fun _ => ⟨hdi, by rw [hnm], rfl, by rw [hnm], by rw [hnm]; exact h44, by rw [bt_out h1]; decide⟩, fun h => absurd h (by decide), by omega⟩, stj⟩, by show 2 - 1 < 2 - 0; omega⟩
                    · have d6 : (((bt t ((i + 1) + jn) : Nat) : Int) != 44) = true := bne_iff_ne.2 (by omega)
                      (conv => whnf); rw [d6]
                      (conv => whnf)
                      exact ⟨rfl, (1, (i + 1) + jn, (v : Int), 0), rfl, ⟨⟨.inl rfl, hje, (by first | exact hdi | rfl), by rw [hnm], (v : Int), by rw [hnm]; unfold upM; rw [if_neg h44], by omega, by omega, fun _ => rfl, fun h => absurd h (by decide)⟩, stj⟩⟩
                  · have d5 : decide ((t.size : Int) ≤ (((i + 1) + jn : Nat) : Int)) = true := decide_eq_true (by omega)
                    (conv => whnf); rw [d5]
                    (conv => whnf)
                    exact ⟨rfl, (1, (i + 1) + jn, (v : Int), 0), rfl, ⟨⟨.inl rfl, hje, (by first | exact hdi | rfl), by rw [hnm], (v : Int), by rw [hnm]; unfold upM; rw [if_neg (by rw [bt_out h0]; omega)], by omega, by omega, fun _ => rfl, fun h => absurd h (by decide)⟩, stj⟩⟩
              · have d2 : decide ((jn : Int) < 3) = false := decide_eq_false (by omega)
                (conv => whnf); rw [d2]
                (conv => whnf); try (refine VSeq.run ?_)
                (conv => whnf)
                have hv3 : numM t 3 (i + 1) 0 = (v, (i + 1) + jn) := hout (.inl (by omega))
                have hnm : numM t 3 (i + 1) 0 = (v, (i + 1) + jn) := hv3
                by_cases h0 : (i + 1) + jn < t.size
                · have d5 : decide ((t.size : Int) ≤ (((i + 1) + jn : Nat) : Int)) = false := decide_eq_false (by omega)
                  (conv => whnf); rw [d5]
                  (conv => whnf); refine vbt h0 ?_
                  by_cases h44 : bt t ((i + 1) + jn) = 44
                  · have d6 : (((bt t ((i + 1) + jn) : Nat) : Int) != 44) = false := by rw [h44]; rfl
                    (conv => whnf); rw [d6]
                    (conv => whnf); rw [w64 (x := (((i + 1) + jn : Nat) : Int) + 1) (by omega) (by omega)]
                    (conv => whnf); try (refine VSeq.run ?_)
                    (conv => whnf)
                    by_cases h1 : (i + 1) + jn + 1 < t.size
                    · have d7 : decide ((((i + 1) + jn : Nat) : Int) + 1 < (t.size : Int)) = true := decide_eq_true (by omega)
                      (conv => whnf); rw [d7]
                      (conv => whnf); refine vbt (i := (i + 1) + jn + 1) h1 ?_
                      by_cases h125 : bt t ((i + 1) + jn + 1) = 125
                      · have d8 : (((bt t ((i + 1) + jn + 1) : Nat) : Int) == 125) = true := by rw [h125]; rfl
                        (conv => whnf); rw [d8]
                        (conv => whnf); refine ixa ar136 (by decide) (by decide) ?_
                        (conv => whnf); refine st1B stj 0 ct3 rfl (by show _ < (2 : Nat); decide) rfl fun G7 sg7 => ?_
                        replace sg7 : St H G7 [pA2 q (v : Int) (-1)] := sg7
                        (conv => whnf)
                        exact ⟨rfl, (2, (i + 1) + jn + 1, (v : Int), -1), rfl, ⟨⟨by omega, fun h => absurd h (by decide), fun h => absurd h (by decide), fun _ => ⟨hdi, by rw [hnm], rfl, by rw [hnm]; unfold upM; rw [if_pos h44, if_pos h125]⟩, by omega⟩, sg7⟩, by show 2 - 2 < 2 - 0; omega⟩
                      · have d8 : (((bt t ((i + 1) + jn + 1) : Nat) : Int) == 125) = false := nofl h125
                        (conv => whnf); rw [d8]
                        (conv => whnf)
                        exact ⟨rfl, (1, (i + 1) + jn + 1, (v : Int), 0), rfl, ⟨⟨by omega, fun h => absurd h (by decide), fun _ => ⟨hdi, by rw [hnm], rfl, by rw [hnm], by rw [hnm]; exact h44, h125⟩, fun h => absurd h (by decide), by omega⟩, stj⟩, by show 2 - 1 < 2 - 0; omega⟩
                    · have d7 : decide ((((i + 1) + jn : Nat) : Int) + 1 < (t.size : Int)) = false := decide_eq_false (by omega)
                      (conv => whnf); rw [d7]
                      (conv => whnf)
                      exact ⟨rfl, (1, (i + 1) + jn + 1, (v : Int), 0), rfl, ⟨⟨by omega, fun h => absurd h (by decide), fun _ => ⟨hdi, by rw [hnm], rfl, by rw [hnm], by rw [hnm]; exact h44, by rw [bt_out h1]; decide⟩, fun h => absurd h (by decide), by omega⟩, stj⟩, by show 2 - 1 < 2 - 0; omega⟩
                  · have d6 : (((bt t ((i + 1) + jn) : Nat) : Int) != 44) = true := bne_iff_ne.2 (by omega)
                    (conv => whnf); rw [d6]
                    (conv => whnf)
                    exact ⟨rfl, (1, (i + 1) + jn, (v : Int), 0), rfl, ⟨⟨.inl rfl, hje, (by first | exact hdi | rfl), by rw [hnm], (v : Int), by rw [hnm]; unfold upM; rw [if_neg h44], by omega, by omega, fun _ => rfl, fun h => absurd h (by decide)⟩, stj⟩⟩
                · have d5 : decide ((t.size : Int) ≤ (((i + 1) + jn : Nat) : Int)) = true := decide_eq_true (by omega)
                  (conv => whnf); rw [d5]
                  (conv => whnf)
                  exact ⟨rfl, (1, (i + 1) + jn, (v : Int), 0), rfl, ⟨⟨.inl rfl, hje, (by first | exact hdi | rfl), by rw [hnm], (v : Int), by rw [hnm]; unfold upM; rw [if_neg (by rw [bt_out h0]; omega)], by omega, by omega, fun _ => rfl, fun h => absurd h (by decide)⟩, stj⟩⟩
        · (conv => whnf); try (refine VSeq.run ?_)
          obtain ⟨hdi, hx0, rfl, hej, h44, h125⟩ := hI.one rfl
          (conv => whnf); refine pures (digit_p (i := e) G) fun G1 hg1 => ?_
          have sg1 := stg.call hg1
          cases hd : digB t e with
          | false =>
            (conv => whnf)
            refine ⟨sg1.old, ?_⟩
            unfold BrD
            have hu : upM t (numM t 3 (i + 1) 0).1 (numM t 3 (i + 1) 0).2 = .inl (20, e) := by
              unfold upM
              rw [if_pos h44, ← hej, if_neg h125, hd]; rfl
            have hb : bracesM t i = .inl (20, e) := by unfold bracesM; rw [if_pos hdi, hu]
            rw [hb]
            rfl
          | true =>
            (conv => whnf)
            (conv => whnf)
            refine VLoop.mk [12, 9] (fun x : Nat × Nat => match x with | (jn, _) => [.int .i64 (jn : Int), .int .i64 ((e + jn : Nat) : Int)]) (fun x G => match x with | (jn, v) => jn ≤ 3 ∧ v < 10 ^ jn ∧ e + jn ≤ t.size ∧ numM t 3 e 0 = numM t (3 - jn) (e + jn) v ∧ St H G [pA2 q x0 (v : Int)]) (fun x _ => match x with | (jn, _) => 3 - jn) ?_ ?_
            · (conv => whnf)
              exact ⟨(0, 0), rfl, by omega, by decide, hle, rfl, sg1⟩
            · rintro ⟨jn, v⟩ G2 junk2 ⟨hjn, hv, hje, hvn, stj⟩
              have hv1 : v < 1000 := Nat.lt_of_lt_of_le hv (Nat.pow_le_pow_right (by omega) hjn)
              have hout : (jn = 3 ∨ digB t (e + jn) = false) → numM t 3 e 0 = (v, e + jn) := fun h => by
                rw [hvn]
                rcases h with rfl | h
                · rfl
                · exact num_off h _
              clear hI
              by_cases hj3 : jn < 3
              · have d2 : decide ((jn : Int) < 3) = true := decide_eq_true (by omega)
                (conv => whnf); rw [d2]
                (conv => whnf); refine pures (digit_p (i := e + jn) G2) fun G3 hg3 => ?_
                replace stj := stj.call hg3
                cases hdj : digB t (e + jn) with
                | true =>
                  have hlt : e + jn < t.size := by
                    unfold digB at hdj
                    have := of_decide_eq_true hdj
                    exact bt_lt (by omega)
                  have hdr : 48 ≤ bt t (e + jn) ∧ bt t (e + jn) ≤ 57 := by unfold digB at hdj; exact of_decide_eq_true hdj
                  (conv => whnf); try (refine VSeq.run ?_)
                  (conv => whnf); refine VDraw.heldZ (fun k => k = q) [12] (sq [0,1,2,3,4,5,6,7,8,9,10,11] (.f 12 .e)) rfl (by kernel_rfl) ?_
                  (conv => whnf); refine ixa ar136 (by decide) (by decide) ?_
                  (conv => whnf); refine ld1 (v := .int .i64 (v : Int)) ct3 (by rw [(stj.blk 0 rfl).cell]; rfl) rfl ?_
                  (conv => whnf); rw [w64 (x := 10 * (v : Int)) (by omega) (by omega)]
                  refine vbt hlt ?_
                  (conv => whnf); rw [w8 (x := ((bt t (e + jn) : Nat) : Int) - 48) (by omega) (by omega)]
                  (conv => whnf); rw [w64 (x := ((bt t (e + jn) : Nat) : Int) - 48) (by omega) (by omega)]
                  (conv => whnf); rw [w64 (x := 10 * (v : Int) + (((bt t (e + jn) : Nat) : Int) - 48)) (by omega) (by omega)]
                  (conv => whnf); refine ixa ar136 (by decide) (by decide) ?_
                  (conv => whnf); refine st1B stj 0 ct3 rfl (by show _ < (2 : Nat); decide) rfl fun G5 sg5 => ?_
                  (conv => whnf); rw [w64 (x := ((e + jn : Nat) : Int) + 1) (by omega) (by omega)]
                  (conv => whnf); rw [w64 (x := (jn : Int) + 1) (by omega) (by omega)]
                  have ev : 10 * (v : Int) + (((bt t (e + jn) : Nat) : Int) - 48) = ((10 * v + (bt t (e + jn) - 48) : Nat) : Int) := by omega
                  rw [ev] at sg5
                  refine ⟨rfl, (jn + 1, 10 * v + (bt t (e + jn) - 48)), rfl, ⟨by omega, by rw [Nat.pow_succ]; omega, by omega, ?_, sg5⟩, by show 3 - (jn + 1) < 3 - jn; omega⟩
                  rw [hvn, show 3 - jn = (3 - (jn + 1)) + 1 by omega, numM, hdj]; rfl
                | false =>
                  (conv => whnf); try (refine VSeq.run ?_)
                  (conv => whnf)
                  have hv3 : numM t 3 e 0 = (v, e + jn) := hout (.inr hdj)
                  exact ⟨rfl, (2, e + jn, x0, (v : Int)), rfl, ⟨⟨.inr rfl, hje, hdi, hx0, (v : Int), by unfold upM; rw [if_pos h44, ← hej, if_neg h125, hd]; show (if true = true then _ else _) = _; rw [if_pos rfl, hv3], by omega, by omega, fun h => absurd h (by decide), fun _ => rfl⟩, stj⟩⟩
              · have d2 : decide ((jn : Int) < 3) = false := decide_eq_false (by omega)
                (conv => whnf); rw [d2]
                (conv => whnf); try (refine VSeq.run ?_)
                (conv => whnf)
                have hv3 : numM t 3 e 0 = (v, e + jn) := hout (.inl (by omega))
                exact ⟨rfl, (2, e + jn, x0, (v : Int)), rfl, ⟨⟨.inr rfl, hje, hdi, hx0, (v : Int), by unfold upM; rw [if_pos h44, ← hej, if_neg h125, hd]; show (if true = true then _ else _) = _; rw [if_pos rfl, hv3], by omega, by omega, fun h => absurd h (by decide), fun _ => rfl⟩, stj⟩⟩
      · have hk : k = 2 := by have := hI.le2; omega
        subst hk
        obtain ⟨h1, h2, h3, h4⟩ := hI.two rfl
        (conv => whnf)
        exact ⟨rfl, (2, e, x0, x1), rfl, ⟨⟨.inr rfl, hle, h1, h2, -1, h4, by omega, by omega, fun h => absurd h (by decide), fun _ => h3.symm⟩, stg⟩⟩
  · rintro ⟨k, e, x0, x1⟩ G junk ⟨⟨hk, he, hd, hx0, n, hu, hn1, hn2, h1n, h2n⟩, stg⟩
    have hbr := br_eq hd hu
    obtain ⟨m, hm⟩ : ∃ m, m = (numM t 3 (i + 1) 0).1 := ⟨_, rfl⟩
    rw [← hm] at hbr hx0
    clear hu hm st1
    rcases hk with rfl | rfl
    · have hnx := h1n rfl
      (conv => whnf); refine VSeq.run ?_
      (conv => whnf); refine ixa ar136 (by decide) (by decide) ?_
      (conv => whnf); refine ld1 (v := .int .i64 (x0)) ct3 (by rw [(stg.blk 0 rfl).cell]; rfl) trivial ?_
      (conv => whnf); refine ixa ar136 (by decide) (by decide) ?_
      (conv => whnf); refine st1B stg 0 ct3 rfl (by show _ < (2 : Nat); decide) rfl fun G2 sg2 => ?_
      replace sg2 : St H G2 [pA2 q x0 x0] := sg2
      (conv => whnf); try (refine VSeq.run ?_)
      (conv => whnf)
      by_cases he2 : e < t.size
      · have d1 : decide ((t.size : Int) ≤ (e : Int)) = false := decide_eq_false (by omega)
        (conv => whnf); rw [d1]
        (conv => whnf); refine vbt he2 ?_
        by_cases h125 : bt t e = 125
        · have d2 : (((bt t e : Nat) : Int) != 125) = false := by rw [h125]; rfl
          have hen : endM t i m n e = (if 255 < m ∨ 255 < n ∨ (0 ≤ n ∧ n < (m : Int)) then .inl (22, i) else .inr (m, n, e + 1)) := by unfold endM; rw [if_pos h125]
          (conv => whnf); rw [d2]
          (conv => whnf); refine ixa ar136 (by decide) (by decide) ?_
          (conv => whnf); refine ld1 (v := .int .i64 (x0)) ct3 (by rw [(sg2.blk 0 rfl).cell]; rfl) trivial ?_
          by_cases c1 : 255 < x0
          · have d3 : decide (255 < x0) = true := decide_eq_true c1
            (conv => whnf); rw [d3]
            (conv => whnf)
            refine ⟨sg2.old, ?_⟩
            unfold BrD
            rw [hbr, hen, if_pos (.inl (by omega))]
            rfl
          · have d3 : decide (255 < x0) = false := decide_eq_false c1
            (conv => whnf); rw [d3]
            (conv => whnf); refine ixa ar136 (by decide) (by decide) ?_
            (conv => whnf); refine ld1 (v := .int .i64 (x0)) ct3 (by rw [(sg2.blk 0 rfl).cell]; rfl) trivial ?_
            by_cases c2 : 255 < n
            · have d4 : decide (255 < x0) = true := decide_eq_true (by omega)
              (conv => whnf); rw [d4]
              (conv => whnf)
              refine ⟨sg2.old, ?_⟩
              unfold BrD
              rw [hbr, hen, if_pos (.inr (.inl c2))]
              rfl
            · have d4 : decide (255 < x0) = false := decide_eq_false (by omega)
              (conv => whnf); rw [d4]
              (conv => whnf); refine ixa ar136 (by decide) (by decide) ?_
              (conv => whnf); refine ld1 (v := .int .i64 (x0)) ct3 (by rw [(sg2.blk 0 rfl).cell]; rfl) trivial ?_
              by_cases c3 : 0 ≤ n
              · have d5 : decide (0 ≤ x0) = true := decide_eq_true (by omega)
                (conv => whnf); rw [d5]
                (conv => whnf); refine ixa ar136 (by decide) (by decide) ?_
                (conv => whnf); refine ld1 (v := .int .i64 (x0)) ct3 (by rw [(sg2.blk 0 rfl).cell]; rfl) trivial ?_
                (conv => whnf); refine ixa ar136 (by decide) (by decide) ?_
                (conv => whnf); refine ld1 (v := .int .i64 (x0)) ct3 (by rw [(sg2.blk 0 rfl).cell]; rfl) trivial ?_
                by_cases c4 : n < (m : Int)
                · have d6 : decide (x0 < x0) = true := decide_eq_true (by omega)
                  (conv => whnf); rw [d6]
                  (conv => whnf)
                  refine ⟨sg2.old, ?_⟩
                  unfold BrD
                  rw [hbr, hen, if_pos (.inr (.inr ⟨c3, c4⟩))]
                  rfl
                · have d6 : decide (x0 < x0) = false := decide_eq_false (by omega)
                  (conv => whnf); rw [d6]
                  (conv => whnf); refine VDraw.lex rfl (by kernel_rfl) ?_
                  (conv => whnf); refine ixa ar136 (by decide) (by decide) ?_
                  (conv => whnf); refine ld1 (v := .int .i64 (x0)) ct3 (by rw [(sg2.blk 0 rfl).cell]; rfl) trivial ?_
                  (conv => whnf); refine ixa ar136 (by decide) (by decide) ?_
                  (conv => whnf); refine ld1 (v := .int .i64 (x0)) ct3 (by rw [(sg2.blk 0 rfl).cell]; rfl) trivial ?_
                  (conv => whnf); rw [w64 (x := (e : Int) + 1) (by omega) (by omega)]
                  (conv => whnf)
                  refine ⟨sg2.old, ?_⟩
                  unfold BrD
                  rw [hbr, hen, if_neg (by omega), hnx, hx0]
                  rfl
              · have d5 : decide (0 ≤ x0) = false := decide_eq_false (by omega)
                (conv => whnf); rw [d5]
                (conv => whnf); refine VDraw.lex rfl (by kernel_rfl) ?_
                (conv => whnf); refine ixa ar136 (by decide) (by decide) ?_
                (conv => whnf); refine ld1 (v := .int .i64 (x0)) ct3 (by rw [(sg2.blk 0 rfl).cell]; rfl) trivial ?_
                (conv => whnf); refine ixa ar136 (by decide) (by decide) ?_
                (conv => whnf); refine ld1 (v := .int .i64 (x0)) ct3 (by rw [(sg2.blk 0 rfl).cell]; rfl) trivial ?_
                (conv => whnf); rw [w64 (x := (e : Int) + 1) (by omega) (by omega)]
                (conv => whnf)
                refine ⟨sg2.old, ?_⟩
                unfold BrD
                rw [hbr, hen, if_neg (by omega), hnx, hx0]
                rfl
        · have d2 : (((bt t e : Nat) : Int) != 125) = true := bne_iff_ne.2 (by omega)
          have hen : endM t i m n e = .inl (20, e) := by unfold endM; rw [if_neg h125]
          (conv => whnf); rw [d2]
          (conv => whnf)
          refine ⟨sg2.old, ?_⟩
          unfold BrD
          rw [hbr, hen]
          rfl
      · have d1 : decide ((t.size : Int) ≤ (e : Int)) = true := decide_eq_true (by omega)
        have hen : endM t i m n e = .inl (20, e) := by unfold endM; rw [if_neg (by rw [bt_out he2]; omega)]
        (conv => whnf); rw [d1]
        (conv => whnf)
        refine ⟨sg2.old, ?_⟩
        unfold BrD
        rw [hbr, hen]
        rfl
    · have hnx := h2n rfl
      (conv => whnf); refine VSeq.run ?_
      (conv => whnf); try (refine VSeq.run ?_)
      (conv => whnf)
      by_cases he2 : e < t.size
      · have d1 : decide ((t.size : Int) ≤ (e : Int)) = false := decide_eq_false (by omega)
        (conv => whnf); rw [d1]
        (conv => whnf); refine vbt he2 ?_
        by_cases h125 : bt t e = 125
        · have d2 : (((bt t e : Nat) : Int) != 125) = false := by rw [h125]; rfl
          have hen : endM t i m n e = (if 255 < m ∨ 255 < n ∨ (0 ≤ n ∧ n < (m : Int)) then .inl (22, i) else .inr (m, n, e + 1)) := by unfold endM; rw [if_pos h125]
          (conv => whnf); rw [d2]
          (conv => whnf); refine ixa ar136 (by decide) (by decide) ?_
          (conv => whnf); refine ld1 (v := .int .i64 (x0)) ct3 (by rw [(stg.blk 0 rfl).cell]; rfl) trivial ?_
          by_cases c1 : 255 < x0
          · have d3 : decide (255 < x0) = true := decide_eq_true c1
            (conv => whnf); rw [d3]
            (conv => whnf)
            refine ⟨stg.old, ?_⟩
            unfold BrD
            rw [hbr, hen, if_pos (.inl (by omega))]
            rfl
          · have d3 : decide (255 < x0) = false := decide_eq_false c1
            (conv => whnf); rw [d3]
            (conv => whnf); refine ixa ar136 (by decide) (by decide) ?_
            (conv => whnf); refine ld1 (v := .int .i64 (x1)) ct3 (by rw [(stg.blk 0 rfl).cell]; rfl) trivial ?_
            by_cases c2 : 255 < n
            · have d4 : decide (255 < x1) = true := decide_eq_true (by omega)
              (conv => whnf); rw [d4]
              (conv => whnf)
              refine ⟨stg.old, ?_⟩
              unfold BrD
              rw [hbr, hen, if_pos (.inr (.inl c2))]
              rfl
            · have d4 : decide (255 < x1) = false := decide_eq_false (by omega)
              (conv => whnf); rw [d4]
              (conv => whnf); refine ixa ar136 (by decide) (by decide) ?_
              (conv => whnf); refine ld1 (v := .int .i64 (x1)) ct3 (by rw [(stg.blk 0 rfl).cell]; rfl) trivial ?_
              by_cases c3 : 0 ≤ n
              · have d5 : decide (0 ≤ x1) = true := decide_eq_true (by omega)
                (conv => whnf); rw [d5]
                (conv => whnf); refine ixa ar136 (by decide) (by decide) ?_
                (conv => whnf); refine ld1 (v := .int .i64 (x1)) ct3 (by rw [(stg.blk 0 rfl).cell]; rfl) trivial ?_
                (conv => whnf); refine ixa ar136 (by decide) (by decide) ?_
                (conv => whnf); refine ld1 (v := .int .i64 (x0)) ct3 (by rw [(stg.blk 0 rfl).cell]; rfl) trivial ?_
                by_cases c4 : n < (m : Int)
                · have d6 : decide (x1 < x0) = true := decide_eq_true (by omega)
                  (conv => whnf); rw [d6]
                  (conv => whnf)
                  refine ⟨stg.old, ?_⟩
                  unfold BrD
                  rw [hbr, hen, if_pos (.inr (.inr ⟨c3, c4⟩))]
                  rfl
                · have d6 : decide (x1 < x0) = false := decide_eq_false (by omega)
                  (conv => whnf); rw [d6]
                  (conv => whnf); refine VDraw.lex rfl (by kernel_rfl) ?_
                  (conv => whnf); refine ixa ar136 (by decide) (by decide) ?_
                  (conv => whnf); refine ld1 (v := .int .i64 (x0)) ct3 (by rw [(stg.blk 0 rfl).cell]; rfl) trivial ?_
                  (conv => whnf); refine ixa ar136 (by decide) (by decide) ?_
                  (conv => whnf); refine ld1 (v := .int .i64 (x1)) ct3 (by rw [(stg.blk 0 rfl).cell]; rfl) trivial ?_
                  (conv => whnf); rw [w64 (x := (e : Int) + 1) (by omega) (by omega)]
                  (conv => whnf)
                  refine ⟨stg.old, ?_⟩
                  unfold BrD
                  rw [hbr, hen, if_neg (by omega), hnx, hx0]
                  rfl
              · have d5 : decide (0 ≤ x1) = false := decide_eq_false (by omega)
                (conv => whnf); rw [d5]
                (conv => whnf); refine VDraw.lex rfl (by kernel_rfl) ?_
                (conv => whnf); refine ixa ar136 (by decide) (by decide) ?_
                (conv => whnf); refine ld1 (v := .int .i64 (x0)) ct3 (by rw [(stg.blk 0 rfl).cell]; rfl) trivial ?_
                (conv => whnf); refine ixa ar136 (by decide) (by decide) ?_
                (conv => whnf); refine ld1 (v := .int .i64 (x1)) ct3 (by rw [(stg.blk 0 rfl).cell]; rfl) trivial ?_
                (conv => whnf); rw [w64 (x := (e : Int) + 1) (by omega) (by omega)]
                (conv => whnf)
                refine ⟨stg.old, ?_⟩
                unfold BrD
                rw [hbr, hen, if_neg (by omega), hnx, hx0]
                rfl
        · have d2 : (((bt t e : Nat) : Int) != 125) = true := bne_iff_ne.2 (by omega)
          have hen : endM t i m n e = .inl (20, e) := by unfold endM; rw [if_neg h125]
          (conv => whnf); rw [d2]
          (conv => whnf)
          refine ⟨stg.old, ?_⟩
          unfold BrD
          rw [hbr, hen]
          rfl
      · have d1 : decide ((t.size : Int) ≤ (e : Int)) = true := decide_eq_true (by omega)
        have hen : endM t i m n e = .inl (20, e) := by unfold endM; rw [if_neg (by rw [bt_out he2]; omega)]
        (conv => whnf); rw [d1]
        (conv => whnf)
        refine ⟨stg.old, ?_⟩
        unfold BrD
        rw [hbr, hen]
        rfl
end Go.Proofs.YtlnmhfhdjnenoaaGreatDoor
/- The document's parser: times, sizes. -/
set_option linter.unusedVariables false
set_option linter.unusedSimpArgs false
set_option maxRecDepth 100000
namespace Go.Proofs.YtlnmhfhdjnenoaaGreatDoor
open Go.VC Go.Lib
/-! ### how many nodes a repeat has -/
def repC (c m : Nat) (n : Int) : Nat :=
  if n < 0 then (if m = 0 then c + 1 else m * c + m + c + 1) else if n = 0 then 1 else if m = 0 then n.toNat * (c + 2) + n.toNat - 1 else m * c + m - 1 + (n.toNat - m) * (c + 3)
theorem repO_nodes (a : ReM) (m : Nat) : ∀ k, 1 ≤ k → ((repO a m k).getD .eps).nodes + 1 = min k m * (a.nodes + 1) + (k - m) * (a.nodes + 3)
  | 0, h => absurd h (by decide)
  | 1, _ => by
    rw [repO_one]
    by_cases hm : 0 < m
    · rw [if_pos hm, show min 1 m = 1 by omega, show 1 - m = 0 by omega]; simp
    · rw [if_neg hm, show min 1 m = 0 by omega, show 1 - m = 1 by omega]
      show 1 + a.nodes + 1 + 1 = _
      omega
  | k + 2, _ => by
    have ih := repO_nodes a m (k + 1) (by omega)
    rw [repO_next a m (k + 1) (by omega)]
    show 1 + _ + (if k + 1 < m then a else maybeR a).nodes + 1 = _
    by_cases hm : k + 1 < m
    · rw [if_pos hm]
      rw [show min (k + 1) m = k + 1 by omega, show k + 1 - m = 0 by omega] at ih
      rw [show min (k + 2) m = k + 1 + 1 by omega, show k + 2 - m = 0 by omega, Nat.add_mul (k + 1) 1]
      omega
    · rw [if_neg hm]
      rw [show min (k + 1) m = m by omega] at ih
      rw [show min (k + 2) m = m by omega, show k + 2 - m = (k + 1 - m) + 1 by omega, Nat.add_mul (k + 1 - m) 1]
      show 1 + _ + (1 + a.nodes + 1) + 1 = _
      omega
theorem repR_nodes (a : ReM) (m : Nat) (n : Int) (hmn : 0 ≤ n → (m : Int) ≤ n) : (repR a m n).nodes = repC a.nodes m n := by
  unfold repR repC
  by_cases hn : n < 0
  · rw [if_pos hn, if_pos hn]
    by_cases hm : m = 0
    · rw [if_pos hm, if_pos hm]; show 1 + a.nodes = _; omega
    · rw [if_neg hm, if_neg hm]
      have h := repO_nodes a m m (by omega)
      rw [Nat.min_self, Nat.sub_self, Nat.zero_mul, Nat.mul_add] at h
      show 1 + ((repO a m m).getD .eps).nodes + (1 + a.nodes) = _
      omega
  · rw [if_neg hn, if_neg hn]
    by_cases h0 : n = 0
    · rw [if_pos h0, if_pos h0]; rfl
    · rw [if_neg h0, if_neg h0]
      obtain ⟨k, rfl⟩ := Int.eq_ofNat_of_zero_le (show 0 ≤ n by omega)
      have hmk : m ≤ k := by have := hmn (by omega); omega
      have h := repO_nodes a m k (by omega)
      rw [Int.toNat_natCast]
      rw [show min k m = m by omega] at h
      by_cases hm : m = 0
      · rw [if_pos hm]
        subst hm
        have e1 : k * (a.nodes + 3) = k * (a.nodes + 2) + k := by rw [show a.nodes + 3 = a.nodes + 2 + 1 by omega, Nat.mul_add (k) (a.nodes + 2) 1, Nat.mul_one]
        simp only [Nat.zero_mul, Nat.zero_add, Nat.sub_zero] at h
        omega
      · rw [if_neg hm]
        rw [Nat.mul_add, Nat.mul_one] at h
        have : 1 ≤ m * a.nodes + m := by omega
        omega
theorem repC_cap (c m : Nat) (n : Int) (hmn : 0 ≤ n → (m : Int) ≤ n) : min (repC (min c 2001) m n) 2001 = min (repC c m n) 2001 := by
  by_cases hc : c ≤ 2001
  · rw [Nat.min_eq_left hc]
  · have h1 : repC 2001 m n ≤ repC c m n := by
      unfold repC
      split
      · split
        · omega
        · have := Nat.mul_le_mul_left m (show 2001 ≤ c by omega); omega
      · split
        · omega
        · split
          · have := Nat.mul_le_mul_left n.toNat (show 2001 + 2 ≤ c + 2 by omega); omega
          · have h1 := Nat.mul_le_mul_left m (show 2001 ≤ c by omega)
            have h2 := Nat.mul_le_mul_left (n.toNat - m) (show 2001 + 3 ≤ c + 3 by omega)
            omega
    have h2 : n ≠ 0 → 2001 ≤ repC 2001 m n := by
      intro hn
      unfold repC
      split
      · split
        · omega
        · have := Nat.mul_le_mul_right 2001 (show 1 ≤ m by omega); omega
      · have hk : 1 ≤ n.toNat := by omega
        split
        · have := Nat.mul_le_mul_right (2001 + 2) hk; omega
        · have := Nat.mul_le_mul_right 2001 (show 1 ≤ m by omega)
          have := Nat.zero_le ((n.toNat - m) * (2001 + 3))
          omega
    rw [Nat.min_eq_right (show 2001 ≤ c by omega)]
    by_cases hn : n = 0
    · subst hn; rfl
    · have := h2 hn; omega
theorem szR_rep (a : ReM) (m : Nat) (n : Int) (hmn : 0 ≤ n → (m : Int) ≤ n) : szR (repR a m n) = min (repC (szR a) m n) 2001 := by
  unfold szR
  rw [repR_nodes a m n hmn, repC_cap _ _ _ hmn]
theorem szR_bin (op : ROp) (a b : ReM) : szR (opR op a b) = min (1 + szR a + szR b) 2001 := by unfold szR; rw [opR_nodes]; omega
end Go.Proofs.YtlnmhfhdjnenoaaGreatDoor
/- The document's parser: times, sizes: the walks. -/
set_option linter.unusedVariables false
set_option linter.unusedSimpArgs false
set_option maxRecDepth 100000
namespace Go.Proofs.YtlnmhfhdjnenoaaGreatDoor
open Go.VC Go.Lib
set_option maxHeartbeats 4000000 in
theorem times_p {c : Nat} {m n : Int} (hc : c ≤ 2001) (h : RepOk m n) (H : Heap) : Pure Tryz.prog 57 #[.int .i64 (c : Int), .int .i64 m, .int .i64 n] H (.int .i64 ((repC c (lowM m) n : Nat) : Int)) := by
  refine FnOk.of_vc Tryz.func57 rfl (Tryz.call57 _) ?_
  by_cases h2 : m = -2
  · have hn : n = -1 := by rcases h with h | h; exact h.2; omega
    subst h2 hn
    (conv => whnf)
    refine ⟨?_, Agr.refl _ _⟩
    congr 1
    rw [w64 (x := (c : Int) + 1) (by omega) (by omega)]
    rw [w64 (x := (c : Int) + 1 + (c : Int)) (by omega) (by omega)]
    rw [w64 (x := (c : Int) + 1 + (c : Int) + 1) (by omega) (by omega)]
    show _ = ((1 * c + 1 + c + 1 : Nat) : Int)
    omega
  · obtain ⟨hm0, hm1, hn0, hn1, hmn⟩ : 0 ≤ m ∧ m ≤ 255 ∧ -1 ≤ n ∧ n ≤ 255 ∧ (0 ≤ n → m ≤ n) := by rcases h with h | h; exact absurd h.1 h2; exact h
    obtain ⟨k, rfl⟩ := Int.eq_ofNat_of_zero_le hm0
    have hlow : lowM (k : Int) = k := by unfold lowM; rw [if_neg h2]; rfl
    have d1 : ((k : Int) == -2) = false := beq_eq_false_iff_ne.2 h2
    have hp : k * c ≤ 255 * 2001 := Nat.mul_le_mul (by omega) hc
    rw [hlow]
    unfold repC
    (conv => whnf); try rw [d1]
    (conv => whnf); try (refine VSeq.run ?_)
    (conv => whnf)
    by_cases hneg : n < 0
    · have d2 : decide (n < 0) = true := decide_eq_true hneg
      rw [if_pos hneg]
      rw [d2]
      by_cases hk : k = 0
      · subst hk
        (conv => whnf)
        refine ⟨?_, Agr.refl _ _⟩
        congr 1
        rw [w64 (x := (c : Int) + 1) (by omega) (by omega)]
        rfl
      · have d3 : ((k : Int) == 0) = false := beq_eq_false_iff_ne.2 (by omega)
        rw [if_neg hk]
        (conv => whnf); try rw [d3]
        (conv => whnf); try (refine VSeq.run ?_)
        (conv => whnf); try rw [d2]
        (conv => whnf)
        refine ⟨?_, Agr.refl _ _⟩
        congr 1
        have ep : (k : Int) * (c : Int) = ((k * c : Nat) : Int) := (Int.natCast_mul k c).symm
        rw [ep]
        generalize k * c = p at *
        rw [w64 (x := (p : Int)) (by omega) (by omega)]
        rw [w64 (x := (p : Int) + k) (by omega) (by omega)]
        rw [w64 (x := (p : Int) + k - 1) (by omega) (by omega)]
        rw [w64 (x := (p : Int) + k - 1 + 1) (by omega) (by omega)]
        rw [w64 (x := (p : Int) + k - 1 + 1 + c) (by omega) (by omega)]
        rw [w64 (x := (p : Int) + k - 1 + 1 + c + 1) (by omega) (by omega)]
        omega
    · have d2 : decide (n < 0) = false := decide_eq_false hneg
      rw [if_neg hneg]
      try rw [d2]
      (conv => whnf); try (refine VSeq.run ?_)
      (conv => whnf); try rw [d2]
      (conv => whnf); try (refine VSeq.run ?_)
      (conv => whnf)
      obtain ⟨j, rfl⟩ := Int.eq_ofNat_of_zero_le (show 0 ≤ n by omega)
      have hq : j * (c + 2) ≤ 255 * 2003 := Nat.mul_le_mul (by omega) (by omega)
      have hr : (j - k) * (c + 3) ≤ 255 * 2004 := Nat.mul_le_mul (by omega) (by omega)
      rw [Int.toNat_natCast]
      by_cases h0 : j = 0
      · subst h0
        (conv => whnf)
        exact ⟨by rw [if_pos (show ((0 : Nat) : Int) = 0 from rfl)]; rfl, Agr.refl _ _⟩
      · have d3 : ((j : Int) == 0) = false := beq_eq_false_iff_ne.2 (by omega)
        rw [if_neg (show ¬ (j : Int) = 0 by omega)]
        try rw [d3]
        (conv => whnf); try (refine VSeq.run ?_)
        (conv => whnf)
        by_cases hk : k = 0
        · subst hk
          (conv => whnf)
          refine ⟨?_, Agr.refl _ _⟩
          congr 1
          rw [if_pos (show (0 : Nat) = 0 from rfl)]
          rw [w64 (x := (c : Int) + 2) (by omega) (by omega)]
          have ep : (j : Int) * ((c : Int) + 2) = ((j * (c + 2) : Nat) : Int) := by rw [Int.natCast_mul]; rfl
          rw [ep]
          have hj1 : 1 ≤ j * (c + 2) := Nat.le_trans (by omega) (Nat.mul_le_mul (show 1 ≤ j by omega) (show 2 ≤ c + 2 by omega))
          generalize j * (c + 2) = p at *
          rw [w64 (x := (p : Int)) (by omega) (by omega)]
          rw [w64 (x := (p : Int) + j) (by omega) (by omega)]
          rw [w64 (x := (p : Int) + j - 1) (by omega) (by omega)]
          omega
        · have d4 : ((k : Int) == 0) = false := beq_eq_false_iff_ne.2 (by omega)
          rw [if_neg hk]
          try rw [d4]
          (conv => whnf)
          refine ⟨?_, Agr.refl _ _⟩
          congr 1
          rw [w64 (x := (c : Int) + 2) (by omega) (by omega)]
          rw [w64 (x := (c : Int) + 2 + 1) (by omega) (by omega)]
          rw [w64 (x := (j : Int) - (k : Int)) (by omega) (by omega)]
          have ep : (k : Int) * (c : Int) = ((k * c : Nat) : Int) := (Int.natCast_mul k c).symm
          have eq : ((j : Int) - (k : Int)) * ((c : Int) + 2 + 1) = (((j - k) * (c + 3) : Nat) : Int) := by
            rw [Int.natCast_mul, show ((j - k : Nat) : Int) = (j : Int) - k by have := hmn (by omega); omega, show (c : Int) + 2 + 1 = ((c + 3 : Nat) : Int) by omega]
          rw [ep, eq]
          have hmn' := hmn (by omega)
          generalize k * c = p at *
          generalize (j - k) * (c + 3) = r at *
          rw [w64 (x := (p : Int)) (by omega) (by omega)]
          rw [w64 (x := (p : Int) + k) (by omega) (by omega)]
          rw [w64 (x := (p : Int) + k - 1) (by omega) (by omega)]
          rw [w64 (x := (r : Int)) (by omega) (by omega)]
          rw [w64 (x := (p : Int) + k - 1 + r) (by omega) (by omega)]
          omega
end Go.Proofs.YtlnmhfhdjnenoaaGreatDoor
/- The document's parser: sizes: the walk. -/
set_option linter.unusedVariables false
set_option linter.unusedSimpArgs false
set_option maxRecDepth 100000
namespace Go.Proofs.YtlnmhfhdjnenoaaGreatDoor
open Go.VC Go.Lib
theorem rn_m (d : RnM) : (rnL d)[259]? = some (.int .i64 d.m) := by
  unfold rnL rnCells
  rw [List.getElem?_append_right (by simp), List.getElem?_append_right (by simp [bitsL_len])]
  simp [bitsL_len]
theorem rn_n (d : RnM) : (rnL d)[260]? = some (.int .i64 d.n) := by
  unfold rnL rnCells
  rw [List.getElem?_append_right (by simp), List.getElem?_append_right (by simp [bitsL_len])]
  simp [bitsL_len]
theorem repC_le {c : Nat} {m n : Int} (hc : c ≤ 2001) (h : RepOk m n) : repC c (lowM m) n ≤ 2000000 := by
  have hm : lowM m ≤ 255 := by unfold lowM; split <;> rcases h with h | h <;> omega
  have hn : n.toNat ≤ 255 := by rcases h with h | h <;> omega
  have h1 : lowM m * c ≤ 255 * 2001 := Nat.mul_le_mul hm hc
  have h2 : n.toNat * (c + 2) ≤ 255 * 2003 := Nat.mul_le_mul hn (by omega)
  have h3 : (n.toNat - lowM m) * (c + 3) ≤ 255 * 2004 := Nat.mul_le_mul (by omega) (by omega)
  unfold repC
  split
  · split <;> omega
  · split
    · omega
    · split <;> omega
def szI (w : RwM) : Int := ((szR w.den : Nat) : Int)
def szL (ws : List RwM) (j : Nat) : List Int := (ws.take j).map szI ++ List.replicate (ws.length - j) 0
theorem szL_len (ws : List RwM) {j : Nat} (hj : j ≤ ws.length) : (szL ws j).length = ws.length := by unfold szL; simp; omega
theorem szL_get {ws : List RwM} {j i : Nat} {w : RwM} (h : ws[i]? = some w) (hi : i < j) : (szL ws j)[i]? = some (szI w) := by
  have hl := (List.getElem?_eq_some_iff.1 h).1
  unfold szL
  rw [List.getElem?_append_left (by simp; omega), List.getElem?_map, List.getElem?_take, if_pos hi, h]; rfl
theorem szL_next {ws : List RwM} {j : Nat} {w : RwM} (h : ws[j]? = some w) : (szL ws j).set j (szI w) = szL ws (j + 1) := by
  have hl := (List.getElem?_eq_some_iff.1 h).1
  apply List.ext_getElem?
  intro i
  have l1 := szL_len ws (j := j) (by omega)
  by_cases hi : i = j
  · subst hi
    rw [List.getElem?_set_self (by omega), szL_get h (by omega)]
  · rw [List.getElem?_set_ne (by omega)]
    unfold szL
    by_cases hij : i < j
    · rw [List.getElem?_append_left (by simp; omega), List.getElem?_append_left (by simp; omega), List.getElem?_map, List.getElem?_map, List.getElem?_take, List.getElem?_take, if_pos hij, if_pos (by omega)]
    · rw [List.getElem?_append_right (by simp; omega), List.getElem?_append_right (by simp; omega), List.getElem?_replicate, List.getElem?_replicate]
      simp only [List.length_map, List.length_take]
      by_cases hi2 : i < ws.length
      · rw [if_pos (by omega), if_pos (by omega)]
      · rw [if_neg (by omega), if_neg (by omega)]
abbrev pSz (b n : Nat) (xs : List Int) : Pc := pS tPl 3 (some ⟨b, 0, none⟩) n n xs
set_option maxHeartbeats 16000000 in
theorem sizes_c {S : Nat → Prop} {H : Heap} {na : Option Addr} {nc : Nat} {ds : List RnM} {ws : List RwM} (hS : ∀ k, S k → k < H.size) (hR : Raw ds ws) (hl : ds.length ≤ 16777216) (hd : SlD tRn S H na nc ds) :
    FnOk Tryz.prog 35 #[.slice na ds.length nc] H (fun v H' => ∃ b, v = .slice (some ⟨b, 0, none⟩) ds.length ds.length ∧ St H H' [pSz b ds.length (szL ws ws.length)]) := by
  have hlen := hR.len
  refine FnOk.of_vc Tryz.func35 rfl (Tryz.call35 _) ?_
  (conv => whnf); refine vmakeT (T := tPl) (v := 0) (S := none_) sl54 ⟨rfl, inI64 (x := 0) (by decide)⟩ (by omega) rfl (by omega) (by omega) ?_
  intro b H1 hb hs1 hb1 ha1
  rw [Int.toNat_natCast] at hb1 ⊢
  have st1 : St H H1 [pSz b ds.length (szL ws 0)] := by
    have := (St.nil H).new (T := tPl) (n := ds.length) (xs := List.replicate ws.length (0 : Int)) hb hs1 hb1 ha1 (by rw [hlen]; exact reps_replicate (T := tPl) (c := [.int .i64 0]) ⟨rfl, inI64 (x := 0) (by decide)⟩ _) (by simp [hlen]) (by unfold maxLen; omega)
    unfold szL
    simpa using this
  have hmax : ws.length ≤ 16777216 := by omega
  (conv => whnf)
  refine VLoop.mk [4] (fun j : Nat => [.int .i64 (j : Int)]) (fun j G => j ≤ ws.length ∧ St H G [pSz b ds.length (szL ws j)]) (fun j _ => ws.length - j) ?_ ?_
  · (conv => whnf)
    exact ⟨0, rfl, by omega, st1⟩
  · rintro j G junk ⟨hj, stg⟩
    have hv : (ws.length : Int) = (ds.length : Int) := by rw [hlen]
    (conv => whnf); refine VIte.mk (fun hz => ?_) (fun hz => ?_) <;> simp only [decide_eq_true_eq, decide_eq_false_iff_not] at hz
    · have hjl : j < ws.length := by omega
      obtain ⟨w, hw⟩ : ∃ w, ws[j]? = some w := ⟨_, List.getElem?_eq_getElem hjl⟩
      obtain ⟨d, us, vs, hdd, hws, hul, hnr⟩ := hR.at_ hw
      have hxl := szL_len ws hj
      have hlt : ∀ {i : Nat} {a : RwM}, us[i]? = some a → (szL ws j)[i]? = some (szI a) ∧ i < ws.length := fun {i a} h => by
        have hi := (List.getElem?_eq_some_iff.1 h).1
        have : ws[i]? = some a := by rw [hws]; exact getx h
        exact ⟨szL_get this (by omega), by omega⟩
      have nd : ∀ {G' : Heap} {S0 : Nat → Prop} {K : Value → Prop}, St H G' [pSz b ds.length (szL ws j)] → (∀ b2 o2, Cells G' b2 o2 (rnL d) → Old G' b2 → K (.pointer (some ⟨b2, o2, none⟩))) → VDet Tryz.prog (Instr.indexAt 30 (.slice na ds.length nc) (.int .i64 (j : Int))) S0 G' K := fun st k => by
        refine ixr (i := j) sl30 (hd.frame (st.old.mono hS)) hdd rfl ?_
        rintro b2 o2 c2 hS2 hc2 ⟨rfl, hok⟩
        exact k b2 o2 hc2 (st.up (hS b2 hS2))
      (conv => whnf); refine VSeq.run ?_
      (conv => whnf); refine VSeq.run ?_
      (conv => whnf); refine nd stg fun b2 o2 hc2 hO2 => ?_
      (conv => whnf); refine VC.fa fl94_0 ?_
      (conv => whnf); refine ld1 (v := .int .i64 d.op) ct3 (hc2 0 _ (rn_op d)) trivial ?_
      cases w with
      | eps =>
        obtain rfl : d = binN 0 0 0 := hnr
        (conv => whnf); try (refine VSeq.run ?_)
        (conv => whnf); try (refine VSeq.run ?_)
        (conv => whnf); refine nd stg fun b3 o3 hc3 hO3 => ?_
        (conv => whnf); refine VC.fa fl94_0 ?_
        (conv => whnf); refine ld1 (v := .int .i64 (binN 0 0 0).op) ct3 (hc3 0 _ (rn_op _)) trivial ?_
        (conv => whnf); try (refine VSeq.run ?_)
        (conv => whnf); refine ixE (T := tPl) (j := j) sl54 stg 0 rfl (by rw [szL_len ws hj]; exact hjl) rfl ?_
        (conv => whnf); refine st1O (T := tPl) (j := j) (x := 1) stg 0 ct3 rfl rfl (Nat.mul_one _) (by rw [szL_len ws hj]; exact hjl) rfl (fun _ _ => ⟨rfl, inI64 (x := 1) (by decide)⟩) fun G3 sg3 => ?_
        (conv => whnf); try (refine VSeq.run ?_)
        (conv => whnf); refine ixO (j := j) (x := (1 : Int)) sl54 sg3 0 rfl (by exact List.getElem?_set_self (by rw [szL_len ws hj]; exact hjl)) rfl fun b9 o9 cs9 hO9 hc9 hr9 => ?_
        obtain ⟨rfl, -⟩ := hr9
        (conv => whnf); refine ld1 (v := .int .i64 ((1 : Int))) ct3 hc9.one trivial ?_
        (conv => whnf); rw [w64 (x := (j : Int) + 1) (by omega) (by omega)]
        refine ⟨rfl, j + 1, rfl, ⟨by omega, ?_⟩, by omega⟩
        have e : (1 : Int) = szI (.eps) := by unfold szI; show (1 : Int) = ((szR (RwM.eps).den : Nat) : Int); rw [show szR (RwM.eps).den = 1 from rfl]; rfl
        have sg8 := sg3
        replace sg8 : St H _ [pSz b ds.length ((szL ws j).set j 1)] := sg8
        rw [e, szL_next hw] at sg8
        exact sg8
      | cls s =>
        obtain rfl : d = clsD s := hnr
        (conv => whnf); try (refine VSeq.run ?_)
        (conv => whnf); try (refine VSeq.run ?_)
        (conv => whnf); refine nd stg fun b3 o3 hc3 hO3 => ?_
        (conv => whnf); refine VC.fa fl94_0 ?_
        (conv => whnf); refine ld1 (v := .int .i64 (clsD s).op) ct3 (hc3 0 _ (rn_op _)) trivial ?_
        (conv => whnf); try (refine VSeq.run ?_)
        (conv => whnf); refine ixE (T := tPl) (j := j) sl54 stg 0 rfl (by rw [szL_len ws hj]; exact hjl) rfl ?_
        (conv => whnf); refine st1O (T := tPl) (j := j) (x := 1) stg 0 ct3 rfl rfl (Nat.mul_one _) (by rw [szL_len ws hj]; exact hjl) rfl (fun _ _ => ⟨rfl, inI64 (x := 1) (by decide)⟩) fun G3 sg3 => ?_
        (conv => whnf); try (refine VSeq.run ?_)
        (conv => whnf); refine ixO (j := j) (x := (1 : Int)) sl54 sg3 0 rfl (by exact List.getElem?_set_self (by rw [szL_len ws hj]; exact hjl)) rfl fun b9 o9 cs9 hO9 hc9 hr9 => ?_
        obtain ⟨rfl, -⟩ := hr9
        (conv => whnf); refine ld1 (v := .int .i64 ((1 : Int))) ct3 hc9.one trivial ?_
        (conv => whnf); rw [w64 (x := (j : Int) + 1) (by omega) (by omega)]
        refine ⟨rfl, j + 1, rfl, ⟨by omega, ?_⟩, by omega⟩
        have e : (1 : Int) = szI (.cls s) := by unfold szI; show (1 : Int) = ((szR (RwM.cls s).den : Nat) : Int); rw [show szR (RwM.cls s).den = 1 from rfl]; rfl
        have sg8 := sg3
        replace sg8 : St H _ [pSz b ds.length ((szL ws j).set j 1)] := sg8
        rw [e, szL_next hw] at sg8
        exact sg8
      | cat a c =>
        obtain ⟨i1, i2, rfl, hi1, hi2⟩ := hnr
        obtain ⟨g1, l1⟩ := hlt hi1
        obtain ⟨g2, l2⟩ := hlt hi2
        have za := szR_le a.den
        have zc := szR_le c.den
        have hsz : szR (RwM.cat a c).den = min (1 + szR a.den + szR c.den) 2001 := szR_bin .cat a.den c.den
        (conv => whnf); try (refine VSeq.run ?_)
        (conv => whnf); refine nd stg fun b3 o3 hc3 hO3 => ?_
        (conv => whnf); refine VC.fa fl94_2 ?_
        (conv => whnf); refine ld1 (v := .int .i64 (i1 : Int)) ct3 (hc3 257 _ (rn_l _)) trivial ?_
        (conv => whnf); refine ixO (j := i1) (x := szI a) sl54 stg 0 rfl g1 rfl fun b9 o9 cs9 hO9 hc9 hr9 => ?_
        obtain ⟨rfl, -⟩ := hr9
        (conv => whnf); refine ld1 (v := .int .i64 (szI a)) ct3 hc9.one trivial ?_
        (conv => whnf); try (refine VSeq.run ?_)
        (conv => whnf); refine nd stg fun b4 o4 hc4 hO4 => ?_
        (conv => whnf); refine VC.fa fl94_0 ?_
        (conv => whnf); refine ld1 (v := .int .i64 (binN 2 (i1 : Int) (i2 : Int)).op) ct3 (hc4 0 _ (rn_op _)) trivial ?_
        (conv => whnf); try (refine VSeq.run ?_)
        (conv => whnf); rw [w64 (x := 1 + szI a) (by unfold szI; omega) (by unfold szI; omega)]
        (conv => whnf); refine nd stg fun b5 o5 hc5 hO5 => ?_
        (conv => whnf); refine VC.fa fl94_3 ?_
        (conv => whnf); refine ld1 (v := .int .i64 (i2 : Int)) ct3 (hc5 258 _ (rn_r _)) trivial ?_
        (conv => whnf); refine ixO (j := i2) (x := szI c) sl54 stg 0 rfl g2 rfl fun b9 o9 cs9 hO9 hc9 hr9 => ?_
        obtain ⟨rfl, -⟩ := hr9
        (conv => whnf); refine ld1 (v := .int .i64 (szI c)) ct3 hc9.one trivial ?_
        (conv => whnf); rw [w64 (x := 1 + szI a + szI c) (by unfold szI; omega) (by unfold szI; omega)]
        rw [show 1 + szI a + szI c = ((1 + szR a.den + szR c.den : Nat) : Int) by unfold szI; omega]
        (conv => whnf); refine ixE (T := tPl) (j := j) sl54 stg 0 rfl (by rw [szL_len ws hj]; exact hjl) rfl ?_
        (conv => whnf); refine st1O (T := tPl) (j := j) (x := ((1 + szR a.den + szR c.den : Nat) : Int)) stg 0 ct3 rfl rfl (Nat.mul_one _) (by rw [szL_len ws hj]; exact hjl) rfl (fun _ _ => ⟨rfl, inI64 (by omega)⟩) fun G3 sg3 => ?_
        (conv => whnf); try (refine VSeq.run ?_)
        (conv => whnf); refine ixO (j := j) (x := (((1 + szR a.den + szR c.den : Nat) : Int) : Int)) sl54 sg3 0 rfl (by exact List.getElem?_set_self (by rw [szL_len ws hj]; exact hjl)) rfl fun b9 o9 cs9 hO9 hc9 hr9 => ?_
        obtain ⟨rfl, -⟩ := hr9
        (conv => whnf); refine ld1 (v := .int .i64 ((((1 + szR a.den + szR c.den : Nat) : Int) : Int))) ct3 hc9.one trivial ?_
        by_cases hcap : 2001 < 1 + szR a.den + szR c.den
        · have d9 : decide (2001 < (((1 + szR a.den + szR c.den : Nat) : Int) : Int)) = true := decide_eq_true (by omega)
          (conv => whnf); rw [d9]
          (conv => whnf); refine ixE (T := tPl) (j := j) sl54 sg3 0 rfl (by rw [List.length_set, szL_len ws hj]; exact hjl) rfl ?_
          (conv => whnf); refine st1O (T := tPl) (j := j) (x := 2001) sg3 0 ct3 rfl rfl (Nat.mul_one _) (by rw [List.length_set, szL_len ws hj]; exact hjl) rfl (fun _ _ => ⟨rfl, inI64 (x := 2001) (by decide)⟩) fun G8 sg8 => ?_
          (conv => whnf); rw [w64 (x := (j : Int) + 1) (by omega) (by omega)]
          refine ⟨rfl, j + 1, rfl, ⟨by omega, ?_⟩, by omega⟩
          have e : (2001 : Int) = szI (.cat a c) := by unfold szI; rw [hsz]; omega
          replace sg8 : St H G8 [pSz b ds.length (((szL ws j).set j ((1 + szR a.den + szR c.den : Nat) : Int)).set j 2001)] := sg8
          rw [List.set_set, e, szL_next hw] at sg8
          exact sg8
        · have d9 : decide (2001 < (((1 + szR a.den + szR c.den : Nat) : Int) : Int)) = false := decide_eq_false (by omega)
          (conv => whnf); rw [d9]
          (conv => whnf); rw [w64 (x := (j : Int) + 1) (by omega) (by omega)]
          refine ⟨rfl, j + 1, rfl, ⟨by omega, ?_⟩, by omega⟩
          have e : (((1 + szR a.den + szR c.den : Nat) : Int) : Int) = szI (.cat a c) := by unfold szI; rw [hsz]; omega
          have sg8 := sg3
          replace sg8 : St H _ [pSz b ds.length ((szL ws j).set j ((1 + szR a.den + szR c.den : Nat) : Int))] := sg8
          rw [e, szL_next hw] at sg8
          exact sg8
      | alt a c =>
        obtain ⟨i1, i2, rfl, hi1, hi2⟩ := hnr
        obtain ⟨g1, l1⟩ := hlt hi1
        obtain ⟨g2, l2⟩ := hlt hi2
        have za := szR_le a.den
        have zc := szR_le c.den
        have hsz : szR (RwM.alt a c).den = min (1 + szR a.den + szR c.den) 2001 := szR_bin .alt a.den c.den
        (conv => whnf); try (refine VSeq.run ?_)
        (conv => whnf); refine nd stg fun b3 o3 hc3 hO3 => ?_
        (conv => whnf); refine VC.fa fl94_2 ?_
        (conv => whnf); refine ld1 (v := .int .i64 (i1 : Int)) ct3 (hc3 257 _ (rn_l _)) trivial ?_
        (conv => whnf); refine ixO (j := i1) (x := szI a) sl54 stg 0 rfl g1 rfl fun b9 o9 cs9 hO9 hc9 hr9 => ?_
        obtain ⟨rfl, -⟩ := hr9
        (conv => whnf); refine ld1 (v := .int .i64 (szI a)) ct3 hc9.one trivial ?_
        (conv => whnf); try (refine VSeq.run ?_)
        (conv => whnf); refine nd stg fun b4 o4 hc4 hO4 => ?_
        (conv => whnf); refine VC.fa fl94_0 ?_
        (conv => whnf); refine ld1 (v := .int .i64 (binN 3 (i1 : Int) (i2 : Int)).op) ct3 (hc4 0 _ (rn_op _)) trivial ?_
        (conv => whnf); try (refine VSeq.run ?_)
        (conv => whnf); rw [w64 (x := 1 + szI a) (by unfold szI; omega) (by unfold szI; omega)]
        (conv => whnf); refine nd stg fun b5 o5 hc5 hO5 => ?_
        (conv => whnf); refine VC.fa fl94_3 ?_
        (conv => whnf); refine ld1 (v := .int .i64 (i2 : Int)) ct3 (hc5 258 _ (rn_r _)) trivial ?_
        (conv => whnf); refine ixO (j := i2) (x := szI c) sl54 stg 0 rfl g2 rfl fun b9 o9 cs9 hO9 hc9 hr9 => ?_
        obtain ⟨rfl, -⟩ := hr9
        (conv => whnf); refine ld1 (v := .int .i64 (szI c)) ct3 hc9.one trivial ?_
        (conv => whnf); rw [w64 (x := 1 + szI a + szI c) (by unfold szI; omega) (by unfold szI; omega)]
        rw [show 1 + szI a + szI c = ((1 + szR a.den + szR c.den : Nat) : Int) by unfold szI; omega]
        (conv => whnf); refine ixE (T := tPl) (j := j) sl54 stg 0 rfl (by rw [szL_len ws hj]; exact hjl) rfl ?_
        (conv => whnf); refine st1O (T := tPl) (j := j) (x := ((1 + szR a.den + szR c.den : Nat) : Int)) stg 0 ct3 rfl rfl (Nat.mul_one _) (by rw [szL_len ws hj]; exact hjl) rfl (fun _ _ => ⟨rfl, inI64 (by omega)⟩) fun G3 sg3 => ?_
        (conv => whnf); try (refine VSeq.run ?_)
        (conv => whnf); refine ixO (j := j) (x := (((1 + szR a.den + szR c.den : Nat) : Int) : Int)) sl54 sg3 0 rfl (by exact List.getElem?_set_self (by rw [szL_len ws hj]; exact hjl)) rfl fun b9 o9 cs9 hO9 hc9 hr9 => ?_
        obtain ⟨rfl, -⟩ := hr9
        (conv => whnf); refine ld1 (v := .int .i64 ((((1 + szR a.den + szR c.den : Nat) : Int) : Int))) ct3 hc9.one trivial ?_
        by_cases hcap : 2001 < 1 + szR a.den + szR c.den
        · have d9 : decide (2001 < (((1 + szR a.den + szR c.den : Nat) : Int) : Int)) = true := decide_eq_true (by omega)
          (conv => whnf); rw [d9]
          (conv => whnf); refine ixE (T := tPl) (j := j) sl54 sg3 0 rfl (by rw [List.length_set, szL_len ws hj]; exact hjl) rfl ?_
          (conv => whnf); refine st1O (T := tPl) (j := j) (x := 2001) sg3 0 ct3 rfl rfl (Nat.mul_one _) (by rw [List.length_set, szL_len ws hj]; exact hjl) rfl (fun _ _ => ⟨rfl, inI64 (x := 2001) (by decide)⟩) fun G8 sg8 => ?_
          (conv => whnf); rw [w64 (x := (j : Int) + 1) (by omega) (by omega)]
          refine ⟨rfl, j + 1, rfl, ⟨by omega, ?_⟩, by omega⟩
          have e : (2001 : Int) = szI (.alt a c) := by unfold szI; rw [hsz]; omega
          replace sg8 : St H G8 [pSz b ds.length (((szL ws j).set j ((1 + szR a.den + szR c.den : Nat) : Int)).set j 2001)] := sg8
          rw [List.set_set, e, szL_next hw] at sg8
          exact sg8
        · have d9 : decide (2001 < (((1 + szR a.den + szR c.den : Nat) : Int) : Int)) = false := decide_eq_false (by omega)
          (conv => whnf); rw [d9]
          (conv => whnf); rw [w64 (x := (j : Int) + 1) (by omega) (by omega)]
          refine ⟨rfl, j + 1, rfl, ⟨by omega, ?_⟩, by omega⟩
          have e : (((1 + szR a.den + szR c.den : Nat) : Int) : Int) = szI (.alt a c) := by unfold szI; rw [hsz]; omega
          have sg8 := sg3
          replace sg8 : St H _ [pSz b ds.length ((szL ws j).set j ((1 + szR a.den + szR c.den : Nat) : Int))] := sg8
          rw [e, szL_next hw] at sg8
          exact sg8
      | and_ a c =>
        obtain ⟨i1, i2, rfl, hi1, hi2⟩ := hnr
        obtain ⟨g1, l1⟩ := hlt hi1
        obtain ⟨g2, l2⟩ := hlt hi2
        have za := szR_le a.den
        have zc := szR_le c.den
        have hsz : szR (RwM.and_ a c).den = min (1 + szR a.den + szR c.den) 2001 := szR_bin .and_ a.den c.den
        (conv => whnf); try (refine VSeq.run ?_)
        (conv => whnf); refine nd stg fun b3 o3 hc3 hO3 => ?_
        (conv => whnf); refine VC.fa fl94_2 ?_
        (conv => whnf); refine ld1 (v := .int .i64 (i1 : Int)) ct3 (hc3 257 _ (rn_l _)) trivial ?_
        (conv => whnf); refine ixO (j := i1) (x := szI a) sl54 stg 0 rfl g1 rfl fun b9 o9 cs9 hO9 hc9 hr9 => ?_
        obtain ⟨rfl, -⟩ := hr9
        (conv => whnf); refine ld1 (v := .int .i64 (szI a)) ct3 hc9.one trivial ?_
        (conv => whnf); try (refine VSeq.run ?_)
        (conv => whnf); refine nd stg fun b4 o4 hc4 hO4 => ?_
        (conv => whnf); refine VC.fa fl94_0 ?_
        (conv => whnf); refine ld1 (v := .int .i64 (binN 5 (i1 : Int) (i2 : Int)).op) ct3 (hc4 0 _ (rn_op _)) trivial ?_
        (conv => whnf); try (refine VSeq.run ?_)
        (conv => whnf); rw [w64 (x := 1 + szI a) (by unfold szI; omega) (by unfold szI; omega)]
        (conv => whnf); refine nd stg fun b5 o5 hc5 hO5 => ?_
        (conv => whnf); refine VC.fa fl94_3 ?_
        (conv => whnf); refine ld1 (v := .int .i64 (i2 : Int)) ct3 (hc5 258 _ (rn_r _)) trivial ?_
        (conv => whnf); refine ixO (j := i2) (x := szI c) sl54 stg 0 rfl g2 rfl fun b9 o9 cs9 hO9 hc9 hr9 => ?_
        obtain ⟨rfl, -⟩ := hr9
        (conv => whnf); refine ld1 (v := .int .i64 (szI c)) ct3 hc9.one trivial ?_
        (conv => whnf); rw [w64 (x := 1 + szI a + szI c) (by unfold szI; omega) (by unfold szI; omega)]
        rw [show 1 + szI a + szI c = ((1 + szR a.den + szR c.den : Nat) : Int) by unfold szI; omega]
        (conv => whnf); refine ixE (T := tPl) (j := j) sl54 stg 0 rfl (by rw [szL_len ws hj]; exact hjl) rfl ?_
        (conv => whnf); refine st1O (T := tPl) (j := j) (x := ((1 + szR a.den + szR c.den : Nat) : Int)) stg 0 ct3 rfl rfl (Nat.mul_one _) (by rw [szL_len ws hj]; exact hjl) rfl (fun _ _ => ⟨rfl, inI64 (by omega)⟩) fun G3 sg3 => ?_
        (conv => whnf); try (refine VSeq.run ?_)
        (conv => whnf); refine ixO (j := j) (x := (((1 + szR a.den + szR c.den : Nat) : Int) : Int)) sl54 sg3 0 rfl (by exact List.getElem?_set_self (by rw [szL_len ws hj]; exact hjl)) rfl fun b9 o9 cs9 hO9 hc9 hr9 => ?_
        obtain ⟨rfl, -⟩ := hr9
        (conv => whnf); refine ld1 (v := .int .i64 ((((1 + szR a.den + szR c.den : Nat) : Int) : Int))) ct3 hc9.one trivial ?_
        by_cases hcap : 2001 < 1 + szR a.den + szR c.den
        · have d9 : decide (2001 < (((1 + szR a.den + szR c.den : Nat) : Int) : Int)) = true := decide_eq_true (by omega)
          (conv => whnf); rw [d9]
          (conv => whnf); refine ixE (T := tPl) (j := j) sl54 sg3 0 rfl (by rw [List.length_set, szL_len ws hj]; exact hjl) rfl ?_
          (conv => whnf); refine st1O (T := tPl) (j := j) (x := 2001) sg3 0 ct3 rfl rfl (Nat.mul_one _) (by rw [List.length_set, szL_len ws hj]; exact hjl) rfl (fun _ _ => ⟨rfl, inI64 (x := 2001) (by decide)⟩) fun G8 sg8 => ?_
          (conv => whnf); rw [w64 (x := (j : Int) + 1) (by omega) (by omega)]
          refine ⟨rfl, j + 1, rfl, ⟨by omega, ?_⟩, by omega⟩
          have e : (2001 : Int) = szI (.and_ a c) := by unfold szI; rw [hsz]; omega
          replace sg8 : St H G8 [pSz b ds.length (((szL ws j).set j ((1 + szR a.den + szR c.den : Nat) : Int)).set j 2001)] := sg8
          rw [List.set_set, e, szL_next hw] at sg8
          exact sg8
        · have d9 : decide (2001 < (((1 + szR a.den + szR c.den : Nat) : Int) : Int)) = false := decide_eq_false (by omega)
          (conv => whnf); rw [d9]
          (conv => whnf); rw [w64 (x := (j : Int) + 1) (by omega) (by omega)]
          refine ⟨rfl, j + 1, rfl, ⟨by omega, ?_⟩, by omega⟩
          have e : (((1 + szR a.den + szR c.den : Nat) : Int) : Int) = szI (.and_ a c) := by unfold szI; rw [hsz]; omega
          have sg8 := sg3
          replace sg8 : St H _ [pSz b ds.length ((szL ws j).set j ((1 + szR a.den + szR c.den : Nat) : Int))] := sg8
          rw [e, szL_next hw] at sg8
          exact sg8
      | minus a c =>
        obtain ⟨i1, i2, rfl, hi1, hi2⟩ := hnr
        obtain ⟨g1, l1⟩ := hlt hi1
        obtain ⟨g2, l2⟩ := hlt hi2
        have za := szR_le a.den
        have zc := szR_le c.den
        have hsz : szR (RwM.minus a c).den = min (1 + szR a.den + szR c.den) 2001 := szR_bin .minus a.den c.den
        (conv => whnf); try (refine VSeq.run ?_)
        (conv => whnf); refine nd stg fun b3 o3 hc3 hO3 => ?_
        (conv => whnf); refine VC.fa fl94_2 ?_
        (conv => whnf); refine ld1 (v := .int .i64 (i1 : Int)) ct3 (hc3 257 _ (rn_l _)) trivial ?_
        (conv => whnf); refine ixO (j := i1) (x := szI a) sl54 stg 0 rfl g1 rfl fun b9 o9 cs9 hO9 hc9 hr9 => ?_
        obtain ⟨rfl, -⟩ := hr9
        (conv => whnf); refine ld1 (v := .int .i64 (szI a)) ct3 hc9.one trivial ?_
        (conv => whnf); try (refine VSeq.run ?_)
        (conv => whnf); refine nd stg fun b4 o4 hc4 hO4 => ?_
        (conv => whnf); refine VC.fa fl94_0 ?_
        (conv => whnf); refine ld1 (v := .int .i64 (binN 6 (i1 : Int) (i2 : Int)).op) ct3 (hc4 0 _ (rn_op _)) trivial ?_
        (conv => whnf); try (refine VSeq.run ?_)
        (conv => whnf); rw [w64 (x := 1 + szI a) (by unfold szI; omega) (by unfold szI; omega)]
        (conv => whnf); refine nd stg fun b5 o5 hc5 hO5 => ?_
        (conv => whnf); refine VC.fa fl94_3 ?_
        (conv => whnf); refine ld1 (v := .int .i64 (i2 : Int)) ct3 (hc5 258 _ (rn_r _)) trivial ?_
        (conv => whnf); refine ixO (j := i2) (x := szI c) sl54 stg 0 rfl g2 rfl fun b9 o9 cs9 hO9 hc9 hr9 => ?_
        obtain ⟨rfl, -⟩ := hr9
        (conv => whnf); refine ld1 (v := .int .i64 (szI c)) ct3 hc9.one trivial ?_
        (conv => whnf); rw [w64 (x := 1 + szI a + szI c) (by unfold szI; omega) (by unfold szI; omega)]
        rw [show 1 + szI a + szI c = ((1 + szR a.den + szR c.den : Nat) : Int) by unfold szI; omega]
        (conv => whnf); refine ixE (T := tPl) (j := j) sl54 stg 0 rfl (by rw [szL_len ws hj]; exact hjl) rfl ?_
        (conv => whnf); refine st1O (T := tPl) (j := j) (x := ((1 + szR a.den + szR c.den : Nat) : Int)) stg 0 ct3 rfl rfl (Nat.mul_one _) (by rw [szL_len ws hj]; exact hjl) rfl (fun _ _ => ⟨rfl, inI64 (by omega)⟩) fun G3 sg3 => ?_
        (conv => whnf); try (refine VSeq.run ?_)
        (conv => whnf); refine ixO (j := j) (x := (((1 + szR a.den + szR c.den : Nat) : Int) : Int)) sl54 sg3 0 rfl (by exact List.getElem?_set_self (by rw [szL_len ws hj]; exact hjl)) rfl fun b9 o9 cs9 hO9 hc9 hr9 => ?_
        obtain ⟨rfl, -⟩ := hr9
        (conv => whnf); refine ld1 (v := .int .i64 ((((1 + szR a.den + szR c.den : Nat) : Int) : Int))) ct3 hc9.one trivial ?_
        by_cases hcap : 2001 < 1 + szR a.den + szR c.den
        · have d9 : decide (2001 < (((1 + szR a.den + szR c.den : Nat) : Int) : Int)) = true := decide_eq_true (by omega)
          (conv => whnf); rw [d9]
          (conv => whnf); refine ixE (T := tPl) (j := j) sl54 sg3 0 rfl (by rw [List.length_set, szL_len ws hj]; exact hjl) rfl ?_
          (conv => whnf); refine st1O (T := tPl) (j := j) (x := 2001) sg3 0 ct3 rfl rfl (Nat.mul_one _) (by rw [List.length_set, szL_len ws hj]; exact hjl) rfl (fun _ _ => ⟨rfl, inI64 (x := 2001) (by decide)⟩) fun G8 sg8 => ?_
          (conv => whnf); rw [w64 (x := (j : Int) + 1) (by omega) (by omega)]
          refine ⟨rfl, j + 1, rfl, ⟨by omega, ?_⟩, by omega⟩
          have e : (2001 : Int) = szI (.minus a c) := by unfold szI; rw [hsz]; omega
          replace sg8 : St H G8 [pSz b ds.length (((szL ws j).set j ((1 + szR a.den + szR c.den : Nat) : Int)).set j 2001)] := sg8
          rw [List.set_set, e, szL_next hw] at sg8
          exact sg8
        · have d9 : decide (2001 < (((1 + szR a.den + szR c.den : Nat) : Int) : Int)) = false := decide_eq_false (by omega)
          (conv => whnf); rw [d9]
          (conv => whnf); rw [w64 (x := (j : Int) + 1) (by omega) (by omega)]
          refine ⟨rfl, j + 1, rfl, ⟨by omega, ?_⟩, by omega⟩
          have e : (((1 + szR a.den + szR c.den : Nat) : Int) : Int) = szI (.minus a c) := by unfold szI; rw [hsz]; omega
          have sg8 := sg3
          replace sg8 : St H _ [pSz b ds.length ((szL ws j).set j ((1 + szR a.den + szR c.den : Nat) : Int))] := sg8
          rw [e, szL_next hw] at sg8
          exact sg8
      | rep a m n =>
        obtain ⟨i1, rfl, hi1, hrk⟩ := hnr
        obtain ⟨g1, l1⟩ := hlt hi1
        have za := szR_le a.den
        have hmn : 0 ≤ n → ((lowM m : Nat) : Int) ≤ n := by intro h0; unfold lowM; rcases hrk with h | h <;> split <;> omega
        have hsz : szR (RwM.rep a m n).den = min (repC (szR a.den) (lowM m) n) 2001 := szR_rep a.den (lowM m) n hmn
        have hrl := repC_le za hrk
        (conv => whnf); try (refine VSeq.run ?_)
        (conv => whnf); refine nd stg fun b3 o3 hc3 hO3 => ?_
        (conv => whnf); refine VC.fa fl94_2 ?_
        (conv => whnf); refine ld1 (v := .int .i64 (i1 : Int)) ct3 (hc3 257 _ (rn_l _)) trivial ?_
        (conv => whnf); refine ixO (j := i1) (x := szI a) sl54 stg 0 rfl g1 rfl fun b9 o9 cs9 hO9 hc9 hr9 => ?_
        obtain ⟨rfl, -⟩ := hr9
        (conv => whnf); refine ld1 (v := .int .i64 (szI a)) ct3 hc9.one trivial ?_
        (conv => whnf); try (refine VSeq.run ?_)
        (conv => whnf); refine nd stg fun b4 o4 hc4 hO4 => ?_
        (conv => whnf); refine VC.fa fl94_0 ?_
        (conv => whnf); refine ld1 (v := .int .i64 (repN (i1 : Int) m n).op) ct3 (hc4 0 _ (rn_op _)) trivial ?_
        (conv => whnf); try (refine VSeq.run ?_)
        (conv => whnf); refine VDraw.heldZ (Old G) [15] (sq [0,1,2,3,4,5,6,7,8,9,10,11,12] (.f 13 (sq [14] (.f 15 .e)))) rfl (by kernel_rfl) ?_
        (conv => whnf); refine nd stg fun b5 o5 hc5 hO5 => ?_
        (conv => whnf); refine VC.fa fl94_4 ?_
        (conv => whnf); refine ld1 (v := .int .i64 m) ct3 (hc5 259 _ (rn_m _)) hO5 ?_
        (conv => whnf); refine nd stg fun b6 o6 hc6 hO6 => ?_
        (conv => whnf); refine VC.fa fl94_5 ?_
        (conv => whnf); refine ld1 (v := .int .i64 n) ct3 (hc6 260 _ (rn_n _)) hO6 ?_
        (conv => whnf); refine pures (times_p (c := szR a.den) za hrk G) fun G7 ha7 => ?_
        have sg7 := stg.call ha7
        refine ⟨ha7, ?_⟩
        (conv => whnf); refine ixE (T := tPl) (j := j) sl54 sg7 0 rfl (by rw [szL_len ws hj]; exact hjl) rfl ?_
        (conv => whnf); refine st1O (T := tPl) (j := j) (x := ((repC (szR a.den) (lowM m) n : Nat) : Int)) sg7 0 ct3 rfl rfl (Nat.mul_one _) (by rw [szL_len ws hj]; exact hjl) rfl (fun _ _ => ⟨rfl, inI64 (by omega)⟩) fun G3 sg3 => ?_
        (conv => whnf); try (refine VSeq.run ?_)
        (conv => whnf); refine ixO (j := j) (x := (((repC (szR a.den) (lowM m) n : Nat) : Int) : Int)) sl54 sg3 0 rfl (by exact List.getElem?_set_self (by rw [szL_len ws hj]; exact hjl)) rfl fun b9 o9 cs9 hO9 hc9 hr9 => ?_
        obtain ⟨rfl, -⟩ := hr9
        (conv => whnf); refine ld1 (v := .int .i64 ((((repC (szR a.den) (lowM m) n : Nat) : Int) : Int))) ct3 hc9.one trivial ?_
        by_cases hcap : 2001 < repC (szR a.den) (lowM m) n
        · have d9 : decide (2001 < (((repC (szR a.den) (lowM m) n : Nat) : Int) : Int)) = true := decide_eq_true (by omega)
          (conv => whnf); rw [d9]
          (conv => whnf); refine ixE (T := tPl) (j := j) sl54 sg3 0 rfl (by rw [List.length_set, szL_len ws hj]; exact hjl) rfl ?_
          (conv => whnf); refine st1O (T := tPl) (j := j) (x := 2001) sg3 0 ct3 rfl rfl (Nat.mul_one _) (by rw [List.length_set, szL_len ws hj]; exact hjl) rfl (fun _ _ => ⟨rfl, inI64 (x := 2001) (by decide)⟩) fun G8 sg8 => ?_
          (conv => whnf); rw [w64 (x := (j : Int) + 1) (by omega) (by omega)]
          refine ⟨rfl, j + 1, rfl, ⟨by omega, ?_⟩, by omega⟩
          have e : (2001 : Int) = szI (.rep a m n) := by unfold szI; rw [hsz]; omega
          replace sg8 : St H G8 [pSz b ds.length (((szL ws j).set j ((repC (szR a.den) (lowM m) n : Nat) : Int)).set j 2001)] := sg8
          rw [List.set_set, e, szL_next hw] at sg8
          exact sg8
        · have d9 : decide (2001 < (((repC (szR a.den) (lowM m) n : Nat) : Int) : Int)) = false := decide_eq_false (by omega)
          (conv => whnf); rw [d9]
          (conv => whnf); rw [w64 (x := (j : Int) + 1) (by omega) (by omega)]
          refine ⟨rfl, j + 1, rfl, ⟨by omega, ?_⟩, by omega⟩
          have e : (((repC (szR a.den) (lowM m) n : Nat) : Int) : Int) = szI (.rep a m n) := by unfold szI; rw [hsz]; omega
          have sg8 := sg3
          replace sg8 : St H _ [pSz b ds.length ((szL ws j).set j ((repC (szR a.den) (lowM m) n : Nat) : Int))] := sg8
          rw [e, szL_next hw] at sg8
          exact sg8
    · obtain rfl : j = ws.length := by omega
      (conv => whnf)
      exact ⟨b, rfl, stg⟩
end Go.Proofs.YtlnmhfhdjnenoaaGreatDoor
/- The document's parser: put, optional, unroll: the walks. -/
set_option linter.unusedVariables false
set_option linter.unusedSimpArgs false
set_option maxRecDepth 100000
namespace Go.Proofs.YtlnmhfhdjnenoaaGreatDoor
open Go.VC Go.Lib
abbrev reP (bb : Nat) (a : Option Addr) (c : Nat) (ns : List RnM) (root : Int) (rest : List Pc) : List Pc := pB tRe bb (reL (.slice a ns.length c) root) :: pS tRn 94 a ns.length c ns :: rest
section
variable {B : Nat → Prop} {H0 H : Heap} {bb c : Nat} {a : Option Addr} {ns : List RnM} {root : Int} {rest : List Pc}
theorem put_g {op x y : Int} (st : StB B H0 H (reP bb a c ns root rest)) (h1 : NumOk op) (h2 : NumOk x) (h3 : NumOk y) (hl : ns.length ≤ 16777216) :
    FnOk Tryz.prog 59 #[.pointer (some ⟨bb, 0, none⟩), .int .i64 op, .int .i64 x, .int .i64 y] H
      (fun v H' => v = .int .i64 (ns.length : Int) ∧ ∃ a' c', StB B H0 H' (reP bb a' c' (ns ++ [binN op x y]) root rest)) := by
  refine FnOk.of_vc Tryz.func59 rfl (Tryz.call59 _) ?_
  (conv => whnf); refine VC.fa fl32_0 ?_
  (conv => whnf); refine ld1 (v := .slice a ns.length c) ct30 (by rw [(st.blk 0 rfl).cell]; rfl) trivial ?_
  (conv => whnf); refine rn_build2 op x y ?_
  (conv => whnf); refine vbuild1 sl30 (rnL (binN op x y)) rfl (rnL_len _) (by decide) (by decide) ?_
  intro z H1 hz hs1 hb1 ha1
  have st1 := st.skip hz ha1
  (conv => whnf); refine appG (ys := [binN op x y]) st1 1 sl30 rfl (hb1.cells (o := 0) (cs := rnL (binN op x y)) fun j v hv => by rw [Nat.zero_add]; exact hv) (Ty.reps_one ⟨rfl, bin_ok h1 h2 h3⟩) rfl (fun u hu => List.all_eq_true.1 (rn_ones _) u hu) (by simp [maxLen]; omega) (by simp; omega) fun a9 c9 H9 st9 ha9 => ?_
  have el : ns.length + [binN op x y].length = (ns ++ [binN op x y]).length := by simp
  rw [el] at st9 ⊢
  (conv => whnf); refine VC.fa fl32_0 ?_
  (conv => whnf); refine st1B st9 0 ct30 rfl (show 0 < 2 by decide) rfl fun H10 st10 => ?_
  (conv => whnf); refine VC.fa fl32_0 ?_
  (conv => whnf); refine ld1 (v := .slice a9 (ns ++ [binN op x y]).length c9) ct30 (by rw [(st10.blk 0 rfl).cell]; rfl) trivial ?_
  have w1 : IntKind.wrap .i64 (((ns ++ [binN op x y]).length : Int) - 1) = (ns.length : Int) := by
    rw [List.length_append, List.length_singleton, w64 (by omega) (by omega)]; omega
  (conv => whnf); rw [w1]
  (conv => whnf)
  exact ⟨rfl, a9, c9, st10⟩
/-- A tree that was grown behind ns. -/
structure GrP (B : Nat → Prop) (H0 : Heap) (bb : Nat) (root : Int) (rest : List Pc) (ns : List RnM) (r : ReM) (v : Value) (H' : Heap) : Prop where
  ex : ∃ (ms : List RnM) (a' : Option Addr) (c' : Nat), ms.length = r.nodes ∧ v = .int .i64 ((ns.length + ms.length - 1 : Nat) : Int) ∧ TreeAt (ns ++ ms) r (ns.length + ms.length - 1) ∧ StB B H0 H' (reP bb a' c' (ns ++ ms) root rest)
/-- What grow is to show of w. -/
def GrSpec (w : RwM) : Prop := ∀ (B : Nat → Prop) (H0 H : Heap) (bb c : Nat) (a : Option Addr) (ns : List RnM) (root : Int) (rest : List Pc) (na : Option Addr) (nc i : Nat) (ds : List RnM) (ws : List RwM), Raw ds ws → SlD tRn B H0 na nc ds → (∀ k, B k → k < H0.size) → ws[i]? = some w →
  ns.length + w.den.nodes ≤ 4194304 → StB B H0 H (reP bb a c ns root rest) →
  FnOk Tryz.prog 36 #[.slice na ds.length nc, .int .i64 (i : Int), .pointer (some ⟨bb, 0, none⟩)] H (GrP B H0 bb root rest ns w.den)
theorem nodes_pos (r : ReM) : 1 ≤ r.nodes := by cases r <;> simp [ReM.nodes] <;> omega
theorem get_end {α : Type} (l : List α) (x : α) : (l ++ [x])[l.length]? = some x := by simp
theorem num_nat {n : Nat} (h : n ≤ 4194304) : NumOk (n : Int) := by unfold NumOk; omega
theorem optional_c {w : RwM} (IH : GrSpec w) {na : Option Addr} {nc i : Nat} {ds : List RnM} {ws : List RwM} (hR : Raw ds ws) (hd : SlD tRn B H0 na nc ds) (hB : ∀ k, B k → k < H0.size) (hw : ws[i]? = some w) (hl : ns.length + w.den.nodes + 2 ≤ 4194304) (st : StB B H0 H (reP bb a c ns root rest)) :
    FnOk Tryz.prog 86 #[.slice na ds.length nc, .int .i64 (i : Int), .pointer (some ⟨bb, 0, none⟩)] H (GrP B H0 bb root rest ns (maybeR w.den)) := by
  refine FnOk.of_vc Tryz.func86 rfl (Tryz.call86 _) ?_
  (conv => whnf); refine VCall.mk (IH B H0 H bb c a ns root rest na nc i ds ws hR hd hB hw (by omega) st) ?_
  rintro _ H1 ⟨ms, a1, c1, hm, rfl, ht, st1⟩
  have hp := nodes_pos w.den
  (conv => whnf); refine VCall.mk (put_g (op := 0) (x := 0) (y := 0) st1 (by unfold NumOk; omega) (by unfold NumOk; omega) (by unfold NumOk; omega) (by simp; omega)) ?_
  rintro _ H2 ⟨rfl, a2, c2, st2⟩
  (conv => whnf); refine VCall.mk (put_g (op := 3) (x := ((ns.length + ms.length - 1 : Nat) : Int)) (y := ((ns ++ ms).length : Int)) st2 (by unfold NumOk; omega) (num_nat (by omega)) (num_nat (by simp; omega)) (by simp; omega)) ?_
  rintro _ H3 ⟨rfl, a3, c3, st3⟩
  (conv => whnf)
  refine ⟨ms ++ [binN 0 0 0] ++ [binN 3 ((ns.length + ms.length - 1 : Nat) : Int) ((ns ++ ms).length : Int)], a3, c3, ?_, ?_, ?_, ?_⟩
  · simp [maybeR, ReM.nodes, hm]; omega
  · congr 1; simp only [List.length_append, List.length_singleton]; omega
  · have e : ns ++ (ms ++ [binN 0 0 0] ++ [binN 3 ((ns.length + ms.length - 1 : Nat) : Int) ((ns ++ ms).length : Int)]) = ((ns ++ ms) ++ [binN 0 0 0]) ++ [binN 3 ((ns.length + ms.length - 1 : Nat) : Int) ((ns ++ ms).length : Int)] := by simp [List.append_assoc]
    rw [e]
    refine ⟨binN 3 ((ns.length + ms.length - 1 : Nat) : Int) ((ns ++ ms).length : Int), ns.length + ms.length - 1, (ns ++ ms).length, ?_, rfl, rfl, rfl, ht.more.more, ⟨binN 0 0 0, getx (get_end _ _), rfl⟩⟩
    have := get_end ((ns ++ ms) ++ [binN 0 0 0]) (binN 3 ((ns.length + ms.length - 1 : Nat) : Int) ((ns ++ ms).length : Int))
    rw [show ns.length + (ms ++ [binN 0 0 0] ++ [binN 3 ((ns.length + ms.length - 1 : Nat) : Int) ((ns ++ ms).length : Int)]).length - 1 = ((ns ++ ms) ++ [binN 0 0 0]).length by simp only [List.length_append, List.length_singleton]; omega]
    exact this
  · have e : ns ++ (ms ++ [binN 0 0 0] ++ [binN 3 ((ns.length + ms.length - 1 : Nat) : Int) ((ns ++ ms).length : Int)]) = ((ns ++ ms) ++ [binN 0 0 0]) ++ [binN 3 ((ns.length + ms.length - 1 : Nat) : Int) ((ns ++ ms).length : Int)] := by simp [List.append_assoc]
    rw [e]
    exact st3
end
end Go.Proofs.YtlnmhfhdjnenoaaGreatDoor
/- The document's parser: unroll: the walk. -/
set_option linter.unusedVariables false
set_option linter.unusedSimpArgs false
set_option maxRecDepth 100000
namespace Go.Proofs.YtlnmhfhdjnenoaaGreatDoor
open Go.VC Go.Lib
def rO (r : ReM) (m k : Nat) : ReM := (repO r m k).getD .eps
theorem rO_one (r : ReM) (m : Nat) : rO r m 1 = if 0 < m then r else maybeR r := rfl
theorem rO_next (r : ReM) (m k : Nat) (h : 1 ≤ k) : rO r m (k + 1) = .cat (rO r m k) (if k < m then r else maybeR r) := repO_next r m k h
theorem rO_mono (r : ReM) (m : Nat) {k : Nat} (h : 1 ≤ k) : ∀ j, (rO r m k).nodes ≤ (rO r m (k + j)).nodes
  | 0 => Nat.le_refl _
  | j + 1 => by
    have ih := rO_mono r m h j
    have e : (rO r m (k + (j + 1))).nodes = 1 + (rO r m (k + j)).nodes + (if k + j < m then r else maybeR r).nodes := by
      rw [show k + (j + 1) = (k + j) + 1 by omega, rO_next r m (k + j) (by omega)]; rfl
    omega
section
variable {B : Nat → Prop} {H0 H : Heap} {bb c : Nat} {a : Option Addr} {ns : List RnM} {root : Int} {rest : List Pc}
/-- Where unroll's loop stands. -/
structure UnI (B : Nat → Prop) (H0 : Heap) (bb : Nat) (root : Int) (rest : List Pc) (ns : List RnM) (r : ReM) (m k : Nat) (out : Int) (G : Heap) : Prop where
  ex : ∃ (ms : List RnM) (a : Option Addr) (c : Nat), (k = 0 → ms = [] ∧ out = -1) ∧ (0 < k → ms.length = (rO r m k).nodes ∧ out = ((ns.length + ms.length - 1 : Nat) : Int) ∧ TreeAt (ns ++ ms) (rO r m k) (ns.length + ms.length - 1)) ∧ StB B H0 G (reP bb a c (ns ++ ms) root rest)
theorem grp_bin {r1 r2 : ReM} {ms1 ms2 : List RnM} {op : Int} {R : ReM} {G : Heap} {a' : Option Addr} {c' : Nat} (h1 : ms1.length = r1.nodes) (h2 : ms2.length = r2.nodes)
    (hR : R.nodes = 1 + r1.nodes + r2.nodes)
    (hT : ∀ ns' d j k, ns'[ns.length + (ms1 ++ ms2 ++ [d]).length - 1]? = some d → d = binN op ((j : Nat) : Int) ((k : Nat) : Int) → TreeAt ns' r1 j → TreeAt ns' r2 k → TreeAt ns' R (ns.length + (ms1 ++ ms2 ++ [d]).length - 1))
    (t1 : TreeAt (ns ++ ms1) r1 (ns.length + ms1.length - 1)) (t2 : TreeAt (ns ++ ms1 ++ ms2) r2 ((ns ++ ms1).length + ms2.length - 1))
    (st : StB B H0 G (reP bb a' c' (ns ++ ms1 ++ ms2 ++ [binN op ((ns.length + ms1.length - 1 : Nat) : Int) (((ns ++ ms1).length + ms2.length - 1 : Nat) : Int)]) root rest)) :
    GrP B H0 bb root rest ns R (.int .i64 ((ns ++ ms1 ++ ms2).length : Int)) G := by
  have p1 := nodes_pos r1
  have p2 := nodes_pos r2
  obtain ⟨d, hd⟩ : ∃ d, d = binN op ((ns.length + ms1.length - 1 : Nat) : Int) (((ns ++ ms1).length + ms2.length - 1 : Nat) : Int) := ⟨_, rfl⟩
  rw [← hd] at st
  have e : ns ++ (ms1 ++ ms2 ++ [d]) = ns ++ ms1 ++ ms2 ++ [d] := by simp [List.append_assoc]
  refine ⟨ms1 ++ ms2 ++ [d], a', c', ?_, ?_, ?_, ?_⟩
  · simp only [List.length_append, List.length_singleton, h1, h2]; omega
  · congr 1; simp only [List.length_append, List.length_singleton]; omega
  · rw [e]
    refine hT _ d _ _ ?_ hd t1.more.more t2.more
    rw [show ns.length + (ms1 ++ ms2 ++ [d]).length - 1 = (ns ++ ms1 ++ ms2).length by simp only [List.length_append, List.length_singleton]; omega]
    exact get_end _ _
  · rw [e]; exact st
theorem grp_star {r1 : ReM} {ms1 : List RnM} {G : Heap} {a' : Option Addr} {c' : Nat} (h1 : ms1.length = r1.nodes) (t1 : TreeAt (ns ++ ms1) r1 (ns.length + ms1.length - 1))
    (st : StB B H0 G (reP bb a' c' (ns ++ ms1 ++ [binN 4 ((ns.length + ms1.length - 1 : Nat) : Int) 0]) root rest)) :
    GrP B H0 bb root rest ns (.star r1) (.int .i64 ((ns ++ ms1).length : Int)) G := by
  have p1 := nodes_pos r1
  have e : ns ++ (ms1 ++ [binN 4 ((ns.length + ms1.length - 1 : Nat) : Int) 0]) = ns ++ ms1 ++ [binN 4 ((ns.length + ms1.length - 1 : Nat) : Int) 0] := by simp [List.append_assoc]
  refine ⟨ms1 ++ [binN 4 ((ns.length + ms1.length - 1 : Nat) : Int) 0], a', c', ?_, ?_, ?_, ?_⟩
  · simp only [List.length_append, List.length_singleton, h1, ReM.nodes]; omega
  · congr 1; simp only [List.length_append, List.length_singleton]; omega
  · rw [e]
    refine ⟨binN 4 ((ns.length + ms1.length - 1 : Nat) : Int) 0, ns.length + ms1.length - 1, ?_, rfl, rfl, t1.more⟩
    rw [show ns.length + (ms1 ++ [binN 4 ((ns.length + ms1.length - 1 : Nat) : Int) 0]).length - 1 = (ns ++ ms1).length by simp only [List.length_append, List.length_singleton]; omega]
    exact get_end _ _
  · rw [e]; exact st
theorem grp_eps {G : Heap} {a' : Option Addr} {c' : Nat} (st : StB B H0 G (reP bb a' c' (ns ++ [binN 0 0 0]) root rest)) : GrP B H0 bb root rest ns .eps (.int .i64 (ns.length : Int)) G :=
  ⟨[binN 0 0 0], a', c', rfl, by simp, ⟨binN 0 0 0, by simp, rfl⟩, st⟩
theorem GrP.drop {ms : List Pc} {r : ReM} {v : Value} {G : Heap} (h : GrP B H0 bb root (rest ++ ms) ns r v G) : GrP B H0 bb root rest ns r v G := by
  obtain ⟨ms1, a1, c1, h1, h2, h3, st⟩ := h
  exact ⟨ms1, a1, c1, h1, h2, h3, st.subl (List.Sublist.cons_cons _ (List.Sublist.cons_cons _ (List.sublist_append_left _ _)))⟩
set_option maxHeartbeats 16000000 in
theorem unroll_c {w : RwM} (IH : GrSpec w) {na : Option Addr} {nc i : Nat} {ds : List RnM} {ws : List RwM} {m n : Int} (hR : Raw ds ws) (hd : SlD tRn B H0 na nc ds) (hB : ∀ k, B k → k < H0.size) (hw : ws[i]? = some w) (hrk : RepOk m n) (hl : ns.length + (repR w.den (lowM m) n).nodes ≤ 4194304) (st : StB B H0 H (reP bb a c ns root rest)) :
    FnOk Tryz.prog 58 #[.slice na ds.length nc, .agg (rnL (repN (i : Int) m n)).toArray, .pointer (some ⟨bb, 0, none⟩)] H (GrP B H0 bb root rest ns (repR w.den (lowM m) n)) := by
  have hmx : lowM m ≤ 255 := by unfold lowM; split <;> rcases hrk with h | h <;> omega
  have hnx1 : n ≤ 255 := by rcases hrk with h | h <;> omega
  have hnx2 : -1 ≤ n := by rcases hrk with h | h <;> omega
  have hmn : 0 ≤ n → ((lowM m : Nat) : Int) ≤ n := by intro h0; unfold lowM; rcases hrk with h | h <;> split <;> omega
  have hpos := nodes_pos w.den
  refine FnOk.of_vc Tryz.func58 rfl (Tryz.call58 _) ?_
  (conv => whnf); refine vbox (rnL (repN (i : Int) m n)) rfl ?_
  intro x H1 hx hs1 hb1 ha1
  have st1 := st.box hx hs1 hb1 ha1
  replace st1 : StB B H0 H1 (reP bb a c ns root (rest ++ [pB 94 x (rnL (repN (i : Int) m n))])) := st1
  (conv => whnf); refine VC.fa fl94_4 ?_
  (conv => whnf); refine ld1 (v := .int .i64 m) ct3 (by rw [(st1.blk _ (lgR (_ :: _ :: rest) _ 0)).cell, Nat.zero_add]; exact rn_m _) trivial ?_
  (conv => whnf)
  refine VSeq.cut [7] (fun _ : Unit => [.int .i64 ((lowM m : Nat) : Int)]) (fun _ G => StB B H0 G (reP bb a c ns root (rest ++ [pB 94 x (rnL (repN (i : Int) m n))]))) ?_ ?_
  · by_cases h2 : m = -2
    · subst h2
      (conv => whnf)
      exact ⟨rfl, (), rfl, st1⟩
    · have d1 : (m == -2) = false := beq_eq_false_iff_ne.2 h2
      (conv => whnf); rw [d1]
      (conv => whnf)
      refine ⟨rfl, (), ?_, st1⟩
      have : ((lowM m : Nat) : Int) = m := by
        unfold lowM; rw [if_neg h2]
        have : 0 ≤ m := by rcases hrk with h | h <;> omega
        omega
      rw [this]
  rintro ⟨⟩ G junk sg
  clear st st1 hb1 ha1
  (conv => whnf); refine VC.fa fl94_5 ?_
  (conv => whnf); refine ld1 (v := .int .i64 n) ct3 (by rw [(sg.blk _ (lgR (_ :: _ :: rest) _ 0)).cell, Nat.zero_add]; exact rn_n _) trivial ?_
  (conv => whnf)
  by_cases h1 : n < 0
  · have d1 : decide (n < 0) = true := decide_eq_true h1
    rw [d1]
    by_cases h0 : lowM m = 0
    · have hrep : repR w.den (lowM m) n = .star w.den := by unfold repR; rw [if_pos h1, if_pos h0]
      rw [hrep] at hl ⊢
      simp only [ReM.nodes] at hl
      have d2 : (((lowM m : Nat) : Int) == 0) = true := by rw [h0]; rfl
      (conv => whnf); rw [d2]
      (conv => whnf); refine VC.fa fl94_2 ?_
      (conv => whnf); refine ld1 (v := .int .i64 (i : Int)) ct3 (by rw [(sg.blk _ (lgR (_ :: _ :: rest) _ 0)).cell, Nat.zero_add]; exact rn_l _) trivial ?_
      (conv => whnf); refine VCall.mk (IH B H0 _ bb _ _ (ns) root (rest ++ [pB 94 x (rnL (repN (i : Int) m n))]) na nc i ds ws hR hd hB hw (by omega) sg) ?_
      rintro _ G1 ⟨ms1, a1, c1, hm1, rfl, ht1, sg1⟩
      (conv => whnf); refine VCall.mk (put_g (op := 4) (x := ((ns.length + ms1.length - 1 : Nat) : Int)) (y := 0) sg1 (by unfold NumOk; omega) (num_nat (by omega)) (by unfold NumOk; omega) (by simp; omega)) ?_
      rintro _ G2 ⟨rfl, a2, c2, sg2⟩
      (conv => whnf)
      exact (grp_star hm1 ht1 sg2).drop
    · have d2 : (((lowM m : Nat) : Int) == 0) = false := beq_eq_false_iff_ne.2 (by omega)
      (conv => whnf); rw [d2]
      have hns : ¬ (n < 0 ∧ lowM m = 0) := fun h => h0 h.2
      clear d1 d2
      (conv => whnf); refine VC.fa fl94_5 ?_
      (conv => whnf); refine ld1 (v := .int .i64 n) ct3 (by rw [(sg.blk _ (lgR (_ :: _ :: rest) _ 0)).cell, Nat.zero_add]; exact rn_n _) trivial ?_
      (conv => whnf)
      by_cases h0 : n = 0
      · have d1 : (n == 0) = true := by rw [h0]; rfl
        have hrep : repR w.den (lowM m) n = .eps := by unfold repR; rw [if_neg (by omega), if_pos h0]
        rw [hrep] at hl ⊢
        simp only [ReM.nodes] at hl
        rw [d1]
        (conv => whnf); refine VCall.mk (put_g (op := 0) (x := 0) (y := 0) sg (by unfold NumOk; omega) (by unfold NumOk; omega) (by unfold NumOk; omega) (by omega)) ?_
        rintro _ G3 ⟨rfl, a2, c2, sg3⟩
        (conv => whnf)
        exact (grp_eps sg3).drop
      · have d1 : (n == 0) = false := beq_eq_false_iff_ne.2 h0
        rw [d1]
        have hn0 : n ≠ 0 := h0
        have sg3 := sg
        clear sg
        obtain ⟨K, hK⟩ : ∃ K : Nat, K = if n < 0 then lowM m else n.toNat := ⟨_, rfl⟩
        have hK1 : 1 ≤ K := by rw [hK]; split <;> omega
        have hKb : K ≤ 255 := by rw [hK]; split <;> omega
        have hKO : (rO w.den (lowM m) K).nodes ≤ (repR w.den (lowM m) n).nodes := by
          unfold repR
          by_cases h1 : n < 0
          · rw [if_pos h1, if_neg (by omega), hK, if_pos h1]
            show _ ≤ 1 + ((repO w.den (lowM m) (lowM m)).getD .eps).nodes + _
            unfold rO; omega
          · rw [if_neg h1, if_neg hn0, hK, if_neg h1]; exact Nat.le_refl _
        (conv => whnf); refine VC.fa fl94_5 ?_
        (conv => whnf); refine ld1 (v := .int .i64 n) ct3 (by rw [(sg3.blk _ (lgR (_ :: _ :: rest) _ 0)).cell, Nat.zero_add]; exact rn_n _) trivial ?_
        (conv => whnf)
        refine VSeq.cut [8] (fun _ : Unit => [.int .i64 (K : Int)]) (fun _ G => StB B H0 G (reP bb a c ns root (rest ++ [pB 94 x (rnL (repN (i : Int) m n))]))) ?_ ?_
        · (conv => whnf)
          by_cases h1 : n < 0
          · have d1 : decide (n < 0) = true := decide_eq_true h1
            rw [d1]
            (conv => whnf)
            exact ⟨rfl, (), by rw [hK, if_pos h1], sg3⟩
          · have d1 : decide (n < 0) = false := decide_eq_false h1
            rw [d1]
            (conv => whnf)
            exact ⟨rfl, (), by rw [hK, if_neg h1, Int.toNat_of_nonneg (by omega)], sg3⟩
        rintro ⟨⟩ G4 junk4 sg4
        clear sg3
        (conv => whnf)
        refine VLoop.mk [9, 10] (fun y : Nat × Int => match y with | (k, out) => [.int .i64 out, .int .i64 (k : Int)]) (fun y G => match y with | (k, out) => k ≤ K ∧ UnI B H0 bb root (rest ++ [pB 94 x (rnL (repN (i : Int) m n))]) ns w.den (lowM m) k out G) (fun y _ => match y with | (k, _) => K - k) ?_ ?_
        · (conv => whnf)
          exact ⟨(0, -1), rfl, Nat.zero_le _, ⟨[], _, _, fun _ => ⟨rfl, rfl⟩, fun h => absurd h (by decide), by simpa using sg4⟩⟩
        · rintro ⟨k, out⟩ G junk5 ⟨hk, ⟨ms, a1, c1, hz0, hz1, sg⟩⟩
          clear sg4
          have hnext : k < K → (rO w.den (lowM m) (k + 1)).nodes ≤ (repR w.den (lowM m) n).nodes := fun h => by
            have := rO_mono w.den (lowM m) (k := k + 1) (by omega) (K - (k + 1))
            rw [show k + 1 + (K - (k + 1)) = K by omega] at this
            omega
          have hpart : k < K → (ns ++ ms).length + (if k < lowM m then w.den else maybeR w.den).nodes ≤ 4194304 := fun h => by
            have h1 := hnext h
            by_cases hk0 : k = 0
            · obtain ⟨rfl, -⟩ := hz0 hk0
              subst hk0
              rw [rO_one] at h1
              simp only [List.append_nil]; omega
            · obtain ⟨hm1, -, -⟩ := hz1 (by omega)
              rw [rO_next _ _ _ (by omega)] at h1
              simp only [ReM.nodes] at h1
              simp only [List.length_append]; omega
          (conv => whnf); refine VIte.mk (fun hz => ?_) (fun hz => ?_) <;> simp only [decide_eq_true_eq, decide_eq_false_iff_not] at hz
          · have hkK : k < K := by omega
            replace hnext := hnext hkK
            replace hpart := hpart hkK
            (conv => whnf); try (refine VSeq.run ?_)
            (conv => whnf); try (refine VSeq.run ?_)
            (conv => whnf)
            by_cases hkm : k < lowM m
            · have d1 : decide ((k : Int) < ((lowM m : Nat) : Int)) = true := decide_eq_true (by omega)
              rw [if_pos hkm] at hpart
              rw [d1]
              (conv => whnf); refine VC.fa fl94_2 ?_
              (conv => whnf); refine ld1 (v := .int .i64 (i : Int)) ct3 (by rw [(sg.blk _ (lgR (_ :: _ :: rest) _ 0)).cell, Nat.zero_add]; exact rn_l _) trivial ?_
              (conv => whnf); refine VCall.mk (IH B H0 _ bb _ _ (ns ++ ms) root (rest ++ [pB 94 x (rnL (repN (i : Int) m n))]) na nc i ds ws hR hd hB hw (by omega) sg) ?_
              rintro _ G1 ⟨ms2, a2, c2, hm2, rfl, ht2, st2⟩
              have p2 := nodes_pos (w.den)
              (conv => whnf); try (refine VSeq.run ?_)
              (conv => whnf)
              by_cases hk0 : k = 0
              · obtain ⟨rfl, rfl⟩ := hz0 hk0
                subst hk0
                (conv => whnf); rw [w64 (x := ((0 : Nat) : Int) + 1) (by omega) (by omega)]
                have e1 : rO w.den (lowM m) 1 = w.den := by rw [rO_one]; exact if_pos hkm
                refine ⟨rfl, (1, _), rfl, ⟨by omega, ⟨ms2, a2, c2, fun h => absurd h (by decide), fun _ => ?_, by simpa using st2⟩⟩, by show K - 1 < K - 0; omega⟩
                rw [e1]
                simp only [List.append_nil] at ht2
                exact ⟨hm2, by simp, ht2⟩
              · obtain ⟨hm1, rfl, ht1⟩ := hz1 (by omega)
                have hnx : rO w.den (lowM m) (k + 1) = .cat (rO w.den (lowM m) k) (w.den) := by rw [rO_next _ _ _ (by omega)]; rw [if_pos hkm]
                have hnn : (rO w.den (lowM m) (k + 1)).nodes = 1 + (rO w.den (lowM m) k).nodes + (w.den).nodes := by rw [hnx]; rfl
                have p1 := nodes_pos (rO w.den (lowM m) k)
                have hout : decide (((ns.length + ms.length - 1 : Nat) : Int) < 0) = false := decide_eq_false (by omega)
                try rw [hout]
                (conv => whnf); refine VCall.mk (put_g (op := 2) (x := ((ns.length + ms.length - 1 : Nat) : Int)) (y := (((ns ++ ms).length + ms2.length - 1 : Nat) : Int)) st2 (by unfold NumOk; omega) (num_nat (by omega)) (num_nat (by simp; omega)) (by simp; omega)) ?_
                rintro _ G2 ⟨rfl, a3, c3, st3⟩
                (conv => whnf); rw [w64 (x := (k : Int) + 1) (by omega) (by omega)]
                obtain ⟨ms3, a4, c4, g1, g2, g3, g4⟩ := grp_bin (R := rO w.den (lowM m) (k + 1)) hm1 hm2 hnn (fun ns' d j k' h1 h2 h3 h4 => by rw [hnx]; exact ⟨d, j, k', h1, by rw [h2]; rfl, by rw [h2]; rfl, by rw [h2]; rfl, h3, h4⟩) ht1 ht2 st3
                have g2' : ((ns ++ ms ++ ms2).length : Int) = ((ns.length + ms3.length - 1 : Nat) : Int) := by injection g2
                refine ⟨rfl, (k + 1, ((ns ++ ms ++ ms2).length : Int)), rfl, ⟨by omega, ⟨ms3, a4, c4, fun h => absurd h (by omega), fun _ => ⟨g1, g2', g3⟩, g4⟩⟩, by show K - (k + 1) < K - k; omega⟩
            · have d1 : decide ((k : Int) < ((lowM m : Nat) : Int)) = false := decide_eq_false (by omega)
              rw [if_neg hkm] at hpart
              rw [d1]
              (conv => whnf); refine VC.fa fl94_2 ?_
              (conv => whnf); refine ld1 (v := .int .i64 (i : Int)) ct3 (by rw [(sg.blk _ (lgR (_ :: _ :: rest) _ 0)).cell, Nat.zero_add]; exact rn_l _) trivial ?_
              (conv => whnf); refine VCall.mk (optional_c IH hR hd hB hw (by simp only [maybeR, ReM.nodes] at hpart; omega) sg) ?_
              rintro _ G1 ⟨ms2, a2, c2, hm2, rfl, ht2, st2⟩
              have p2 := nodes_pos (maybeR w.den)
              (conv => whnf); try (refine VSeq.run ?_)
              (conv => whnf)
              by_cases hk0 : k = 0
              · obtain ⟨rfl, rfl⟩ := hz0 hk0
                subst hk0
                (conv => whnf); rw [w64 (x := ((0 : Nat) : Int) + 1) (by omega) (by omega)]
                have e1 : rO w.den (lowM m) 1 = maybeR w.den := by rw [rO_one]; exact if_neg hkm
                refine ⟨rfl, (1, _), rfl, ⟨by omega, ⟨ms2, a2, c2, fun h => absurd h (by decide), fun _ => ?_, by simpa using st2⟩⟩, by show K - 1 < K - 0; omega⟩
                rw [e1]
                simp only [List.append_nil] at ht2
                exact ⟨hm2, by simp, ht2⟩
              · obtain ⟨hm1, rfl, ht1⟩ := hz1 (by omega)
                have hnx : rO w.den (lowM m) (k + 1) = .cat (rO w.den (lowM m) k) (maybeR w.den) := by rw [rO_next _ _ _ (by omega)]; rw [if_neg hkm]
                have hnn : (rO w.den (lowM m) (k + 1)).nodes = 1 + (rO w.den (lowM m) k).nodes + (maybeR w.den).nodes := by rw [hnx]; rfl
                have p1 := nodes_pos (rO w.den (lowM m) k)
                have hout : decide (((ns.length + ms.length - 1 : Nat) : Int) < 0) = false := decide_eq_false (by omega)
                try rw [hout]
                (conv => whnf); refine VCall.mk (put_g (op := 2) (x := ((ns.length + ms.length - 1 : Nat) : Int)) (y := (((ns ++ ms).length + ms2.length - 1 : Nat) : Int)) st2 (by unfold NumOk; omega) (num_nat (by omega)) (num_nat (by simp; omega)) (by simp; omega)) ?_
                rintro _ G2 ⟨rfl, a3, c3, st3⟩
                (conv => whnf); rw [w64 (x := (k : Int) + 1) (by omega) (by omega)]
                obtain ⟨ms3, a4, c4, g1, g2, g3, g4⟩ := grp_bin (R := rO w.den (lowM m) (k + 1)) hm1 hm2 hnn (fun ns' d j k' h1 h2 h3 h4 => by rw [hnx]; exact ⟨d, j, k', h1, by rw [h2]; rfl, by rw [h2]; rfl, by rw [h2]; rfl, h3, h4⟩) ht1 ht2 st3
                have g2' : ((ns ++ ms ++ ms2).length : Int) = ((ns.length + ms3.length - 1 : Nat) : Int) := by injection g2
                refine ⟨rfl, (k + 1, ((ns ++ ms ++ ms2).length : Int)), rfl, ⟨by omega, ⟨ms3, a4, c4, fun h => absurd h (by omega), fun _ => ⟨g1, g2', g3⟩, g4⟩⟩, by show K - (k + 1) < K - k; omega⟩
          · obtain rfl : k = K := by omega
            obtain ⟨hm1, rfl, ht1⟩ := hz1 (by omega)
            have p1 := nodes_pos (rO w.den (lowM m) k)
            (conv => whnf); try (refine VSeq.run ?_)
            (conv => whnf); refine VC.fa fl94_5 ?_
            (conv => whnf); refine ld1 (v := .int .i64 n) ct3 (by rw [(sg.blk _ (lgR (_ :: _ :: rest) _ 0)).cell, Nat.zero_add]; exact rn_n _) trivial ?_
            (conv => whnf)
            by_cases h1 : n < 0
            · have d1 : decide (n < 0) = true := decide_eq_true h1
              rw [if_pos h1] at hK
              have hrep : repR w.den (lowM m) n = .cat (rO w.den (lowM m) k) (.star w.den) := by unfold repR; rw [if_pos h1, if_neg (by omega), hK]; rfl
              rw [hrep] at hl ⊢
              simp only [ReM.nodes] at hl
              rw [d1]
              (conv => whnf); refine VC.fa fl94_2 ?_
              (conv => whnf); refine ld1 (v := .int .i64 (i : Int)) ct3 (by rw [(sg.blk _ (lgR (_ :: _ :: rest) _ 0)).cell, Nat.zero_add]; exact rn_l _) trivial ?_
              (conv => whnf); refine VCall.mk (IH B H0 _ bb _ _ (ns ++ ms) root (rest ++ [pB 94 x (rnL (repN (i : Int) m n))]) na nc i ds ws hR hd hB hw (by simp only [List.length_append]; omega) sg) ?_
              rintro _ G6 ⟨ms1, a6, c6, hm6, rfl, ht6, sg6⟩
              (conv => whnf); refine VCall.mk (put_g (op := 4) (x := (((ns ++ ms).length + ms1.length - 1 : Nat) : Int)) (y := 0) sg6 (by unfold NumOk; omega) (num_nat (by simp only [List.length_append]; omega)) (by unfold NumOk; omega) (by simp only [List.length_append]; omega)) ?_
              rintro _ G7 ⟨rfl, a7, c7, sg7⟩
              obtain ⟨ms2, a8, c8, g1, g2, g3, g4⟩ := grp_star hm6 ht6 sg7
              have g2' : ((ns ++ ms ++ ms1).length : Int) = (((ns ++ ms).length + ms2.length - 1 : Nat) : Int) := by injection g2
              rw [g2']
              simp only [ReM.nodes] at g1
              (conv => whnf); refine VCall.mk (put_g (op := 2) (x := ((ns.length + ms.length - 1 : Nat) : Int)) (y := (((ns ++ ms).length + ms2.length - 1 : Nat) : Int)) g4 (by unfold NumOk; omega) (num_nat (by omega)) (num_nat (by simp only [List.length_append]; omega)) (by simp only [List.length_append]; omega)) ?_
              rintro _ G8 ⟨rfl, a9, c9, sg9⟩
              (conv => whnf)
              exact (grp_bin (R := .cat (rO w.den (lowM m) k) (.star w.den)) hm1 (r2 := .star w.den) (by simp only [ReM.nodes]; exact g1) rfl (fun ns' d j k' h1 h2 h3 h4 => ⟨d, j, k', h1, by rw [h2]; rfl, by rw [h2]; rfl, by rw [h2]; rfl, h3, h4⟩) ht1 g3 sg9).drop
            · have d1 : decide (n < 0) = false := decide_eq_false h1
              rw [if_neg h1] at hK
              have hrep : repR w.den (lowM m) n = rO w.den (lowM m) k := by unfold repR; rw [if_neg h1, if_neg hn0, hK]; rfl
              rw [hrep]
              rw [d1]
              (conv => whnf)
              exact GrP.drop ⟨ms, a1, c1, hm1, rfl, ht1, sg⟩
  · have d1 : decide (n < 0) = false := decide_eq_false h1
    rw [d1]
    have hns : ¬ (n < 0 ∧ lowM m = 0) := fun h => h1 h.1
    clear d1
    (conv => whnf); refine VC.fa fl94_5 ?_
    (conv => whnf); refine ld1 (v := .int .i64 n) ct3 (by rw [(sg.blk _ (lgR (_ :: _ :: rest) _ 0)).cell, Nat.zero_add]; exact rn_n _) trivial ?_
    (conv => whnf)
    by_cases h0 : n = 0
    · have d1 : (n == 0) = true := by rw [h0]; rfl
      have hrep : repR w.den (lowM m) n = .eps := by unfold repR; rw [if_neg (by omega), if_pos h0]
      rw [hrep] at hl ⊢
      simp only [ReM.nodes] at hl
      rw [d1]
      (conv => whnf); refine VCall.mk (put_g (op := 0) (x := 0) (y := 0) sg (by unfold NumOk; omega) (by unfold NumOk; omega) (by unfold NumOk; omega) (by omega)) ?_
      rintro _ G3 ⟨rfl, a2, c2, sg3⟩
      (conv => whnf)
      exact (grp_eps sg3).drop
    · have d1 : (n == 0) = false := beq_eq_false_iff_ne.2 h0
      rw [d1]
      have hn0 : n ≠ 0 := h0
      have sg3 := sg
      clear sg
      obtain ⟨K, hK⟩ : ∃ K : Nat, K = if n < 0 then lowM m else n.toNat := ⟨_, rfl⟩
      have hK1 : 1 ≤ K := by rw [hK]; split <;> omega
      have hKb : K ≤ 255 := by rw [hK]; split <;> omega
      have hKO : (rO w.den (lowM m) K).nodes ≤ (repR w.den (lowM m) n).nodes := by
        unfold repR
        by_cases h1 : n < 0
        · rw [if_pos h1, if_neg (by omega), hK, if_pos h1]
          show _ ≤ 1 + ((repO w.den (lowM m) (lowM m)).getD .eps).nodes + _
          unfold rO; omega
        · rw [if_neg h1, if_neg hn0, hK, if_neg h1]; exact Nat.le_refl _
      (conv => whnf); refine VC.fa fl94_5 ?_
      (conv => whnf); refine ld1 (v := .int .i64 n) ct3 (by rw [(sg3.blk _ (lgR (_ :: _ :: rest) _ 0)).cell, Nat.zero_add]; exact rn_n _) trivial ?_
      (conv => whnf)
      refine VSeq.cut [8] (fun _ : Unit => [.int .i64 (K : Int)]) (fun _ G => StB B H0 G (reP bb a c ns root (rest ++ [pB 94 x (rnL (repN (i : Int) m n))]))) ?_ ?_
      · (conv => whnf)
        by_cases h1 : n < 0
        · have d1 : decide (n < 0) = true := decide_eq_true h1
          rw [d1]
          (conv => whnf)
          exact ⟨rfl, (), by rw [hK, if_pos h1], sg3⟩
        · have d1 : decide (n < 0) = false := decide_eq_false h1
          rw [d1]
          (conv => whnf)
          exact ⟨rfl, (), by rw [hK, if_neg h1, Int.toNat_of_nonneg (by omega)], sg3⟩
      rintro ⟨⟩ G4 junk4 sg4
      clear sg3
      (conv => whnf)
      refine VLoop.mk [9, 10] (fun y : Nat × Int => match y with | (k, out) => [.int .i64 out, .int .i64 (k : Int)]) (fun y G => match y with | (k, out) => k ≤ K ∧ UnI B H0 bb root (rest ++ [pB 94 x (rnL (repN (i : Int) m n))]) ns w.den (lowM m) k out G) (fun y _ => match y with | (k, _) => K - k) ?_ ?_
      · (conv => whnf)
        exact ⟨(0, -1), rfl, Nat.zero_le _, ⟨[], _, _, fun _ => ⟨rfl, rfl⟩, fun h => absurd h (by decide), by simpa using sg4⟩⟩
      · rintro ⟨k, out⟩ G junk5 ⟨hk, ⟨ms, a1, c1, hz0, hz1, sg⟩⟩
        clear sg4
        have hnext : k < K → (rO w.den (lowM m) (k + 1)).nodes ≤ (repR w.den (lowM m) n).nodes := fun h => by
          have := rO_mono w.den (lowM m) (k := k + 1) (by omega) (K - (k + 1))
          rw [show k + 1 + (K - (k + 1)) = K by omega] at this
          omega
        have hpart : k < K → (ns ++ ms).length + (if k < lowM m then w.den else maybeR w.den).nodes ≤ 4194304 := fun h => by
          have h1 := hnext h
          by_cases hk0 : k = 0
          · obtain ⟨rfl, -⟩ := hz0 hk0
            subst hk0
            rw [rO_one] at h1
            simp only [List.append_nil]; omega
          · obtain ⟨hm1, -, -⟩ := hz1 (by omega)
            rw [rO_next _ _ _ (by omega)] at h1
            simp only [ReM.nodes] at h1
            simp only [List.length_append]; omega
        (conv => whnf); refine VIte.mk (fun hz => ?_) (fun hz => ?_) <;> simp only [decide_eq_true_eq, decide_eq_false_iff_not] at hz
        · have hkK : k < K := by omega
          replace hnext := hnext hkK
          replace hpart := hpart hkK
          (conv => whnf); try (refine VSeq.run ?_)
          (conv => whnf); try (refine VSeq.run ?_)
          (conv => whnf)
          by_cases hkm : k < lowM m
          · have d1 : decide ((k : Int) < ((lowM m : Nat) : Int)) = true := decide_eq_true (by omega)
            rw [if_pos hkm] at hpart
            rw [d1]
            (conv => whnf); refine VC.fa fl94_2 ?_
            (conv => whnf); refine ld1 (v := .int .i64 (i : Int)) ct3 (by rw [(sg.blk _ (lgR (_ :: _ :: rest) _ 0)).cell, Nat.zero_add]; exact rn_l _) trivial ?_
            (conv => whnf); refine VCall.mk (IH B H0 _ bb _ _ (ns ++ ms) root (rest ++ [pB 94 x (rnL (repN (i : Int) m n))]) na nc i ds ws hR hd hB hw (by omega) sg) ?_
            rintro _ G1 ⟨ms2, a2, c2, hm2, rfl, ht2, st2⟩
            have p2 := nodes_pos (w.den)
            (conv => whnf); try (refine VSeq.run ?_)
            (conv => whnf)
            by_cases hk0 : k = 0
            · obtain ⟨rfl, rfl⟩ := hz0 hk0
              subst hk0
              (conv => whnf); rw [w64 (x := ((0 : Nat) : Int) + 1) (by omega) (by omega)]
              have e1 : rO w.den (lowM m) 1 = w.den := by rw [rO_one]; exact if_pos hkm
              refine ⟨rfl, (1, _), rfl, ⟨by omega, ⟨ms2, a2, c2, fun h => absurd h (by decide), fun _ => ?_, by simpa using st2⟩⟩, by show K - 1 < K - 0; omega⟩
              rw [e1]
              simp only [List.append_nil] at ht2
              exact ⟨hm2, by simp, ht2⟩
            · obtain ⟨hm1, rfl, ht1⟩ := hz1 (by omega)
              have hnx : rO w.den (lowM m) (k + 1) = .cat (rO w.den (lowM m) k) (w.den) := by rw [rO_next _ _ _ (by omega)]; rw [if_pos hkm]
              have hnn : (rO w.den (lowM m) (k + 1)).nodes = 1 + (rO w.den (lowM m) k).nodes + (w.den).nodes := by rw [hnx]; rfl
              have p1 := nodes_pos (rO w.den (lowM m) k)
              have hout : decide (((ns.length + ms.length - 1 : Nat) : Int) < 0) = false := decide_eq_false (by omega)
              try rw [hout]
              (conv => whnf); refine VCall.mk (put_g (op := 2) (x := ((ns.length + ms.length - 1 : Nat) : Int)) (y := (((ns ++ ms).length + ms2.length - 1 : Nat) : Int)) st2 (by unfold NumOk; omega) (num_nat (by omega)) (num_nat (by simp; omega)) (by simp; omega)) ?_
              rintro _ G2 ⟨rfl, a3, c3, st3⟩
              (conv => whnf); rw [w64 (x := (k : Int) + 1) (by omega) (by omega)]
              obtain ⟨ms3, a4, c4, g1, g2, g3, g4⟩ := grp_bin (R := rO w.den (lowM m) (k + 1)) hm1 hm2 hnn (fun ns' d j k' h1 h2 h3 h4 => by rw [hnx]; exact ⟨d, j, k', h1, by rw [h2]; rfl, by rw [h2]; rfl, by rw [h2]; rfl, h3, h4⟩) ht1 ht2 st3
              have g2' : ((ns ++ ms ++ ms2).length : Int) = ((ns.length + ms3.length - 1 : Nat) : Int) := by injection g2
              refine ⟨rfl, (k + 1, ((ns ++ ms ++ ms2).length : Int)), rfl, ⟨by omega, ⟨ms3, a4, c4, fun h => absurd h (by omega), fun _ => ⟨g1, g2', g3⟩, g4⟩⟩, by show K - (k + 1) < K - k; omega⟩
          · have d1 : decide ((k : Int) < ((lowM m : Nat) : Int)) = false := decide_eq_false (by omega)
            rw [if_neg hkm] at hpart
            rw [d1]
            (conv => whnf); refine VC.fa fl94_2 ?_
            (conv => whnf); refine ld1 (v := .int .i64 (i : Int)) ct3 (by rw [(sg.blk _ (lgR (_ :: _ :: rest) _ 0)).cell, Nat.zero_add]; exact rn_l _) trivial ?_
            (conv => whnf); refine VCall.mk (optional_c IH hR hd hB hw (by simp only [maybeR, ReM.nodes] at hpart; omega) sg) ?_
            rintro _ G1 ⟨ms2, a2, c2, hm2, rfl, ht2, st2⟩
            have p2 := nodes_pos (maybeR w.den)
            (conv => whnf); try (refine VSeq.run ?_)
            (conv => whnf)
            by_cases hk0 : k = 0
            · obtain ⟨rfl, rfl⟩ := hz0 hk0
              subst hk0
              (conv => whnf); rw [w64 (x := ((0 : Nat) : Int) + 1) (by omega) (by omega)]
              have e1 : rO w.den (lowM m) 1 = maybeR w.den := by rw [rO_one]; exact if_neg hkm
              refine ⟨rfl, (1, _), rfl, ⟨by omega, ⟨ms2, a2, c2, fun h => absurd h (by decide), fun _ => ?_, by simpa using st2⟩⟩, by show K - 1 < K - 0; omega⟩
              rw [e1]
              simp only [List.append_nil] at ht2
              exact ⟨hm2, by simp, ht2⟩
            · obtain ⟨hm1, rfl, ht1⟩ := hz1 (by omega)
              have hnx : rO w.den (lowM m) (k + 1) = .cat (rO w.den (lowM m) k) (maybeR w.den) := by rw [rO_next _ _ _ (by omega)]; rw [if_neg hkm]
              have hnn : (rO w.den (lowM m) (k + 1)).nodes = 1 + (rO w.den (lowM m) k).nodes + (maybeR w.den).nodes := by rw [hnx]; rfl
              have p1 := nodes_pos (rO w.den (lowM m) k)
              have hout : decide (((ns.length + ms.length - 1 : Nat) : Int) < 0) = false := decide_eq_false (by omega)
              try rw [hout]
              (conv => whnf); refine VCall.mk (put_g (op := 2) (x := ((ns.length + ms.length - 1 : Nat) : Int)) (y := (((ns ++ ms).length + ms2.length - 1 : Nat) : Int)) st2 (by unfold NumOk; omega) (num_nat (by omega)) (num_nat (by simp; omega)) (by simp; omega)) ?_
              rintro _ G2 ⟨rfl, a3, c3, st3⟩
              (conv => whnf); rw [w64 (x := (k : Int) + 1) (by omega) (by omega)]
              obtain ⟨ms3, a4, c4, g1, g2, g3, g4⟩ := grp_bin (R := rO w.den (lowM m) (k + 1)) hm1 hm2 hnn (fun ns' d j k' h1 h2 h3 h4 => by rw [hnx]; exact ⟨d, j, k', h1, by rw [h2]; rfl, by rw [h2]; rfl, by rw [h2]; rfl, h3, h4⟩) ht1 ht2 st3
              have g2' : ((ns ++ ms ++ ms2).length : Int) = ((ns.length + ms3.length - 1 : Nat) : Int) := by injection g2
              refine ⟨rfl, (k + 1, ((ns ++ ms ++ ms2).length : Int)), rfl, ⟨by omega, ⟨ms3, a4, c4, fun h => absurd h (by omega), fun _ => ⟨g1, g2', g3⟩, g4⟩⟩, by show K - (k + 1) < K - k; omega⟩
        · obtain rfl : k = K := by omega
          obtain ⟨hm1, rfl, ht1⟩ := hz1 (by omega)
          have p1 := nodes_pos (rO w.den (lowM m) k)
          (conv => whnf); try (refine VSeq.run ?_)
          (conv => whnf); refine VC.fa fl94_5 ?_
          (conv => whnf); refine ld1 (v := .int .i64 n) ct3 (by rw [(sg.blk _ (lgR (_ :: _ :: rest) _ 0)).cell, Nat.zero_add]; exact rn_n _) trivial ?_
          (conv => whnf)
          by_cases h1 : n < 0
          · have d1 : decide (n < 0) = true := decide_eq_true h1
            rw [if_pos h1] at hK
            have hrep : repR w.den (lowM m) n = .cat (rO w.den (lowM m) k) (.star w.den) := by unfold repR; rw [if_pos h1, if_neg (by omega), hK]; rfl
            rw [hrep] at hl ⊢
            simp only [ReM.nodes] at hl
            rw [d1]
            (conv => whnf); refine VC.fa fl94_2 ?_
            (conv => whnf); refine ld1 (v := .int .i64 (i : Int)) ct3 (by rw [(sg.blk _ (lgR (_ :: _ :: rest) _ 0)).cell, Nat.zero_add]; exact rn_l _) trivial ?_
            (conv => whnf); refine VCall.mk (IH B H0 _ bb _ _ (ns ++ ms) root (rest ++ [pB 94 x (rnL (repN (i : Int) m n))]) na nc i ds ws hR hd hB hw (by simp only [List.length_append]; omega) sg) ?_
            rintro _ G6 ⟨ms1, a6, c6, hm6, rfl, ht6, sg6⟩
            (conv => whnf); refine VCall.mk (put_g (op := 4) (x := (((ns ++ ms).length + ms1.length - 1 : Nat) : Int)) (y := 0) sg6 (by unfold NumOk; omega) (num_nat (by simp only [List.length_append]; omega)) (by unfold NumOk; omega) (by simp only [List.length_append]; omega)) ?_
            rintro _ G7 ⟨rfl, a7, c7, sg7⟩
            obtain ⟨ms2, a8, c8, g1, g2, g3, g4⟩ := grp_star hm6 ht6 sg7
            have g2' : ((ns ++ ms ++ ms1).length : Int) = (((ns ++ ms).length + ms2.length - 1 : Nat) : Int) := by injection g2
            rw [g2']
            simp only [ReM.nodes] at g1
            (conv => whnf); refine VCall.mk (put_g (op := 2) (x := ((ns.length + ms.length - 1 : Nat) : Int)) (y := (((ns ++ ms).length + ms2.length - 1 : Nat) : Int)) g4 (by unfold NumOk; omega) (num_nat (by omega)) (num_nat (by simp only [List.length_append]; omega)) (by simp only [List.length_append]; omega)) ?_
            rintro _ G8 ⟨rfl, a9, c9, sg9⟩
            (conv => whnf)
            exact (grp_bin (R := .cat (rO w.den (lowM m) k) (.star w.den)) hm1 (r2 := .star w.den) (by simp only [ReM.nodes]; exact g1) rfl (fun ns' d j k' h1 h2 h3 h4 => ⟨d, j, k', h1, by rw [h2]; rfl, by rw [h2]; rfl, by rw [h2]; rfl, h3, h4⟩) ht1 g3 sg9).drop
          · have d1 : decide (n < 0) = false := decide_eq_false h1
            rw [if_neg h1] at hK
            have hrep : repR w.den (lowM m) n = rO w.den (lowM m) k := by unfold repR; rw [if_neg h1, if_neg hn0, hK]; rfl
            rw [hrep]
            rw [d1]
            (conv => whnf)
            exact GrP.drop ⟨ms, a1, c1, hm1, rfl, ht1, sg⟩
end
end Go.Proofs.YtlnmhfhdjnenoaaGreatDoor
/- The document's parser: grow: the walk. -/
set_option linter.unusedVariables false
set_option linter.unusedSimpArgs false
set_option maxRecDepth 100000
namespace Go.Proofs.YtlnmhfhdjnenoaaGreatDoor
open Go.VC Go.Lib
theorem grp_leaf {B : Nat → Prop} {H0 G : Heap} {bb : Nat} {root : Int} {rest : List Pc} {ns : List RnM} {d : RnM} {r : ReM} {a' : Option Addr} {c' : Nat} (h1 : r.nodes = 1) (hT : ∀ ns' k, ns'[k]? = some d → TreeAt ns' r k) (st : StB B H0 G (reP bb a' c' (ns ++ [d]) root rest)) :
    GrP B H0 bb root rest ns r (.int .i64 (ns.length : Int)) G :=
  ⟨[d], a', c', h1.symm, by simp, hT _ _ (by simp), st⟩
set_option maxHeartbeats 32000000 in
theorem grow_c : ∀ w : RwM, GrSpec w := fun w => by
  induction w with
  | eps =>
    intro B H0 H bb c a ns root rest na nc i ds ws hR hd hB hw hl st
    obtain ⟨d, hdd, hnr⟩ := hR.at2 hw
    refine FnOk.of_vc Tryz.func36 rfl (Tryz.call36 _) ?_
    obtain rfl : d = binN 0 0 0 := hnr
    (conv => whnf); refine ixr (i := i) sl30 (hd.frame (st.old.mono fun k hk => hk)) hdd rfl ?_
    rintro b2 o2 c2 hS2 hc2 ⟨rfl, hok⟩
    (conv => whnf); refine ldN (cs := rnL (binN 0 0 0)) (by rw [rnL_len]; exact ag94) hc2 trivial ?_
    (conv => whnf); refine valloc _ rnZ rn_z rfl ?_
    intro x H3 hx hs3 hb3 ha3
    have st3 := st.box hx hs3 hb3 ha3
    (conv => whnf); refine stNB (cs := rnL (binN 0 0 0)) st3 _ (by rw [rnL_len]; rfl) (lgR (_ :: _ :: rest) _ 0) (by rw [rnL_len, rnZ_len]; decide) (rn_ones _) fun H4 st4 => ?_
    rw [splice_all (show (rnL (binN 0 0 0)).length = rnZ.length by rw [rnL_len, rnZ_len])] at st4
    replace st4 : StB B H0 H4 (reP bb a c ns root (rest ++ [pB 94 x (rnL (binN 0 0 0))])) := by
      have e := lsR (pB tRe bb (reL (.slice a ns.length c) root) :: pS tRn 94 a ns.length c ns :: rest) [pB 94 x rnZ] 0 (pB 94 x (rnL (binN 0 0 0)))
      rw [e] at st4
      exact st4
    have hx4 : Blk H4 x 94 (rnL (binN 0 0 0)) := st4.blk _ (lgR (_ :: _ :: rest) _ 0)
    (conv => whnf); refine VC.fa fl94_0 ?_
    (conv => whnf); refine ld1 (v := .int .i64 (binN 0 0 0).op) ct3 (by rw [hx4.cell]; exact rn_op _) trivial ?_
    (conv => whnf); try (refine VSeq.run ?_)
    (conv => whnf); try (refine VSeq.run ?_)
    have bl := (st4.blk 0 rfl).lt
    have f1 : bb ≠ x := fun e => st4.apart2 (i := 0) (j := (pB tRe bb (reL (.slice a ns.length c) root) :: pS tRn 94 a ns.length c ns :: rest).length + 0) rfl (lgR (_ :: _ :: rest) _ 0) (by simp) bb rfl e
    (conv => whnf); refine VDraw.heldZ (fun k => k = bb ∨ k = x) [14] (sq [0,1,2,3,4,5,6,7,8,9] (.f 10 (.f 11 (sq [12,13] (.f 14 .e))))) rfl (by kernel_rfl) ?_
    (conv => whnf); refine VC.fa fl32_0 ?_
    (conv => whnf); refine ld1 (v := .slice a ns.length c) ct30 (by rw [(st4.blk 0 rfl).cell]; rfl) (.inl rfl) ?_
    (conv => whnf); refine VC.fa fl94_0 ?_
    (conv => whnf); refine ld1 (v := .int .i64 (binN 0 0 0).op) ct3 (by rw [hx4.cell]; exact rn_op _) (.inr rfl) ?_
    (conv => whnf); refine VC.fa fl94_1 ?_
    (conv => whnf); refine ldN (cs := bitsL (0#256)) (by rw [bitsL_len]; exact ag92) (hx4.cells (o := 0 + 1) fun j v hv => rn_set (binN 0 0 0) j v hv) (.inr rfl) ?_
    (conv => whnf); refine rn_build1 0 (0#256) ?_
    (conv => whnf); refine vbuild1 sl30 (rnL (binN 0 0 0)) rfl (rnL_len _) (by decide) (by decide) ?_
    intro z H5 hz hs5 hb5 ha5
    have st5 := st4.skip hz ha5
    have hx5 : Blk H5 x 94 (rnL (binN 0 0 0)) := st5.blk _ (lgR (_ :: _ :: rest) _ 0)
    refine ⟨fun k hk => by
      rcases hk with hk | hk
      · rw [show k = bb from hk]; exact (st5.blk 0 rfl).trans (st4.blk 0 rfl).symm
      · rw [show k = x from hk]; exact hx5.trans hx4.symm, ?_⟩
    (conv => whnf); refine appO (ys := [binN 0 0 0]) st5 1 sl30 rfl (hb5.cells (o := 0) (cs := rnL (binN 0 0 0)) fun j v hv => by rw [Nat.zero_add]; exact hv) (Ty.reps_one ⟨rfl, hok⟩) rfl (fun u hu => List.all_eq_true.1 (rn_ones _) u hu) (by simp [RwM.den, ReM.nodes] at hl ⊢; omega) (by decide) fun a9 c9 H9 st9 ha9 => ?_
    have el : ns.length + [binN 0 0 0].length = (ns ++ [binN 0 0 0]).length := by simp
    rw [el] at st9 ⊢
    have hx9 : Blk H9 x 94 (rnL (binN 0 0 0)) := st9.blk _ (lgR (_ :: _ :: rest) _ 0)
    refine ⟨fun k hk => by
      rcases hk with hk | hk
      · rw [show k = bb from hk]; exact (st9.blk 0 rfl).trans (st4.blk 0 rfl).symm
      · rw [show k = x from hk]; exact hx9.trans hx4.symm, ?_⟩
    (conv => whnf); refine VC.fa fl32_0 ?_
    (conv => whnf); refine st1B st9 0 ct30 rfl (show 0 < 2 by decide) rfl fun H10 st10 => ?_
    (conv => whnf); refine VC.fa fl32_0 ?_
    (conv => whnf); refine ld1 (v := .slice a9 (ns ++ [binN 0 0 0]).length c9) ct30 (by rw [(st10.blk 0 rfl).cell]; rfl) trivial ?_
    have w1 : IntKind.wrap .i64 (((ns ++ [binN 0 0 0]).length : Int) - 1) = (ns.length : Int) := by
      simp only [RwM.den, ReM.nodes] at hl
      rw [List.length_append, List.length_singleton, w64 (by omega) (by omega)]; omega
    (conv => whnf); rw [w1]
    (conv => whnf)
    replace st10 : StB B H0 H10 (reP bb a9 c9 (ns ++ [binN 0 0 0]) root (rest ++ [pB 94 x (rnL (binN 0 0 0))])) := st10
    exact (grp_leaf (r := .eps) rfl (fun ns' k h => ⟨_, h, rfl⟩) st10).drop
  | cls s =>
    intro B H0 H bb c a ns root rest na nc i ds ws hR hd hB hw hl st
    obtain ⟨d, hdd, hnr⟩ := hR.at2 hw
    refine FnOk.of_vc Tryz.func36 rfl (Tryz.call36 _) ?_
    obtain rfl : d = clsD s := hnr
    (conv => whnf); refine ixr (i := i) sl30 (hd.frame (st.old.mono fun k hk => hk)) hdd rfl ?_
    rintro b2 o2 c2 hS2 hc2 ⟨rfl, hok⟩
    (conv => whnf); refine ldN (cs := rnL (clsD s)) (by rw [rnL_len]; exact ag94) hc2 trivial ?_
    (conv => whnf); refine valloc _ rnZ rn_z rfl ?_
    intro x H3 hx hs3 hb3 ha3
    have st3 := st.box hx hs3 hb3 ha3
    (conv => whnf); refine stNB (cs := rnL (clsD s)) st3 _ (by rw [rnL_len]; rfl) (lgR (_ :: _ :: rest) _ 0) (by rw [rnL_len, rnZ_len]; decide) (rn_ones _) fun H4 st4 => ?_
    rw [splice_all (show (rnL (clsD s)).length = rnZ.length by rw [rnL_len, rnZ_len])] at st4
    replace st4 : StB B H0 H4 (reP bb a c ns root (rest ++ [pB 94 x (rnL (clsD s))])) := by
      have e := lsR (pB tRe bb (reL (.slice a ns.length c) root) :: pS tRn 94 a ns.length c ns :: rest) [pB 94 x rnZ] 0 (pB 94 x (rnL (clsD s)))
      rw [e] at st4
      exact st4
    have hx4 : Blk H4 x 94 (rnL (clsD s)) := st4.blk _ (lgR (_ :: _ :: rest) _ 0)
    (conv => whnf); refine VC.fa fl94_0 ?_
    (conv => whnf); refine ld1 (v := .int .i64 (clsD s).op) ct3 (by rw [hx4.cell]; exact rn_op _) trivial ?_
    (conv => whnf); try (refine VSeq.run ?_)
    (conv => whnf); try (refine VSeq.run ?_)
    have bl := (st4.blk 0 rfl).lt
    have f1 : bb ≠ x := fun e => st4.apart2 (i := 0) (j := (pB tRe bb (reL (.slice a ns.length c) root) :: pS tRn 94 a ns.length c ns :: rest).length + 0) rfl (lgR (_ :: _ :: rest) _ 0) (by simp) bb rfl e
    (conv => whnf); refine VDraw.heldZ (fun k => k = bb ∨ k = x) [14] (sq [0,1,2,3,4,5,6,7,8,9] (.f 10 (.f 11 (sq [12,13] (.f 14 .e))))) rfl (by kernel_rfl) ?_
    (conv => whnf); refine VC.fa fl32_0 ?_
    (conv => whnf); refine ld1 (v := .slice a ns.length c) ct30 (by rw [(st4.blk 0 rfl).cell]; rfl) (.inl rfl) ?_
    (conv => whnf); refine VC.fa fl94_0 ?_
    (conv => whnf); refine ld1 (v := .int .i64 (clsD s).op) ct3 (by rw [hx4.cell]; exact rn_op _) (.inr rfl) ?_
    (conv => whnf); refine VC.fa fl94_1 ?_
    (conv => whnf); refine ldN (cs := bitsL (s)) (by rw [bitsL_len]; exact ag92) (hx4.cells (o := 0 + 1) fun j v hv => rn_set (clsD s) j v hv) (.inr rfl) ?_
    (conv => whnf); refine rn_build1 1 (s) ?_
    (conv => whnf); refine vbuild1 sl30 (rnL (clsD s)) rfl (rnL_len _) (by decide) (by decide) ?_
    intro z H5 hz hs5 hb5 ha5
    have st5 := st4.skip hz ha5
    have hx5 : Blk H5 x 94 (rnL (clsD s)) := st5.blk _ (lgR (_ :: _ :: rest) _ 0)
    refine ⟨fun k hk => by
      rcases hk with hk | hk
      · rw [show k = bb from hk]; exact (st5.blk 0 rfl).trans (st4.blk 0 rfl).symm
      · rw [show k = x from hk]; exact hx5.trans hx4.symm, ?_⟩
    (conv => whnf); refine appO (ys := [clsD s]) st5 1 sl30 rfl (hb5.cells (o := 0) (cs := rnL (clsD s)) fun j v hv => by rw [Nat.zero_add]; exact hv) (Ty.reps_one ⟨rfl, hok⟩) rfl (fun u hu => List.all_eq_true.1 (rn_ones _) u hu) (by simp [RwM.den, ReM.nodes] at hl ⊢; omega) (by decide) fun a9 c9 H9 st9 ha9 => ?_
    have el : ns.length + [clsD s].length = (ns ++ [clsD s]).length := by simp
    rw [el] at st9 ⊢
    have hx9 : Blk H9 x 94 (rnL (clsD s)) := st9.blk _ (lgR (_ :: _ :: rest) _ 0)
    refine ⟨fun k hk => by
      rcases hk with hk | hk
      · rw [show k = bb from hk]; exact (st9.blk 0 rfl).trans (st4.blk 0 rfl).symm
      · rw [show k = x from hk]; exact hx9.trans hx4.symm, ?_⟩
    (conv => whnf); refine VC.fa fl32_0 ?_
    (conv => whnf); refine st1B st9 0 ct30 rfl (show 0 < 2 by decide) rfl fun H10 st10 => ?_
    (conv => whnf); refine VC.fa fl32_0 ?_
    (conv => whnf); refine ld1 (v := .slice a9 (ns ++ [clsD s]).length c9) ct30 (by rw [(st10.blk 0 rfl).cell]; rfl) trivial ?_
    have w1 : IntKind.wrap .i64 (((ns ++ [clsD s]).length : Int) - 1) = (ns.length : Int) := by
      simp only [RwM.den, ReM.nodes] at hl
      rw [List.length_append, List.length_singleton, w64 (by omega) (by omega)]; omega
    (conv => whnf); rw [w1]
    (conv => whnf)
    replace st10 : StB B H0 H10 (reP bb a9 c9 (ns ++ [clsD s]) root (rest ++ [pB 94 x (rnL (clsD s))])) := st10
    exact (grp_leaf (r := .cls s) rfl (fun ns' k h => ⟨_, h, rfl, rfl⟩) st10).drop
  | cat w1 w2 ih1 ih2 =>
    intro B H0 H bb c a ns root rest na nc i ds ws hR hd hB hw hl st
    obtain ⟨d, hdd, hnr⟩ := hR.at2 hw
    refine FnOk.of_vc Tryz.func36 rfl (Tryz.call36 _) ?_
    obtain ⟨i1, i2, rfl, hi1, hi2⟩ := hnr
    simp only [RwM.den, ReM.nodes] at hl
    (conv => whnf); refine ixr (i := i) sl30 (hd.frame (st.old.mono fun k hk => hk)) hdd rfl ?_
    rintro b2 o2 c2 hS2 hc2 ⟨rfl, hok⟩
    (conv => whnf); refine ldN (cs := rnL (binN 2 (i1 : Int) (i2 : Int))) (by rw [rnL_len]; exact ag94) hc2 trivial ?_
    (conv => whnf); refine valloc _ rnZ rn_z rfl ?_
    intro x H3 hx hs3 hb3 ha3
    have st3 := st.box hx hs3 hb3 ha3
    (conv => whnf); refine stNB (cs := rnL (binN 2 (i1 : Int) (i2 : Int))) st3 _ (by rw [rnL_len]; rfl) (lgR (_ :: _ :: rest) _ 0) (by rw [rnL_len, rnZ_len]; decide) (rn_ones _) fun H4 st4 => ?_
    rw [splice_all (show (rnL (binN 2 (i1 : Int) (i2 : Int))).length = rnZ.length by rw [rnL_len, rnZ_len])] at st4
    replace st4 : StB B H0 H4 (reP bb a c ns root (rest ++ [pB 94 x (rnL (binN 2 (i1 : Int) (i2 : Int)))])) := by
      have e := lsR (pB tRe bb (reL (.slice a ns.length c) root) :: pS tRn 94 a ns.length c ns :: rest) [pB 94 x rnZ] 0 (pB 94 x (rnL (binN 2 (i1 : Int) (i2 : Int))))
      rw [e] at st4
      exact st4
    have hx4 : Blk H4 x 94 (rnL (binN 2 (i1 : Int) (i2 : Int))) := st4.blk _ (lgR (_ :: _ :: rest) _ 0)
    (conv => whnf); refine VC.fa fl94_0 ?_
    (conv => whnf); refine ld1 (v := .int .i64 (binN 2 (i1 : Int) (i2 : Int)).op) ct3 (by rw [hx4.cell]; exact rn_op _) trivial ?_
    (conv => whnf); try (refine VSeq.run ?_)
    (conv => whnf); try (refine VSeq.run ?_)
    (conv => whnf); refine VC.fa fl94_2 ?_
    (conv => whnf); refine ld1 (v := .int .i64 (i1 : Int)) ct3 (by rw [(st4.blk _ (lgR (_ :: _ :: rest) _ 0)).cell, Nat.zero_add]; exact rn_l _) trivial ?_
    (conv => whnf); refine VCall.mk (ih1 B H0 _ bb _ _ ns root (rest ++ [pB 94 x (rnL (binN 2 (i1 : Int) (i2 : Int)))]) na nc i1 ds ws hR hd hB hi1 (by omega) st4) ?_
    rintro _ G1 ⟨ms1, a1, c1, hm1, rfl, ht1, sg1⟩
    (conv => whnf); refine VC.fa fl94_3 ?_
    (conv => whnf); refine ld1 (v := .int .i64 (i2 : Int)) ct3 (by rw [(sg1.blk _ (lgR (_ :: _ :: rest) _ 0)).cell, Nat.zero_add]; exact rn_r _) trivial ?_
    (conv => whnf); refine VCall.mk (ih2 B H0 _ bb _ _ (ns ++ ms1) root (rest ++ [pB 94 x (rnL (binN 2 (i1 : Int) (i2 : Int)))]) na nc i2 ds ws hR hd hB hi2 (by simp only [List.length_append]; omega) sg1) ?_
    rintro _ G2 ⟨ms2, a2, c2, hm2, rfl, ht2, sg2⟩
    have p1 := nodes_pos w1.den
    have p2 := nodes_pos w2.den
    (conv => whnf); refine VC.fa fl94_0 ?_
    (conv => whnf); refine ld1 (v := .int .i64 (binN 2 (i1 : Int) (i2 : Int)).op) ct3 (by rw [(sg2.blk _ (lgR (_ :: _ :: rest) _ 0)).cell]; exact rn_op _) trivial ?_
    (conv => whnf); refine VCall.mk (put_g (op := 2) (x := ((ns.length + ms1.length - 1 : Nat) : Int)) (y := (((ns ++ ms1).length + ms2.length - 1 : Nat) : Int)) sg2 (by unfold NumOk; omega) (num_nat (by omega)) (num_nat (by simp only [List.length_append]; omega)) (by simp only [List.length_append]; omega)) ?_
    rintro _ G3 ⟨rfl, a3, c3, sg3⟩
    (conv => whnf)
    exact (grp_bin (R := .cat w1.den w2.den) hm1 hm2 rfl (fun ns' d j k' h1 h2 h3 h4 => ⟨d, j, k', h1, by rw [h2]; rfl, by rw [h2]; rfl, by rw [h2]; rfl, h3, h4⟩) ht1 ht2 sg3).drop
  | alt w1 w2 ih1 ih2 =>
    intro B H0 H bb c a ns root rest na nc i ds ws hR hd hB hw hl st
    obtain ⟨d, hdd, hnr⟩ := hR.at2 hw
    refine FnOk.of_vc Tryz.func36 rfl (Tryz.call36 _) ?_
    obtain ⟨i1, i2, rfl, hi1, hi2⟩ := hnr
    simp only [RwM.den, ReM.nodes] at hl
    (conv => whnf); refine ixr (i := i) sl30 (hd.frame (st.old.mono fun k hk => hk)) hdd rfl ?_
    rintro b2 o2 c2 hS2 hc2 ⟨rfl, hok⟩
    (conv => whnf); refine ldN (cs := rnL (binN 3 (i1 : Int) (i2 : Int))) (by rw [rnL_len]; exact ag94) hc2 trivial ?_
    (conv => whnf); refine valloc _ rnZ rn_z rfl ?_
    intro x H3 hx hs3 hb3 ha3
    have st3 := st.box hx hs3 hb3 ha3
    (conv => whnf); refine stNB (cs := rnL (binN 3 (i1 : Int) (i2 : Int))) st3 _ (by rw [rnL_len]; rfl) (lgR (_ :: _ :: rest) _ 0) (by rw [rnL_len, rnZ_len]; decide) (rn_ones _) fun H4 st4 => ?_
    rw [splice_all (show (rnL (binN 3 (i1 : Int) (i2 : Int))).length = rnZ.length by rw [rnL_len, rnZ_len])] at st4
    replace st4 : StB B H0 H4 (reP bb a c ns root (rest ++ [pB 94 x (rnL (binN 3 (i1 : Int) (i2 : Int)))])) := by
      have e := lsR (pB tRe bb (reL (.slice a ns.length c) root) :: pS tRn 94 a ns.length c ns :: rest) [pB 94 x rnZ] 0 (pB 94 x (rnL (binN 3 (i1 : Int) (i2 : Int))))
      rw [e] at st4
      exact st4
    have hx4 : Blk H4 x 94 (rnL (binN 3 (i1 : Int) (i2 : Int))) := st4.blk _ (lgR (_ :: _ :: rest) _ 0)
    (conv => whnf); refine VC.fa fl94_0 ?_
    (conv => whnf); refine ld1 (v := .int .i64 (binN 3 (i1 : Int) (i2 : Int)).op) ct3 (by rw [hx4.cell]; exact rn_op _) trivial ?_
    (conv => whnf); try (refine VSeq.run ?_)
    (conv => whnf); try (refine VSeq.run ?_)
    (conv => whnf); refine VC.fa fl94_2 ?_
    (conv => whnf); refine ld1 (v := .int .i64 (i1 : Int)) ct3 (by rw [(st4.blk _ (lgR (_ :: _ :: rest) _ 0)).cell, Nat.zero_add]; exact rn_l _) trivial ?_
    (conv => whnf); refine VCall.mk (ih1 B H0 _ bb _ _ ns root (rest ++ [pB 94 x (rnL (binN 3 (i1 : Int) (i2 : Int)))]) na nc i1 ds ws hR hd hB hi1 (by omega) st4) ?_
    rintro _ G1 ⟨ms1, a1, c1, hm1, rfl, ht1, sg1⟩
    (conv => whnf); refine VC.fa fl94_3 ?_
    (conv => whnf); refine ld1 (v := .int .i64 (i2 : Int)) ct3 (by rw [(sg1.blk _ (lgR (_ :: _ :: rest) _ 0)).cell, Nat.zero_add]; exact rn_r _) trivial ?_
    (conv => whnf); refine VCall.mk (ih2 B H0 _ bb _ _ (ns ++ ms1) root (rest ++ [pB 94 x (rnL (binN 3 (i1 : Int) (i2 : Int)))]) na nc i2 ds ws hR hd hB hi2 (by simp only [List.length_append]; omega) sg1) ?_
    rintro _ G2 ⟨ms2, a2, c2, hm2, rfl, ht2, sg2⟩
    have p1 := nodes_pos w1.den
    have p2 := nodes_pos w2.den
    (conv => whnf); refine VC.fa fl94_0 ?_
    (conv => whnf); refine ld1 (v := .int .i64 (binN 3 (i1 : Int) (i2 : Int)).op) ct3 (by rw [(sg2.blk _ (lgR (_ :: _ :: rest) _ 0)).cell]; exact rn_op _) trivial ?_
    (conv => whnf); refine VCall.mk (put_g (op := 3) (x := ((ns.length + ms1.length - 1 : Nat) : Int)) (y := (((ns ++ ms1).length + ms2.length - 1 : Nat) : Int)) sg2 (by unfold NumOk; omega) (num_nat (by omega)) (num_nat (by simp only [List.length_append]; omega)) (by simp only [List.length_append]; omega)) ?_
    rintro _ G3 ⟨rfl, a3, c3, sg3⟩
    (conv => whnf)
    exact (grp_bin (R := .alt w1.den w2.den) hm1 hm2 rfl (fun ns' d j k' h1 h2 h3 h4 => ⟨d, j, k', h1, by rw [h2]; rfl, by rw [h2]; rfl, by rw [h2]; rfl, h3, h4⟩) ht1 ht2 sg3).drop
  | and_ w1 w2 ih1 ih2 =>
    intro B H0 H bb c a ns root rest na nc i ds ws hR hd hB hw hl st
    obtain ⟨d, hdd, hnr⟩ := hR.at2 hw
    refine FnOk.of_vc Tryz.func36 rfl (Tryz.call36 _) ?_
    obtain ⟨i1, i2, rfl, hi1, hi2⟩ := hnr
    simp only [RwM.den, ReM.nodes] at hl
    (conv => whnf); refine ixr (i := i) sl30 (hd.frame (st.old.mono fun k hk => hk)) hdd rfl ?_
    rintro b2 o2 c2 hS2 hc2 ⟨rfl, hok⟩
    (conv => whnf); refine ldN (cs := rnL (binN 5 (i1 : Int) (i2 : Int))) (by rw [rnL_len]; exact ag94) hc2 trivial ?_
    (conv => whnf); refine valloc _ rnZ rn_z rfl ?_
    intro x H3 hx hs3 hb3 ha3
    have st3 := st.box hx hs3 hb3 ha3
    (conv => whnf); refine stNB (cs := rnL (binN 5 (i1 : Int) (i2 : Int))) st3 _ (by rw [rnL_len]; rfl) (lgR (_ :: _ :: rest) _ 0) (by rw [rnL_len, rnZ_len]; decide) (rn_ones _) fun H4 st4 => ?_
    rw [splice_all (show (rnL (binN 5 (i1 : Int) (i2 : Int))).length = rnZ.length by rw [rnL_len, rnZ_len])] at st4
    replace st4 : StB B H0 H4 (reP bb a c ns root (rest ++ [pB 94 x (rnL (binN 5 (i1 : Int) (i2 : Int)))])) := by
      have e := lsR (pB tRe bb (reL (.slice a ns.length c) root) :: pS tRn 94 a ns.length c ns :: rest) [pB 94 x rnZ] 0 (pB 94 x (rnL (binN 5 (i1 : Int) (i2 : Int))))
      rw [e] at st4
      exact st4
    have hx4 : Blk H4 x 94 (rnL (binN 5 (i1 : Int) (i2 : Int))) := st4.blk _ (lgR (_ :: _ :: rest) _ 0)
    (conv => whnf); refine VC.fa fl94_0 ?_
    (conv => whnf); refine ld1 (v := .int .i64 (binN 5 (i1 : Int) (i2 : Int)).op) ct3 (by rw [hx4.cell]; exact rn_op _) trivial ?_
    (conv => whnf); try (refine VSeq.run ?_)
    (conv => whnf); try (refine VSeq.run ?_)
    (conv => whnf); refine VC.fa fl94_2 ?_
    (conv => whnf); refine ld1 (v := .int .i64 (i1 : Int)) ct3 (by rw [(st4.blk _ (lgR (_ :: _ :: rest) _ 0)).cell, Nat.zero_add]; exact rn_l _) trivial ?_
    (conv => whnf); refine VCall.mk (ih1 B H0 _ bb _ _ ns root (rest ++ [pB 94 x (rnL (binN 5 (i1 : Int) (i2 : Int)))]) na nc i1 ds ws hR hd hB hi1 (by omega) st4) ?_
    rintro _ G1 ⟨ms1, a1, c1, hm1, rfl, ht1, sg1⟩
    (conv => whnf); refine VC.fa fl94_3 ?_
    (conv => whnf); refine ld1 (v := .int .i64 (i2 : Int)) ct3 (by rw [(sg1.blk _ (lgR (_ :: _ :: rest) _ 0)).cell, Nat.zero_add]; exact rn_r _) trivial ?_
    (conv => whnf); refine VCall.mk (ih2 B H0 _ bb _ _ (ns ++ ms1) root (rest ++ [pB 94 x (rnL (binN 5 (i1 : Int) (i2 : Int)))]) na nc i2 ds ws hR hd hB hi2 (by simp only [List.length_append]; omega) sg1) ?_
    rintro _ G2 ⟨ms2, a2, c2, hm2, rfl, ht2, sg2⟩
    have p1 := nodes_pos w1.den
    have p2 := nodes_pos w2.den
    (conv => whnf); refine VC.fa fl94_0 ?_
    (conv => whnf); refine ld1 (v := .int .i64 (binN 5 (i1 : Int) (i2 : Int)).op) ct3 (by rw [(sg2.blk _ (lgR (_ :: _ :: rest) _ 0)).cell]; exact rn_op _) trivial ?_
    (conv => whnf); refine VCall.mk (put_g (op := 5) (x := ((ns.length + ms1.length - 1 : Nat) : Int)) (y := (((ns ++ ms1).length + ms2.length - 1 : Nat) : Int)) sg2 (by unfold NumOk; omega) (num_nat (by omega)) (num_nat (by simp only [List.length_append]; omega)) (by simp only [List.length_append]; omega)) ?_
    rintro _ G3 ⟨rfl, a3, c3, sg3⟩
    (conv => whnf)
    exact (grp_bin (R := .and_ w1.den w2.den) hm1 hm2 rfl (fun ns' d j k' h1 h2 h3 h4 => ⟨d, j, k', h1, by rw [h2]; rfl, by rw [h2]; rfl, by rw [h2]; rfl, h3, h4⟩) ht1 ht2 sg3).drop
  | minus w1 w2 ih1 ih2 =>
    intro B H0 H bb c a ns root rest na nc i ds ws hR hd hB hw hl st
    obtain ⟨d, hdd, hnr⟩ := hR.at2 hw
    refine FnOk.of_vc Tryz.func36 rfl (Tryz.call36 _) ?_
    obtain ⟨i1, i2, rfl, hi1, hi2⟩ := hnr
    simp only [RwM.den, ReM.nodes] at hl
    (conv => whnf); refine ixr (i := i) sl30 (hd.frame (st.old.mono fun k hk => hk)) hdd rfl ?_
    rintro b2 o2 c2 hS2 hc2 ⟨rfl, hok⟩
    (conv => whnf); refine ldN (cs := rnL (binN 6 (i1 : Int) (i2 : Int))) (by rw [rnL_len]; exact ag94) hc2 trivial ?_
    (conv => whnf); refine valloc _ rnZ rn_z rfl ?_
    intro x H3 hx hs3 hb3 ha3
    have st3 := st.box hx hs3 hb3 ha3
    (conv => whnf); refine stNB (cs := rnL (binN 6 (i1 : Int) (i2 : Int))) st3 _ (by rw [rnL_len]; rfl) (lgR (_ :: _ :: rest) _ 0) (by rw [rnL_len, rnZ_len]; decide) (rn_ones _) fun H4 st4 => ?_
    rw [splice_all (show (rnL (binN 6 (i1 : Int) (i2 : Int))).length = rnZ.length by rw [rnL_len, rnZ_len])] at st4
    replace st4 : StB B H0 H4 (reP bb a c ns root (rest ++ [pB 94 x (rnL (binN 6 (i1 : Int) (i2 : Int)))])) := by
      have e := lsR (pB tRe bb (reL (.slice a ns.length c) root) :: pS tRn 94 a ns.length c ns :: rest) [pB 94 x rnZ] 0 (pB 94 x (rnL (binN 6 (i1 : Int) (i2 : Int))))
      rw [e] at st4
      exact st4
    have hx4 : Blk H4 x 94 (rnL (binN 6 (i1 : Int) (i2 : Int))) := st4.blk _ (lgR (_ :: _ :: rest) _ 0)
    (conv => whnf); refine VC.fa fl94_0 ?_
    (conv => whnf); refine ld1 (v := .int .i64 (binN 6 (i1 : Int) (i2 : Int)).op) ct3 (by rw [hx4.cell]; exact rn_op _) trivial ?_
    (conv => whnf); try (refine VSeq.run ?_)
    (conv => whnf); try (refine VSeq.run ?_)
    (conv => whnf); refine VC.fa fl94_2 ?_
    (conv => whnf); refine ld1 (v := .int .i64 (i1 : Int)) ct3 (by rw [(st4.blk _ (lgR (_ :: _ :: rest) _ 0)).cell, Nat.zero_add]; exact rn_l _) trivial ?_
    (conv => whnf); refine VCall.mk (ih1 B H0 _ bb _ _ ns root (rest ++ [pB 94 x (rnL (binN 6 (i1 : Int) (i2 : Int)))]) na nc i1 ds ws hR hd hB hi1 (by omega) st4) ?_
    rintro _ G1 ⟨ms1, a1, c1, hm1, rfl, ht1, sg1⟩
    (conv => whnf); refine VC.fa fl94_3 ?_
    (conv => whnf); refine ld1 (v := .int .i64 (i2 : Int)) ct3 (by rw [(sg1.blk _ (lgR (_ :: _ :: rest) _ 0)).cell, Nat.zero_add]; exact rn_r _) trivial ?_
    (conv => whnf); refine VCall.mk (ih2 B H0 _ bb _ _ (ns ++ ms1) root (rest ++ [pB 94 x (rnL (binN 6 (i1 : Int) (i2 : Int)))]) na nc i2 ds ws hR hd hB hi2 (by simp only [List.length_append]; omega) sg1) ?_
    rintro _ G2 ⟨ms2, a2, c2, hm2, rfl, ht2, sg2⟩
    have p1 := nodes_pos w1.den
    have p2 := nodes_pos w2.den
    (conv => whnf); refine VC.fa fl94_0 ?_
    (conv => whnf); refine ld1 (v := .int .i64 (binN 6 (i1 : Int) (i2 : Int)).op) ct3 (by rw [(sg2.blk _ (lgR (_ :: _ :: rest) _ 0)).cell]; exact rn_op _) trivial ?_
    (conv => whnf); refine VCall.mk (put_g (op := 6) (x := ((ns.length + ms1.length - 1 : Nat) : Int)) (y := (((ns ++ ms1).length + ms2.length - 1 : Nat) : Int)) sg2 (by unfold NumOk; omega) (num_nat (by omega)) (num_nat (by simp only [List.length_append]; omega)) (by simp only [List.length_append]; omega)) ?_
    rintro _ G3 ⟨rfl, a3, c3, sg3⟩
    (conv => whnf)
    exact (grp_bin (R := .minus w1.den w2.den) hm1 hm2 rfl (fun ns' d j k' h1 h2 h3 h4 => ⟨d, j, k', h1, by rw [h2]; rfl, by rw [h2]; rfl, by rw [h2]; rfl, h3, h4⟩) ht1 ht2 sg3).drop
  | rep w m n ih =>
    intro B H0 H bb c a ns root rest na nc i ds ws hR hd hB hw hl st
    obtain ⟨d, hdd, hnr⟩ := hR.at2 hw
    refine FnOk.of_vc Tryz.func36 rfl (Tryz.call36 _) ?_
    obtain ⟨i1, rfl, hi1, hrk⟩ := hnr
    (conv => whnf); refine ixr (i := i) sl30 (hd.frame (st.old.mono fun k hk => hk)) hdd rfl ?_
    rintro b2 o2 c2 hS2 hc2 ⟨rfl, hok⟩
    (conv => whnf); refine ldN (cs := rnL (repN (i1 : Int) m n)) (by rw [rnL_len]; exact ag94) hc2 trivial ?_
    (conv => whnf); refine valloc _ rnZ rn_z rfl ?_
    intro x H3 hx hs3 hb3 ha3
    have st3 := st.box hx hs3 hb3 ha3
    (conv => whnf); refine stNB (cs := rnL (repN (i1 : Int) m n)) st3 _ (by rw [rnL_len]; rfl) (lgR (_ :: _ :: rest) _ 0) (by rw [rnL_len, rnZ_len]; decide) (rn_ones _) fun H4 st4 => ?_
    rw [splice_all (show (rnL (repN (i1 : Int) m n)).length = rnZ.length by rw [rnL_len, rnZ_len])] at st4
    replace st4 : StB B H0 H4 (reP bb a c ns root (rest ++ [pB 94 x (rnL (repN (i1 : Int) m n))])) := by
      have e := lsR (pB tRe bb (reL (.slice a ns.length c) root) :: pS tRn 94 a ns.length c ns :: rest) [pB 94 x rnZ] 0 (pB 94 x (rnL (repN (i1 : Int) m n)))
      rw [e] at st4
      exact st4
    have hx4 : Blk H4 x 94 (rnL (repN (i1 : Int) m n)) := st4.blk _ (lgR (_ :: _ :: rest) _ 0)
    (conv => whnf); refine VC.fa fl94_0 ?_
    (conv => whnf); refine ld1 (v := .int .i64 (repN (i1 : Int) m n).op) ct3 (by rw [hx4.cell]; exact rn_op _) trivial ?_
    (conv => whnf); try (refine VSeq.run ?_)
    (conv => whnf); try (refine VSeq.run ?_)
    (conv => whnf); refine ldN (cs := rnL (repN (i1 : Int) m n)) (by rw [rnL_len]; exact ag94) (hx4.cells (o := 0) fun j v hv => by rw [Nat.zero_add]; exact hv) trivial ?_
    (conv => whnf); refine VCall.mk (unroll_c ih hR hd hB hi1 hrk hl st4) ?_
    intro v G1 h
    (conv => whnf)
    exact GrP.drop h
end Go.Proofs.YtlnmhfhdjnenoaaGreatDoor
