/- Parts of the proof: PBld, PNfa5, PNfa6, PTxt, PLg2, PDetB, PNet05, PDCa, PLg7, PLg3, PLg4, PLg5, PLg6, PLg8, PAut06, PMet1, PMet2, PTab1, PTab2, PAut07, PMl1, PMl2, PLa1, PPow6, PLaid6, VOpen, POpenS, POpen5, VTop, PTabIn -/
import Derived.Test.YtfbghcpdinlmcaaGreatDoorKL2
import Derived.Test.YtfbghcpdinlmcaaGreatDoorKL4
import Derived.Test.YtfbghcpdinlmcaaGreatDoorKL3
import Derived.Test.YtfbghcpdinlmcaaGreatDoorRows
import Derived.Lib.LaidTab
import Derived.ProofKit
import Derived.Test.YtfbghcpdinlmcaaGreatDoorKL1
import Derived.OpenShut
import Derived.JoinedCond
import Derived.WideKeyArgs
/- Trees of expressions; the builder of layer 4 over trees without signs: the plain law and the walks. -/
set_option linter.unusedVariables false
set_option linter.unusedSimpArgs false
set_option maxRecDepth 100000
namespace Go.Proofs.YtfbghcpdinlmcaaGreatDoor
open Go.VC
inductive ReM
  | eps
  | cls (s : BitVec 256)
  | cat (a b : ReM)
  | alt (a b : ReM)
  | star (a : ReM)
  | and_ (a b : ReM)
  | minus (a b : ReM)
def nodeV : ReM → Value
  | .eps => .iface 98 (.agg #[])
  | .cls s => .iface 104 (setV s)
  | .cat a b => .iface 105 (.agg #[nodeV a, nodeV b])
  | .alt a b => .iface 305 (.agg #[nodeV a, nodeV b])
  | .star a => .iface 310 (.agg #[nodeV a])
  | .and_ a b => .iface 64 (.agg #[nodeV a, nodeV b])
  | .minus a b => .iface 65 (.agg #[nodeV a, nodeV b])
theorem nodeV_one (r : ReM) : (nodeV r).oneCell' = true := by cases r <;> rfl
def ReM.nodes : ReM → Nat
  | .eps => 1
  | .cls _ => 1
  | .cat a b => 1 + a.nodes + b.nodes
  | .alt a b => 1 + a.nodes + b.nodes
  | .star a => 1 + a.nodes
  | .and_ a b => 1 + a.nodes + b.nodes
  | .minus a b => 1 + a.nodes + b.nodes
def ReM.plain : ReM → Bool
  | .eps => true
  | .cls _ => true
  | .cat a b => a.plain && b.plain
  | .alt a b => a.plain && b.plain
  | .star a => a.plain
  | .and_ _ _ => false
  | .minus _ _ => false
/-- How many states a tree's automaton has. -/
def stM : ReM → Nat
  | .eps => 2
  | .cls _ => 2
  | .cat a b => stM a + stM b
  | .alt a b => stM a + stM b + 2
  | .star a => stM a + 2
  | .and_ _ _ => 0
  | .minus _ _ => 0
def silE (p q : Nat) : EdM := ⟨p, q, true, 0#256⟩
def setE (p q : Nat) (s : BitVec 256) : EdM := ⟨p, q, false, s⟩
/-- What a tree's rules make from state n on: the start, the end, the edges. -/
def bldM : ReM → Nat → Nat × Nat × List EdM
  | .eps, n => (n, n + 1, [silE n (n + 1)])
  | .cls s, n => (n, n + 1, [setE n (n + 1) s])
  | .cat a b, n => ((bldM a n).1, (bldM b (n + stM a)).2.1, (bldM a n).2.2 ++ (bldM b (n + stM a)).2.2 ++ [silE (bldM a n).2.1 (bldM b (n + stM a)).1])
  | .alt a b, n => (n, n + 1 + stM a + stM b, (bldM a (n + 1)).2.2 ++ (bldM b (n + 1 + stM a)).2.2 ++
      [silE n (bldM a (n + 1)).1, silE n (bldM b (n + 1 + stM a)).1, silE (bldM a (n + 1)).2.1 (n + 1 + stM a + stM b), silE (bldM b (n + 1 + stM a)).2.1 (n + 1 + stM a + stM b)])
  | .star a, n => (n, n + 1 + stM a, (bldM a (n + 1)).2.2 ++ [silE n (bldM a (n + 1)).1, silE n (n + 1 + stM a), silE (bldM a (n + 1)).2.1 (bldM a (n + 1)).1, silE (bldM a (n + 1)).2.1 (n + 1 + stM a)])
  | .and_ _ _, n => (n, n, [])
  | .minus _ _, n => (n, n, [])
theorem bldM_len : ∀ (r : ReM), r.plain = true → ∀ n, (bldM r n).2.2.length + 1 ≤ 2 * stM r
  | .eps, _, n => by simp [bldM, stM]
  | .cls _, _, n => by simp [bldM, stM]
  | .cat a b, h, n => by
    simp only [ReM.plain, Bool.and_eq_true] at h
    have h1 := bldM_len a h.1 n
    have h2 := bldM_len b h.2 (n + stM a)
    simp only [bldM, stM, List.length_append, List.length_cons, List.length_nil]; omega
  | .alt a b, h, n => by
    simp only [ReM.plain, Bool.and_eq_true] at h
    have h1 := bldM_len a h.1 (n + 1)
    have h2 := bldM_len b h.2 (n + 1 + stM a)
    simp only [bldM, stM, List.length_append, List.length_cons, List.length_nil]; omega
  | .star a, h, n => by
    have h1 := bldM_len a h (n + 1)
    simp only [bldM, stM, List.length_append, List.length_cons, List.length_nil]; omega
  | .and_ _ _, h, _ => by cases h
  | .minus _ _, h, _ => by cases h
/-- The ends lie among the states. -/
theorem bldM_in : ∀ (r : ReM), r.plain = true → ∀ n, n ≤ (bldM r n).1 ∧ (bldM r n).1 < n + stM r ∧ n ≤ (bldM r n).2.1 ∧ (bldM r n).2.1 < n + stM r
  | .eps, _, n => by simp only [bldM, stM]; omega
  | .cls _, _, n => by simp only [bldM, stM]; omega
  | .cat a b, h, n => by
    simp only [ReM.plain, Bool.and_eq_true] at h
    have h1 := bldM_in a h.1 n
    have h2 := bldM_in b h.2 (n + stM a)
    simp only [bldM, stM]; omega
  | .alt a b, h, n => by simp only [bldM, stM]; omega
  | .star a, h, n => by simp only [bldM, stM]; omega
  | .and_ _ _, h, _ => by cases h
  | .minus _ _, h, _ => by cases h
/-! ### the builder -/
def bdL (n : Nat) (v sub : Value) : List Value := [.int .i64 (n : Int), .int .i64 0, .int .i64 0, v, sub, .int .i64 0]
abbrev tBd : TypeId := 246
section
variable {B : Nat → Prop} {H0 H : Heap} {rest : List Pc} {bb n : Nat} {v sub : Value}
theorem bstate_v {K : Value → Heap → Prop} (st : StB B H0 H (pB tBd bb (bdL n v sub) :: rest)) (hn : n ≤ 2000000) (k : ∀ H', StB B H0 H' (pB tBd bb (bdL (n + 1) v sub) :: rest) → K (.int .i64 (n : Int)) H') :
    VCall Tryz.prog 175 #[.pointer (some ⟨bb, 0, none⟩)] H K := by
  refine VCall.mk (R := fun r H' => r = .int .i64 (n : Int) ∧ StB B H0 H' (pB tBd bb (bdL (n + 1) v sub) :: rest)) ?_ fun r H' ⟨h1, h2⟩ => by rw [h1]; exact k H' h2
  refine FnOk.of_vc Tryz.func175 rfl (Tryz.call175 _) ?_
  (conv => whnf); refine fa fl246_0 ?_
  (conv => whnf); refine fa fl76_0 ?_
  (conv => whnf); refine ld1 (v := .int .i64 (n : Int)) ct3 (by rw [(st.blk 0 rfl).cell]; rfl) trivial ?_
  (conv => whnf); rw [w64 (x := (n : Int) + 1) (by omega) (by omega)]
  (conv => whnf); refine fa fl246_0 ?_
  (conv => whnf); refine fa fl76_0 ?_
  (conv => whnf); refine st1B st 0 ct3 rfl (show 0 < 6 by decide) rfl fun H1 st1 => ?_
  (conv => whnf); refine fa fl246_0 ?_
  (conv => whnf); refine fa fl76_0 ?_
  (conv => whnf); refine ld1 (v := .int .i64 ((n : Int) + 1)) ct3 (by rw [(st1.blk 0 rfl).cell]; rfl) trivial ?_
  (conv => whnf); rw [w64 (x := (n : Int) + 1 - 1) (by omega) (by omega), show (n : Int) + 1 - 1 = (n : Int) by omega]
  (conv => whnf)
  exact ⟨rfl, st1⟩
theorem edge_ok {p q : Nat} (hp : p ≤ 2000000) (hq : q ≤ 2000000) (s : Bool) (t : BitVec 256) : (EdM.mk p q s t).Ok := ⟨inI64 (by omega), inI64 (by omega)⟩
theorem sil_build (p q : Nat) {S : Nat → Prop} {H : Heap} {K : Value → Prop} (k : K (.agg (edL (silE p q)).toArray)) :
    VDet Tryz.prog (Instr.build 174 [(0, .int .i64 (p : Int)), (1, .int .i64 (q : Int)), (2, .bool true)].toArray) S H K := by
  have e : edL (silE p q) = [.int .i64 (p : Int), .int .i64 (q : Int), .bool true, .int .u64 0, .int .u64 0, .int .u64 0, .int .u64 0] := by
    have h : ∀ i, wd 0#256 i = 0 := fun i => by unfold wd; simp
    simp [edL, silE, h]
  rw [e] at k
  exact vbuildS Tryz.underlying174 rfl _ edge_z _ (by kernel_rfl) k
theorem set_fill (x y : Int) (w0 w1 w2 w3 : Value) {S : Nat → Prop} {H : Heap} {K : Value → Prop} (h0 : w0.oneCell' = true) (h1 : w1.oneCell' = true) (h2 : w2.oneCell' = true) (h3 : w3.oneCell' = true) (k : K (.agg [.int .i64 x, .int .i64 y, .bool false, w0, w1, w2, w3].toArray)) :
    VDet Tryz.prog (Instr.build 174 [(0, .int .i64 x), (1, .int .i64 y), (3, .agg [w0, w1, w2, w3].toArray)].toArray) S H K :=
  vbuildS Tryz.underlying174 rfl _ edge_z [.int .i64 x, .int .i64 y, .bool false, w0, w1, w2, w3] (by kernel_rfl) k
theorem set_build (p q : Nat) (s : BitVec 256) {S : Nat → Prop} {H : Heap} {K : Value → Prop} (k : K (.agg (edL (setE p q s)).toArray)) :
    VDet Tryz.prog (Instr.build 174 [(0, .int .i64 (p : Int)), (1, .int .i64 (q : Int)), (3, .agg (setL s).toArray)].toArray) S H K := by
  unfold setE edL at k
  unfold setL
  exact set_fill _ _ _ _ _ _ rfl rfl rfl rfl k
theorem bsil_v {K : Value → Heap → Prop} {a : Option Addr} {c p q : Nat} {es : List EdM} (st : StB B H0 H (pB tBd bb (bdL n (.slice a es.length c) sub) :: pS tEd 174 a es.length c es :: rest)) (hp : p ≤ 2000000) (hq : q ≤ 2000000) (hl : es.length + 1 ≤ 4194304)
    (k : ∀ a' c' H', StB B H0 H' (pB tBd bb (bdL n (.slice a' (es ++ [silE p q]).length c') sub) :: pS tEd 174 a' (es ++ [silE p q]).length c' (es ++ [silE p q]) :: rest) → K (.tuple #[]) H') :
    VCall Tryz.prog 176 #[.pointer (some ⟨bb, 0, none⟩), .int .i64 (p : Int), .int .i64 (q : Int)] H K := by
  refine VCall.mk (R := fun r H' => r = .tuple #[] ∧ ∃ a' c', StB B H0 H' (pB tBd bb (bdL n (.slice a' (es ++ [silE p q]).length c') sub) :: pS tEd 174 a' (es ++ [silE p q]).length c' (es ++ [silE p q]) :: rest)) ?_ fun r H' ⟨h1, a', c', h2⟩ => by rw [h1]; exact k a' c' H' h2
  refine FnOk.of_vc Tryz.func176 rfl (Tryz.call176 _) ?_
  (conv => whnf); refine fa fl246_0 ?_
  (conv => whnf); refine fa fl76_3 ?_
  (conv => whnf); refine ld1 (v := .slice a es.length c) ct74 (by rw [(st.blk 0 rfl).cell]; rfl) trivial ?_
  (conv => whnf); refine sil_build p q ?_
  (conv => whnf); refine vbuild1 sl74 (edL (silE p q)) rfl rfl (by decide) (by decide) ?_
  intro y H1 hy hs1 hb1 ha1
  have st1 := st.skip hy ha1
  (conv => whnf); refine appO (ys := [silE p q]) st1 1 sl74 rfl (hb1.cells (o := 0) (cs := edL (silE p q)) fun j v hv => by rw [Nat.zero_add]; exact hv) (Ty.reps_one ⟨rfl, edge_ok hp hq _ _⟩) rfl (fun u hu => List.all_eq_true.1 (ed_ones _) u hu) (by simpa using hl) (by decide) fun a9 c9 H9 st9 _ => ?_
  (conv => whnf); refine fa fl246_0 ?_
  (conv => whnf); refine fa fl76_3 ?_
  (conv => whnf); refine st1B st9 0 ct74 rfl (show 3 < 6 by decide) rfl fun H10 st10 => ?_
  (conv => whnf)
  have el : es.length + [silE p q].length = (es ++ [silE p q]).length := by simp
  rw [el] at st10
  exact ⟨rfl, a9, c9, st10⟩
theorem btake_v {K : Value → Heap → Prop} {a : Option Addr} {c : Nat} {es : List EdM} {s : BitVec 256} (st : StB B H0 H (pB tBd bb (bdL n (.slice a es.length c) sub) :: pS tEd 174 a es.length c es :: rest)) (hn : n ≤ 1000000) (hl : es.length + 1 ≤ 4194304)
    (k : ∀ a' c' H', StB B H0 H' (pB tBd bb (bdL (n + 2) (.slice a' (es ++ [setE n (n + 1) s]).length c') sub) :: pS tEd 174 a' (es ++ [setE n (n + 1) s]).length c' (es ++ [setE n (n + 1) s]) :: rest) → K (.tuple #[.int .i64 (n : Int), .int .i64 ((n + 1 : Nat) : Int)]) H') :
    VCall Tryz.prog 177 #[.pointer (some ⟨bb, 0, none⟩), setV s] H K := by
  refine VCall.mk (R := fun r H' => r = .tuple #[.int .i64 (n : Int), .int .i64 ((n + 1 : Nat) : Int)] ∧ ∃ a' c', StB B H0 H' (pB tBd bb (bdL (n + 2) (.slice a' (es ++ [setE n (n + 1) s]).length c') sub) :: pS tEd 174 a' (es ++ [setE n (n + 1) s]).length c' (es ++ [setE n (n + 1) s]) :: rest)) ?_ fun r H' ⟨h1, a', c', h2⟩ => by rw [h1]; exact k a' c' H' h2
  refine FnOk.of_vc Tryz.func177 rfl (Tryz.call177 _) ?_
  (conv => whnf); refine vbox (setL s) rfl ?_
  intro x H1 hx hs1 hb1 ha1
  have st1 := (st.box hx hs1 hb1 ha1).perm (List.perm_append_singleton _ _)
  have st2 : StB B H0 H1 (pB tBd bb (bdL n (.slice a es.length c) sub) :: pB 101 x (setL s) :: pS tEd 174 a es.length c es :: rest) := st1.perm (List.Perm.swap _ _ _)
  (conv => whnf); refine bstate_v st2 (by omega) fun H3 st3 => ?_
  (conv => whnf); refine bstate_v st3 (by omega) fun H4 st4 => ?_
  have hdis := st4.apart2 (i := 0) (j := 2) rfl rfl (by decide)
  have hdis2 := st4.apart2 (i := 1) (j := 2) rfl rfl (by decide)
  (conv => whnf); refine VDraw.heldZ (fun k => k < H4.size ∧ ¬ slB (.slice a es.length c) k) [15] (sq [0,1,2,3,4,5,6,7,8,9] (.f 10 (.f 11 (sq [12,13,14] (.f 15 .e))))) rfl (by kernel_rfl) ?_
  have hb4 : bb < H4.size ∧ ¬ slB (.slice a es.length c) bb := ⟨(st4.in_ 0 rfl rfl).2, fun h => hdis bb rfl (.inl h)⟩
  have hx4 : x < H4.size ∧ ¬ slB (.slice a es.length c) x := ⟨(st4.in_ 1 rfl rfl).2, fun h => hdis2 x rfl (.inl h)⟩
  (conv => whnf); refine fa fl246_0 ?_
  (conv => whnf); refine fa fl76_3 ?_
  (conv => whnf); refine ld1 (v := .slice a es.length c) ct74 (by rw [(st4.blk 0 rfl).cell]; rfl) hb4 ?_
  (conv => whnf); refine ldN (cs := setL s) ag101 ((st4.blk 1 rfl).cells fun j v hv => by rw [Nat.zero_add]; exact hv) hx4 ?_
  (conv => whnf); refine set_build n (n + 1) s ?_
  (conv => whnf); refine vbuild1 sl74 (edL (setE n (n + 1) s)) rfl rfl (by decide) (by decide) ?_
  intro y H5 hy hs5 hb5 ha5
  have st5 := st4.skip hy ha5
  refine ⟨ha5.mono fun k hk => by have := hk.1; omega, ?_⟩
  (conv => whnf); refine appO (ys := [setE n (n + 1) s]) st5 2 sl74 rfl (hb5.cells (o := 0) (cs := edL (setE n (n + 1) s)) fun j v hv => by rw [Nat.zero_add]; exact hv) (Ty.reps_one ⟨rfl, edge_ok (by omega) (by omega) _ _⟩) rfl (fun u hu => List.all_eq_true.1 (ed_ones _) u hu) (by simpa using hl) (by decide) fun a9 c9 H9 st9 ha9 => ?_
  refine ⟨(ha5.mono fun k hk => by have := hk.1; omega).trans (ha9.mono fun k hk => ⟨by have := hk.1; omega, hk.2⟩), ?_⟩
  (conv => whnf); refine fa fl246_0 ?_
  (conv => whnf); refine fa fl76_3 ?_
  (conv => whnf); refine st1B st9 0 ct74 rfl (show 3 < 6 by decide) rfl fun H10 st10 => ?_
  (conv => whnf)
  have el : es.length + [setE n (n + 1) s].length = (es ++ [setE n (n + 1) s]).length := by simp
  rw [el] at st10
  exact ⟨rfl, a9, c9, (st10.perm (List.Perm.swap _ _ _)).sub (List.sublist_cons_self _ _)⟩
end
theorem node_z1 : (Tryz.prog.info? 98).bind (·.zero) = some (.agg #[]) := rfl
theorem node_z2 : (Tryz.prog.info? 104).bind (·.zero) = some (.agg #[.int .u64 0, .int .u64 0, .int .u64 0, .int .u64 0]) := rfl
theorem node_z3 : (Tryz.prog.info? 105).bind (·.zero) = some (.agg #[.nilIface, .nilIface]) := rfl
theorem node_z4 : (Tryz.prog.info? 305).bind (·.zero) = some (.agg #[.nilIface, .nilIface]) := rfl
theorem node_z5 : (Tryz.prog.info? 310).bind (·.zero) = some (.agg #[.nilIface]) := rfl
set_option maxHeartbeats 16000000 in
theorem part_c {B : Nat → Prop} {H0 : Heap} {bb : Nat} {sub : Value} : ∀ (r : ReM), r.plain = true → ∀ {H : Heap} {rest : List Pc} {n : Nat} {a : Option Addr} {c : Nat} {es : List EdM} (st : StB B H0 H (pB tBd bb (bdL n (.slice a es.length c) sub) :: pS tEd 174 a es.length c es :: rest)), n + stM r ≤ 1000000 → es.length + 2 * stM r ≤ 4000000 →
    FnOk Tryz.prog 138 #[.pointer (some ⟨bb, 0, none⟩), nodeV r] H fun v H' => v = .tuple #[.int .i64 ((bldM r n).1 : Nat), .int .i64 ((bldM r n).2.1 : Nat)] ∧ ∃ a' c', StB B H0 H' (pB tBd bb (bdL (n + stM r) (.slice a' (es ++ (bldM r n).2.2).length c') sub) :: pS tEd 174 a' (es ++ (bldM r n).2.2).length c' (es ++ (bldM r n).2.2) :: rest) := fun r => by
  induction r with
  | eps =>
    intro hpl H rest n a c es st hn hl
    simp only [stM] at hn hl
    refine FnOk.of_vc Tryz.func138 rfl (Tryz.call138 _) ?_
    (conv => whnf); refine fa fl246_2 ?_
    (conv => whnf); refine ld1 (v := .int .i64 0) ct24 (by rw [(st.blk 0 rfl).cell]; rfl) trivial ?_
    (conv => whnf); refine vta_yes Tryz.underlying98 (by intro ms h; cases h) ?_
    (conv => whnf); refine valloc (.agg #[]) [] rfl rfl ?_
    intro x H1 hx hs1 hb1 ha1
    have st1 : StB B H0 H1 (pB 98 x [] :: pB tBd bb (bdL n (.slice a es.length c) sub) :: pS tEd 174 a es.length c es :: rest) := (st.box hx hs1 hb1 ha1).perm (List.perm_append_singleton _ _)
    (conv => whnf); refine stNB (cs := []) st1 0 rfl rfl (Nat.le_refl _) rfl fun H2 st2 => ?_
    have st3 : StB B H0 H2 (pB tBd bb (bdL n (.slice a es.length c) sub) :: pS tEd 174 a es.length c es :: rest) := st2.sub (List.sublist_cons_self _ _)
    (conv => whnf); refine bstate_v st3 (by omega) fun H4 st4 => ?_
    (conv => whnf); refine bstate_v st4 (by omega) fun H5 st5 => ?_
    (conv => whnf); refine bsil_v st5 (by omega) (by omega) (by omega) fun a' c' H6 st6 => ?_
    (conv => whnf)
    exact ⟨rfl, a', c', st6⟩
  | cls s =>
    intro hpl H rest n a c es st hn hl
    simp only [stM] at hn hl
    refine FnOk.of_vc Tryz.func138 rfl (Tryz.call138 _) ?_
    (conv => whnf); refine fa fl246_2 ?_
    (conv => whnf); refine ld1 (v := .int .i64 0) ct24 (by rw [(st.blk 0 rfl).cell]; rfl) trivial ?_
    (conv => whnf); refine vta_no Tryz.underlying98 (by intro ms h; cases h) node_z1 (by decide) ?_
    (conv => whnf); refine vta_yes Tryz.underlying104 (by intro ms h; cases h) ?_
    (conv => whnf); refine valloc _ [.int .u64 0, .int .u64 0, .int .u64 0, .int .u64 0] node_z2 rfl ?_
    intro x H1 hx hs1 hb1 ha1
    have st1 : StB B H0 H1 (pB 104 x [.int .u64 0, .int .u64 0, .int .u64 0, .int .u64 0] :: pB tBd bb (bdL n (.slice a es.length c) sub) :: pS tEd 174 a es.length c es :: rest) := (st.box hx hs1 hb1 ha1).perm (List.perm_append_singleton _ _)
    (conv => whnf); refine stNB (cs := setL s) st1 0 rfl rfl (Nat.le_refl _) rfl fun H2 st2 => ?_
    rw [splice_all (show (setL s).length = 4 from rfl)] at st2
    (conv => whnf); refine fa fl104_0 ?_
    (conv => whnf); refine ldN (cs := setL s) ag101 ((st2.blk 0 rfl).cells fun j v hv => by simpa using hv) trivial ?_
    have st3 : StB B H0 H2 (pB tBd bb (bdL n (.slice a es.length c) sub) :: pS tEd 174 a es.length c es :: rest) := st2.sub (List.sublist_cons_self _ _)
    (conv => whnf); refine btake_v st3 (by omega) (by omega) fun a' c' H4 st4 => ?_
    (conv => whnf)
    exact ⟨rfl, a', c', st4⟩
  | cat r1 r2 ih1 ih2 =>
    intro hpl H rest n a c es st hn hl
    simp only [ReM.plain, Bool.and_eq_true] at hpl
    simp only [stM] at hn hl
    have l1 := bldM_len r1 hpl.1 n
    have l2 := bldM_len r2 hpl.2 (n + stM r1)
    have i1 := bldM_in r1 hpl.1 n
    have i2 := bldM_in r2 hpl.2 (n + stM r1)
    refine FnOk.of_vc Tryz.func138 rfl (Tryz.call138 _) ?_
    (conv => whnf); refine fa fl246_2 ?_
    (conv => whnf); refine ld1 (v := .int .i64 0) ct24 (by rw [(st.blk 0 rfl).cell]; rfl) trivial ?_
    (conv => whnf); refine vta_no Tryz.underlying98 (by intro ms h; cases h) node_z1 (by decide) ?_
    (conv => whnf); refine vta_no Tryz.underlying104 (by intro ms h; cases h) node_z2 (by decide) ?_
    (conv => whnf); refine vta_yes Tryz.underlying105 (by intro ms h; cases h) ?_
    (conv => whnf); refine valloc _ [.nilIface, .nilIface] node_z3 rfl ?_
    intro x H1 hx hs1 hb1 ha1
    have st1 : StB B H0 H1 (pB 105 x [.nilIface, .nilIface] :: pB tBd bb (bdL n (.slice a es.length c) sub) :: pS tEd 174 a es.length c es :: rest) := (st.box hx hs1 hb1 ha1).perm (List.perm_append_singleton _ _)
    (conv => whnf); refine stNB (cs := [nodeV r1, nodeV r2]) st1 0 rfl rfl (Nat.le_refl _) (by simp [nodeV_one]) fun H2 st2 => ?_
    rw [splice_all (show [nodeV r1, nodeV r2].length = 2 from rfl)] at st2
    (conv => whnf); refine fa fl105_0 ?_
    (conv => whnf); refine ld1 (v := nodeV r1) ct28 (by rw [(st2.blk 0 rfl).cell]; rfl) trivial ?_
    have st3 : StB B H0 H2 (pB tBd bb (bdL n (.slice a es.length c) sub) :: pS tEd 174 a es.length c es :: pB 105 x [nodeV r1, nodeV r2] :: rest) := st2.pickN 3 [1, 2, 0] (by decide)
    (conv => whnf); refine VCall.mk (ih1 hpl.1 st3 (by omega) (by omega)) ?_
    rintro _ H4 ⟨rfl, a4, c4, st4⟩
    (conv => whnf); refine fa fl105_1 ?_
    (conv => whnf); refine ld1 (v := nodeV r2) ct28 (by rw [(st4.blk 2 rfl).cell]; rfl) trivial ?_
    (conv => whnf); refine VCall.mk (ih2 hpl.2 st4 (by omega) (by rw [List.length_append]; omega)) ?_
    rintro _ H5 ⟨rfl, a5, c5, st5⟩
    (conv => whnf); refine bsil_v st5 (by omega) (by omega) (by rw [List.length_append, List.length_append]; omega) fun a6 c6 H6 st6 => ?_
    (conv => whnf)
    have e1 : es ++ (bldM r1 n).2.2 ++ (bldM r2 (n + stM r1)).2.2 ++ [silE (bldM r1 n).2.1 (bldM r2 (n + stM r1)).1] = es ++ (bldM (.cat r1 r2) n).2.2 := by simp [bldM]
    rw [e1, Nat.add_assoc] at st6
    exact ⟨rfl, a6, c6, st6.pickN 3 [0, 1] (by decide)⟩
  | alt r1 r2 ih1 ih2 =>
    intro hpl H rest n a c es st hn hl
    simp only [ReM.plain, Bool.and_eq_true] at hpl
    simp only [stM] at hn hl
    have l1 := bldM_len r1 hpl.1 (n + 1)
    have l2 := bldM_len r2 hpl.2 (n + 1 + stM r1)
    have i1 := bldM_in r1 hpl.1 (n + 1)
    have i2 := bldM_in r2 hpl.2 (n + 1 + stM r1)
    refine FnOk.of_vc Tryz.func138 rfl (Tryz.call138 _) ?_
    (conv => whnf); refine fa fl246_2 ?_
    (conv => whnf); refine ld1 (v := .int .i64 0) ct24 (by rw [(st.blk 0 rfl).cell]; rfl) trivial ?_
    (conv => whnf); refine vta_no Tryz.underlying98 (by intro ms h; cases h) node_z1 (by decide) ?_
    (conv => whnf); refine vta_no Tryz.underlying104 (by intro ms h; cases h) node_z2 (by decide) ?_
    (conv => whnf); refine vta_no Tryz.underlying105 (by intro ms h; cases h) node_z3 (by decide) ?_
    (conv => whnf); refine vta_yes Tryz.underlying305 (by intro ms h; cases h) ?_
    (conv => whnf); refine valloc _ [.nilIface, .nilIface] node_z4 rfl ?_
    intro x H1 hx hs1 hb1 ha1
    have st1 : StB B H0 H1 (pB 305 x [.nilIface, .nilIface] :: pB tBd bb (bdL n (.slice a es.length c) sub) :: pS tEd 174 a es.length c es :: rest) := (st.box hx hs1 hb1 ha1).perm (List.perm_append_singleton _ _)
    (conv => whnf); refine stNB (cs := [nodeV r1, nodeV r2]) st1 0 rfl rfl (Nat.le_refl _) (by simp [nodeV_one]) fun H2 st2 => ?_
    rw [splice_all (show [nodeV r1, nodeV r2].length = 2 from rfl)] at st2
    have st3 : StB B H0 H2 (pB tBd bb (bdL n (.slice a es.length c) sub) :: pS tEd 174 a es.length c es :: pB 305 x [nodeV r1, nodeV r2] :: rest) := st2.pickN 3 [1, 2, 0] (by decide)
    (conv => whnf); refine bstate_v st3 (by omega) fun H4 st4 => ?_
    (conv => whnf); refine fa fl305_0 ?_
    (conv => whnf); refine ld1 (v := nodeV r1) ct28 (by rw [(st4.blk 2 rfl).cell]; rfl) trivial ?_
    (conv => whnf); refine VCall.mk (ih1 hpl.1 st4 (by omega) (by omega)) ?_
    rintro _ H5 ⟨rfl, a5, c5, st5⟩
    (conv => whnf); refine fa fl305_1 ?_
    (conv => whnf); refine ld1 (v := nodeV r2) ct28 (by rw [(st5.blk 2 rfl).cell]; rfl) trivial ?_
    (conv => whnf); refine VCall.mk (ih2 hpl.2 st5 (by omega) (by rw [List.length_append]; omega)) ?_
    rintro _ H6 ⟨rfl, a6, c6, st6⟩
    (conv => whnf); refine bstate_v st6 (by omega) fun H7 st7 => ?_
    (conv => whnf); refine bsil_v st7 (by omega) (by omega) (by simp only [List.length_append]; omega) fun a8 c8 H8 st8 => ?_
    (conv => whnf); refine bsil_v st8 (by omega) (by omega) (by simp only [List.length_append, List.length_cons, List.length_nil]; omega) fun a9 c9 H9 st9 => ?_
    (conv => whnf); refine bsil_v st9 (by omega) (by omega) (by simp only [List.length_append, List.length_cons, List.length_nil]; omega) fun a10 c10 H10 st10 => ?_
    (conv => whnf); refine bsil_v st10 (by omega) (by omega) (by simp only [List.length_append, List.length_cons, List.length_nil]; omega) fun a11 c11 H11 st11 => ?_
    (conv => whnf)
    have e1 : es ++ (bldM r1 (n + 1)).2.2 ++ (bldM r2 (n + 1 + stM r1)).2.2 ++ [silE n (bldM r1 (n + 1)).1] ++ [silE n (bldM r2 (n + 1 + stM r1)).1] ++ [silE (bldM r1 (n + 1)).2.1 (n + 1 + stM r1 + stM r2)] ++ [silE (bldM r2 (n + 1 + stM r1)).2.1 (n + 1 + stM r1 + stM r2)] = es ++ (bldM (.alt r1 r2) n).2.2 := by simp [bldM]
    rw [e1, show n + 1 + stM r1 + stM r2 + 1 = n + stM (.alt r1 r2) by simp only [stM]; omega] at st11
    exact ⟨rfl, a11, c11, st11.pickN 3 [0, 1] (by decide)⟩
  | star r1 ih1 =>
    intro hpl H rest n a c es st hn hl
    have hpl1 : r1.plain = true := hpl
    simp only [stM] at hn hl
    have l1 := bldM_len r1 hpl1 (n + 1)
    have i1 := bldM_in r1 hpl1 (n + 1)
    refine FnOk.of_vc Tryz.func138 rfl (Tryz.call138 _) ?_
    (conv => whnf); refine fa fl246_2 ?_
    (conv => whnf); refine ld1 (v := .int .i64 0) ct24 (by rw [(st.blk 0 rfl).cell]; rfl) trivial ?_
    (conv => whnf); refine vta_no Tryz.underlying98 (by intro ms h; cases h) node_z1 (by decide) ?_
    (conv => whnf); refine vta_no Tryz.underlying104 (by intro ms h; cases h) node_z2 (by decide) ?_
    (conv => whnf); refine vta_no Tryz.underlying105 (by intro ms h; cases h) node_z3 (by decide) ?_
    (conv => whnf); refine vta_no Tryz.underlying305 (by intro ms h; cases h) node_z4 (by decide) ?_
    (conv => whnf); refine vta_yes Tryz.underlying310 (by intro ms h; cases h) ?_
    (conv => whnf); refine valloc _ [.nilIface] node_z5 rfl ?_
    intro x H1 hx hs1 hb1 ha1
    have st1 : StB B H0 H1 (pB 310 x [.nilIface] :: pB tBd bb (bdL n (.slice a es.length c) sub) :: pS tEd 174 a es.length c es :: rest) := (st.box hx hs1 hb1 ha1).perm (List.perm_append_singleton _ _)
    (conv => whnf); refine stNB (cs := [nodeV r1]) st1 0 rfl rfl (Nat.le_refl _) (by simp [nodeV_one]) fun H2 st2 => ?_
    rw [splice_all (show [nodeV r1].length = 1 from rfl)] at st2
    have st3 : StB B H0 H2 (pB tBd bb (bdL n (.slice a es.length c) sub) :: pS tEd 174 a es.length c es :: pB 310 x [nodeV r1] :: rest) := st2.pickN 3 [1, 2, 0] (by decide)
    (conv => whnf); refine bstate_v st3 (by omega) fun H4 st4 => ?_
    (conv => whnf); refine fa fl310_0 ?_
    (conv => whnf); refine ld1 (v := nodeV r1) ct28 (by rw [(st4.blk 2 rfl).cell]; rfl) trivial ?_
    (conv => whnf); refine VCall.mk (ih1 hpl1 st4 (by omega) (by omega)) ?_
    rintro _ H5 ⟨rfl, a5, c5, st5⟩
    (conv => whnf); refine bstate_v st5 (by omega) fun H7 st7 => ?_
    (conv => whnf); refine bsil_v st7 (by omega) (by omega) (by simp only [List.length_append]; omega) fun a8 c8 H8 st8 => ?_
    (conv => whnf); refine bsil_v st8 (by omega) (by omega) (by simp only [List.length_append, List.length_cons, List.length_nil]; omega) fun a9 c9 H9 st9 => ?_
    (conv => whnf); refine bsil_v st9 (by omega) (by omega) (by simp only [List.length_append, List.length_cons, List.length_nil]; omega) fun a10 c10 H10 st10 => ?_
    (conv => whnf); refine bsil_v st10 (by omega) (by omega) (by simp only [List.length_append, List.length_cons, List.length_nil]; omega) fun a11 c11 H11 st11 => ?_
    (conv => whnf)
    have e1 : es ++ (bldM r1 (n + 1)).2.2 ++ [silE n (bldM r1 (n + 1)).1] ++ [silE n (n + 1 + stM r1)] ++ [silE (bldM r1 (n + 1)).2.1 (bldM r1 (n + 1)).1] ++ [silE (bldM r1 (n + 1)).2.1 (n + 1 + stM r1)] = es ++ (bldM (.star r1) n).2.2 := by simp [bldM]
    rw [e1, show n + 1 + stM r1 + 1 = n + stM (.star r1) by simp only [stM]; omega] at st11
    exact ⟨rfl, a11, c11, st11.pickN 3 [0, 1] (by decide)⟩
  | and_ => intro h; cases h
  | minus => intro h; cases h
end Go.Proofs.YtfbghcpdinlmcaaGreatDoor
/- The document's Begin, Go, Reach, Accepts of nondeterministic automata: the walks. -/
set_option linter.unusedVariables false
set_option linter.unusedSimpArgs false
set_option maxRecDepth 100000
namespace Go.VC
section
variable {α : Type} {T : Ty α} {e : TypeId} {a : Option Addr} {n cap : Nat} {xs ys : List α} {B S : Nat → Prop} {H0 H : Heap} {ps : List Pc}
end
end Go.VC
namespace Go.Proofs.YtfbghcpdinlmcaaGreatDoor
open Go.VC
/-! ### settled -/
/-- What has been gathered. -/
structure GthR (a : NfM) (L out : List Int) : Prop where
  nd : out.Nodup
  sub : ∀ q ∈ L, q ∈ out
  cl : ∀ q ∈ out, clS a (· ∈ L) q
end Go.Proofs.YtfbghcpdinlmcaaGreatDoor
/- The document's Reach and Accepts, nfa.Accepts: the walks. -/
set_option linter.unusedVariables false
set_option linter.unusedSimpArgs false
set_option maxRecDepth 100000
namespace Go.Proofs.YtfbghcpdinlmcaaGreatDoor
open Go.VC
/-! ### nfa.Accepts -/
end Go.Proofs.YtfbghcpdinlmcaaGreatDoor
/- Trees of texts; Size, Text, Build over trees without signs: the walks. -/
set_option linter.unusedVariables false
set_option linter.unusedSimpArgs false
set_option maxRecDepth 100000
namespace Go.Proofs.YtfbghcpdinlmcaaGreatDoor
open Go.VC
def nodeT : ReM → TypeId
  | .eps => 98
  | .cls _ => 104
  | .cat _ _ => 105
  | .alt _ _ => 305
  | .star _ => 310
  | .and_ _ _ => 64
  | .minus _ _ => 65
def nodeP : ReM → Value
  | .eps => .agg #[]
  | .cls s => setV s
  | .cat a b => .agg #[nodeV a, nodeV b]
  | .alt a b => .agg #[nodeV a, nodeV b]
  | .star a => .agg #[nodeV a]
  | .and_ a b => .agg #[nodeV a, nodeV b]
  | .minus a b => .agg #[nodeV a, nodeV b]
theorem nodeV_eq (r : ReM) : nodeV r = .iface (nodeT r) (nodeP r) := by cases r <;> rfl
def sizeF : ReM → FuncId
  | .eps => 271
  | .cls _ => 273
  | .cat _ _ => 275
  | .alt _ _ => 278
  | .star _ => 280
  | .and_ _ _ => 266
  | .minus _ _ => 269
theorem size_m (r : ReM) (w : World) : (callMethod (.iface (nodeT r) (nodeP r)) "Size" #[]).run Tryz.prog w = .ok (.enter (sizeF r) #[nodeP r]) w := by
  cases r with
  | eps => exact m_eps_size _ w
  | cls => exact m_cls_size _ w
  | cat => exact m_cat_size _ w
  | alt => exact m_alt_size _ w
  | star => exact m_star_size _ w
  | and_ => exact m_and_size _ w
  | minus => exact m_minus_size _ w
theorem sure_p (r : ReM) (H : Heap) : Pure Tryz.prog 267 #[nodeV r] H (.iface (nodeT r) (nodeP r)) := by
  rw [nodeV_eq]
  refine FnOk.of_vc Tryz.func267 rfl (Tryz.call267 _) ?_
  (conv => whnf); refine ifeq Tryz.underlying28 ?_
  (conv => whnf)
  exact ⟨rfl, Agr.refl _ _⟩
set_option maxHeartbeats 4000000 in
theorem size_p : ∀ (r : ReM), r.nodes ≤ 1000000000 → ∀ (H : Heap), Pure Tryz.prog (sizeF r) #[nodeP r] H (.int .i64 (r.nodes : Int)) := fun r => by
  induction r with
  | eps =>
    intro hn H
    refine FnOk.of_vc Tryz.func271 rfl (Tryz.call271 _) ?_
    (conv => whnf); refine vbox [] rfl ?_
    intro x H1 hx hs1 hb1 ha1
    have st1 := (St.nil H).box hx hs1 hb1 ha1
    (conv => whnf)
    exact ⟨rfl, st1.old⟩
  | cls s =>
    intro hn H
    refine FnOk.of_vc Tryz.func273 rfl (Tryz.call273 _) ?_
    (conv => whnf); refine vbox (setL s) rfl ?_
    intro x H1 hx hs1 hb1 ha1
    have st1 := (St.nil H).box hx hs1 hb1 ha1
    (conv => whnf)
    exact ⟨rfl, st1.old⟩
  | cat a b iha ihb =>
    intro hn H
    simp only [ReM.nodes] at hn
    refine FnOk.of_vc Tryz.func275 rfl (Tryz.call275 _) ?_
    (conv => whnf); refine vbox [nodeV a, nodeV b] rfl ?_
    intro x H1 hx hs1 hb1 ha1
    have st1 := (St.nil H).box hx hs1 hb1 ha1
    have hxl := hb1.lt
    (conv => whnf); refine VDraw.heldZ (Old H1) [] (sq [0,1,5,6] (.f 2 (.f 3 (sq [4] (.f 7 (.f 8 (sq [9] (.f 10 .e)))))))) rfl (by kernel_rfl) ?_
    (conv => whnf); refine fa fl105_0 ?_
    (conv => whnf); refine ld1 (v := nodeV a) ct28 (by rw [hb1.cell]; rfl) hxl ?_
    (conv => whnf); refine fa fl105_1 ?_
    (conv => whnf); refine ld1 (v := nodeV b) ct28 (by rw [hb1.cell]; rfl) hxl ?_
    (conv => whnf); refine pures (sure_p a H1) fun H2 ha2 => ?_
    refine ⟨ha2, ?_⟩
    (conv => whnf); refine VInv.mk (sizeF a) #[nodeP a] (size_m a) (iha (by omega) H2) ?_
    rintro _ H3 ⟨rfl, ha3⟩
    have h13 := ha2.trans (ha3.mono fun k hk => old_lt ha2 hk)
    refine ⟨h13, ?_⟩
    (conv => whnf); rw [w64 (x := 1 + (a.nodes : Int)) (by omega) (by omega)]
    (conv => whnf); refine pures (sure_p b H3) fun H4 ha4 => ?_
    have h14 := h13.trans (ha4.mono fun k hk => old_lt h13 hk)
    refine ⟨h14, ?_⟩
    (conv => whnf); refine VInv.mk (sizeF b) #[nodeP b] (size_m b) (ihb (by omega) H4) ?_
    rintro _ H5 ⟨rfl, ha5⟩
    have h15 := h14.trans (ha5.mono fun k hk => old_lt h14 hk)
    refine ⟨h15, ?_⟩
    (conv => whnf); rw [w64 (x := 1 + (a.nodes : Int) + (b.nodes : Int)) (by omega) (by omega)]
    refine ⟨h15, ?_⟩
    (conv => whnf)
    exact ⟨by simp only [ReM.nodes]; simp, st1.old.trans (h15.mono fun k hk => st1.up hk)⟩
  | alt a b iha ihb =>
    intro hn H
    simp only [ReM.nodes] at hn
    refine FnOk.of_vc Tryz.func278 rfl (Tryz.call278 _) ?_
    (conv => whnf); refine vbox [nodeV a, nodeV b] rfl ?_
    intro x H1 hx hs1 hb1 ha1
    have st1 := (St.nil H).box hx hs1 hb1 ha1
    have hxl := hb1.lt
    (conv => whnf); refine VDraw.heldZ (Old H1) [] (sq [0,1,5,6] (.f 2 (.f 3 (sq [4] (.f 7 (.f 8 (sq [9] (.f 10 .e)))))))) rfl (by kernel_rfl) ?_
    (conv => whnf); refine fa fl305_0 ?_
    (conv => whnf); refine ld1 (v := nodeV a) ct28 (by rw [hb1.cell]; rfl) hxl ?_
    (conv => whnf); refine fa fl305_1 ?_
    (conv => whnf); refine ld1 (v := nodeV b) ct28 (by rw [hb1.cell]; rfl) hxl ?_
    (conv => whnf); refine pures (sure_p a H1) fun H2 ha2 => ?_
    refine ⟨ha2, ?_⟩
    (conv => whnf); refine VInv.mk (sizeF a) #[nodeP a] (size_m a) (iha (by omega) H2) ?_
    rintro _ H3 ⟨rfl, ha3⟩
    have h13 := ha2.trans (ha3.mono fun k hk => old_lt ha2 hk)
    refine ⟨h13, ?_⟩
    (conv => whnf); rw [w64 (x := 1 + (a.nodes : Int)) (by omega) (by omega)]
    (conv => whnf); refine pures (sure_p b H3) fun H4 ha4 => ?_
    have h14 := h13.trans (ha4.mono fun k hk => old_lt h13 hk)
    refine ⟨h14, ?_⟩
    (conv => whnf); refine VInv.mk (sizeF b) #[nodeP b] (size_m b) (ihb (by omega) H4) ?_
    rintro _ H5 ⟨rfl, ha5⟩
    have h15 := h14.trans (ha5.mono fun k hk => old_lt h14 hk)
    refine ⟨h15, ?_⟩
    (conv => whnf); rw [w64 (x := 1 + (a.nodes : Int) + (b.nodes : Int)) (by omega) (by omega)]
    refine ⟨h15, ?_⟩
    (conv => whnf)
    exact ⟨by simp only [ReM.nodes]; simp, st1.old.trans (h15.mono fun k hk => st1.up hk)⟩
  | star a iha =>
    intro hn H
    simp only [ReM.nodes] at hn
    refine FnOk.of_vc Tryz.func280 rfl (Tryz.call280 _) ?_
    (conv => whnf); refine vbox [nodeV a] rfl ?_
    intro x H1 hx hs1 hb1 ha1
    have st1 := (St.nil H).box hx hs1 hb1 ha1
    (conv => whnf); refine fa fl310_0 ?_
    (conv => whnf); refine ld1 (v := nodeV a) ct28 (by rw [hb1.cell]; rfl) trivial ?_
    (conv => whnf); refine pures (sure_p a H1) fun H2 ha2 => ?_
    have st2 := st1.call ha2
    (conv => whnf); refine VInv.mk (sizeF a) #[nodeP a] (size_m a) (iha (by omega) H2) ?_
    rintro _ H3 ⟨rfl, ha3⟩
    have st3 := st2.call ha3
    (conv => whnf); rw [w64 (x := 1 + (a.nodes : Int)) (by omega) (by omega)]
    (conv => whnf)
    exact ⟨by simp only [ReM.nodes]; simp, st3.old⟩
  | and_ a b iha ihb =>
    intro hn H
    simp only [ReM.nodes] at hn
    refine FnOk.of_vc Tryz.func266 rfl (Tryz.call266 _) ?_
    (conv => whnf); refine vbox [nodeV a, nodeV b] rfl ?_
    intro x H1 hx hs1 hb1 ha1
    have st1 := (St.nil H).box hx hs1 hb1 ha1
    have hxl := hb1.lt
    (conv => whnf); refine VDraw.heldZ (Old H1) [] (sq [0,1,5,6] (.f 2 (.f 3 (sq [4] (.f 7 (.f 8 (sq [9] (.f 10 .e)))))))) rfl (by kernel_rfl) ?_
    (conv => whnf); refine fa fl64_0 ?_
    (conv => whnf); refine ld1 (v := nodeV a) ct28 (by rw [hb1.cell]; rfl) hxl ?_
    (conv => whnf); refine fa fl64_1 ?_
    (conv => whnf); refine ld1 (v := nodeV b) ct28 (by rw [hb1.cell]; rfl) hxl ?_
    (conv => whnf); refine pures (sure_p a H1) fun H2 ha2 => ?_
    refine ⟨ha2, ?_⟩
    (conv => whnf); refine VInv.mk (sizeF a) #[nodeP a] (size_m a) (iha (by omega) H2) ?_
    rintro _ H3 ⟨rfl, ha3⟩
    have h13 := ha2.trans (ha3.mono fun k hk => old_lt ha2 hk)
    refine ⟨h13, ?_⟩
    (conv => whnf); rw [w64 (x := 1 + (a.nodes : Int)) (by omega) (by omega)]
    (conv => whnf); refine pures (sure_p b H3) fun H4 ha4 => ?_
    have h14 := h13.trans (ha4.mono fun k hk => old_lt h13 hk)
    refine ⟨h14, ?_⟩
    (conv => whnf); refine VInv.mk (sizeF b) #[nodeP b] (size_m b) (ihb (by omega) H4) ?_
    rintro _ H5 ⟨rfl, ha5⟩
    have h15 := h14.trans (ha5.mono fun k hk => old_lt h14 hk)
    refine ⟨h15, ?_⟩
    (conv => whnf); rw [w64 (x := 1 + (a.nodes : Int) + (b.nodes : Int)) (by omega) (by omega)]
    refine ⟨h15, ?_⟩
    (conv => whnf)
    exact ⟨by simp only [ReM.nodes]; simp, st1.old.trans (h15.mono fun k hk => st1.up hk)⟩
  | minus a b iha ihb =>
    intro hn H
    simp only [ReM.nodes] at hn
    refine FnOk.of_vc Tryz.func269 rfl (Tryz.call269 _) ?_
    (conv => whnf); refine vbox [nodeV a, nodeV b] rfl ?_
    intro x H1 hx hs1 hb1 ha1
    have st1 := (St.nil H).box hx hs1 hb1 ha1
    have hxl := hb1.lt
    (conv => whnf); refine VDraw.heldZ (Old H1) [] (sq [0,1,5,6] (.f 2 (.f 3 (sq [4] (.f 7 (.f 8 (sq [9] (.f 10 .e)))))))) rfl (by kernel_rfl) ?_
    (conv => whnf); refine fa fl65_0 ?_
    (conv => whnf); refine ld1 (v := nodeV a) ct28 (by rw [hb1.cell]; rfl) hxl ?_
    (conv => whnf); refine fa fl65_1 ?_
    (conv => whnf); refine ld1 (v := nodeV b) ct28 (by rw [hb1.cell]; rfl) hxl ?_
    (conv => whnf); refine pures (sure_p a H1) fun H2 ha2 => ?_
    refine ⟨ha2, ?_⟩
    (conv => whnf); refine VInv.mk (sizeF a) #[nodeP a] (size_m a) (iha (by omega) H2) ?_
    rintro _ H3 ⟨rfl, ha3⟩
    have h13 := ha2.trans (ha3.mono fun k hk => old_lt ha2 hk)
    refine ⟨h13, ?_⟩
    (conv => whnf); rw [w64 (x := 1 + (a.nodes : Int)) (by omega) (by omega)]
    (conv => whnf); refine pures (sure_p b H3) fun H4 ha4 => ?_
    have h14 := h13.trans (ha4.mono fun k hk => old_lt h13 hk)
    refine ⟨h14, ?_⟩
    (conv => whnf); refine VInv.mk (sizeF b) #[nodeP b] (size_m b) (ihb (by omega) H4) ?_
    rintro _ H5 ⟨rfl, ha5⟩
    have h15 := h14.trans (ha5.mono fun k hk => old_lt h14 hk)
    refine ⟨h15, ?_⟩
    (conv => whnf); rw [w64 (x := 1 + (a.nodes : Int) + (b.nodes : Int)) (by omega) (by omega)]
    refine ⟨h15, ?_⟩
    (conv => whnf)
    exact ⟨by simp only [ReM.nodes]; simp, st1.old.trans (h15.mono fun k hk => st1.up hk)⟩
/-! ### Build -/
theorem stM_nodes : ∀ r : ReM, stM r ≤ 2 * r.nodes
  | .eps => by simp [stM, ReM.nodes]
  | .cls _ => by simp [stM, ReM.nodes]
  | .cat a b => by have := stM_nodes a; have := stM_nodes b; simp only [stM, ReM.nodes]; omega
  | .alt a b => by have := stM_nodes a; have := stM_nodes b; simp only [stM, ReM.nodes]; omega
  | .star a => by have := stM_nodes a; simp only [stM, ReM.nodes]; omega
  | .and_ a b => by simp [stM]
  | .minus a b => by simp [stM]
def nfaOf (r : ReM) : NfM := ⟨(stM r : Int), ((bldM r 0).1 : Int), ((bldM r 0).2.1 : Int), (bldM r 0).2.2⟩
def zeroNf : Value := .agg #[.int .i64 0, .int .i64 0, .int .i64 0, .slice none 0 0]
/-- What Build of a plain tree answers. -/
def BldR (H H' : Heap) (r : ReM) (v : Value) : Prop := Agr (Old H) H H' ∧ if 2000 < r.nodes then v = .tuple #[zeroNf, .int .i64 24] else
  ∃ ea ec, v = .tuple #[.agg (nfL (nfaOf r) (.slice ea (nfaOf r).edges.length ec)).toArray, .int .i64 0] ∧ SlO tEd none_ H' H.size 174 (.slice ea (nfaOf r).edges.length ec) (nfaOf r).edges
theorem bd_z : (Tryz.prog.info? 246).bind (·.zero) = some (.agg #[.int .i64 0, .int .i64 0, .int .i64 0, .slice none 0 0, .nilFunc, .int .i64 0]) := rfl
/-! ### texts -/
def ofB (x : BitVec 256) (l : List Nat) : BitVec 256 := l.foldl (fun x b => x ||| BitVec.twoPow 256 b) x
set_option maxHeartbeats 4000000 in
theorem of_p (s : ByteArray) (hs : s.size ≤ 1048576) (H : Heap) : Pure Tryz.prog 48 #[.string s] H (setV (ofB 0#256 (byN s))) := by
  refine FnOk.of_vc Tryz.func48 rfl (Tryz.call48 _) ?_
  (conv => whnf); refine valloc (setV 0) (setL 0) rfl rfl ?_
  intro r H1 hr hs1 hb1 ha1
  have st1 := (St.nil H).box hr hs1 hb1 ha1
  (conv => whnf); refine valloc (setV 0) (setL 0) rfl rfl ?_
  intro p H2 hp hs2 hb2 ha2
  have st2 := st1.box hp hs2 hb2 ha2
  (conv => whnf)
  refine VLoop.mk [7] (fun i : Nat => [.int .i64 (i : Int)]) (fun i H3 => i ≤ s.size ∧ St H H3 [pB 101 r (setL 0), pB 101 p (setL (ofB 0#256 ((byN s).take i)))]) (fun i _ => s.size - i) ?_ ?_
  · (conv => whnf)
    exact ⟨0, rfl, Nat.zero_le _, st2⟩
  · rintro i H3 junk ⟨hi, st3⟩
    (conv => whnf); refine VIte.mk (fun h => ?_) (fun h => ?_) <;> simp only [decide_eq_true_eq, decide_eq_false_iff_not] at h
    · obtain ⟨c, hc⟩ := getB (s := s) (k := i) (by omega)
      obtain ⟨b, hb⟩ : ∃ b, b = c.toNat := ⟨_, rfl⟩
      have hb256 : b < 256 := by rw [hb]; exact UInt8.toNat_lt c
      obtain ⟨x, hx⟩ : ∃ x, x = ofB 0#256 ((byN s).take i) := ⟨_, rfl⟩
      have hnext : ofB 0#256 ((byN s).take (i + 1)) = x ||| BitVec.twoPow 256 b := by
        rw [take_succ_snoc (byN_get hc), hx, hb]
        unfold ofB
        rw [List.foldl_append]
        rfl
      rw [← hx] at st3
      have hbp := st3.blk 1 rfl
      have hpl := (st3.in_ 1 rfl rfl).2
      (conv => whnf); refine VDraw.heldZ (Old H3) [13] (sq [0,1,2,3,4,5,6,7,8,9,10,11,12] (.f 13 .e)) rfl (by kernel_rfl) ?_
      (conv => whnf); refine vidxs Tryz.underlying9 rfl hc ?_
      rw [← hb]
      (conv => whnf); refine vshr (b := 6) (by decide) ?_
      (conv => whnf); refine ixa ar101 (by omega) (by omega) ?_
      (conv => whnf); refine ld1 ct99 (v := .int .u64 (wd x (b / 64))) (by rw [hbp.cell, Nat.zero_add, Nat.mul_one]; exact setL_get x b (by omega)) hpl ?_
      (conv => whnf); refine vidxs Tryz.underlying9 rfl hc ?_
      rw [← hb]
      (conv => whnf); refine vand (b := 63) (inU8 hb256) (inU8 (by decide)) ?_
      have hpow : 2 ^ (b % 64) < 2 ^ 64 := Nat.pow_lt_pow_right (by decide) (by omega)
      rw [and63]
      have hin : inK .u64 ((1 * 2 ^ (b % 64) : Nat) : Int) := inU64 (by omega)
      (conv => whnf); refine vshl (a := 1) (by simp [IntKind.bits]; omega) hin ?_
      (conv => whnf); refine vor (wd_in x _) hin ?_
      (conv => whnf); refine ixa ar101 (by omega) (by omega) ?_
      (conv => whnf); refine st1B st3 1 ct99 rfl (by simp [setL]; omega) rfl fun H4 st4 => ?_
      (conv => whnf); rw [w64 (x := (i : Int) + 1) (by omega) (by omega)]
      refine ⟨rfl, i + 1, by simp, ⟨by omega, ?_⟩, by omega⟩
      rw [hnext, ← setL_put x b (by omega)]
      rw [Nat.zero_add, Nat.mul_one, Nat.one_mul] at st4
      exact st4
    · obtain rfl : i = s.size := by omega
      rw [List.take_of_length_le (by rw [byN_len]; exact Nat.le_refl _)] at st3
      generalize ofB 0#256 (byN s) = x at *
      (conv => whnf); refine ldN (cs := setL x) ag101 ((st3.blk 1 rfl).cells fun j v hv => by rw [Nat.zero_add]; exact hv) trivial ?_
      (conv => whnf); refine stNB (cs := setL x) st3 0 rfl rfl (Nat.le_refl _) rfl fun H4 st4 => ?_
      rw [splice_all (show (setL x).length = (setL 0).length from rfl)] at st4
      (conv => whnf); refine ldN (cs := setL x) ag101 ((st4.blk 0 rfl).cells fun j v hv => by rw [Nat.zero_add]; exact hv) trivial ?_
      exact ⟨rfl, st4.old⟩
def oneS (b : Nat) : BitVec 256 := ofB 0#256 [b]
def textR : List Nat → ReM
  | [] => .eps
  | b :: l => l.foldl (fun r c => .cat r (.cls (oneS c))) (.cls (oneS b))
theorem textR_snoc {l : List Nat} (h : l ≠ []) (c : Nat) : textR (l ++ [c]) = .cat (textR l) (.cls (oneS c)) := by
  cases l with
  | nil => exact absurd rfl h
  | cons b l => simp [textR, List.foldl_append]
theorem textR_plain (l : List Nat) : (textR l).plain = true := by
  cases l with
  | nil => rfl
  | cons b l =>
    unfold textR
    have key : ∀ (l : List Nat) (r : ReM), r.plain = true → (l.foldl (fun r c => ReM.cat r (.cls (oneS c))) r).plain = true := by
      intro l
      induction l with
      | nil => exact fun r h => h
      | cons c l ih => exact fun r h => ih _ (by simp [ReM.plain, h])
    exact key l _ rfl
def textV (l : List Nat) : Value := match l with | [] => .nilIface | _ => nodeV (textR l)
theorem ext_one {s : ByteArray} {i : Nat} {c : UInt8} (h : s.data[i]? = some c) : byN (s.extract i (i + 1)) = [c.toNat] := by
  have hi := (Array.getElem?_eq_some_iff.1 h).1
  unfold byN
  rw [ByteArray.data_extract, Array.toList_extract, List.extract_eq_take_drop]
  have : (s.data.toList.drop i).take (i + 1 - i) = [c] := by
    rw [show i + 1 - i = 1 by omega]
    have h2 : s.data.toList[i]? = some c := by rw [Array.getElem?_toList]; exact h
    obtain ⟨h3, h4⟩ := List.getElem?_eq_some_iff.1 h2
    rw [List.drop_eq_getElem_cons h3, h4]
    rfl
  rw [this]
  rfl
set_option maxHeartbeats 8000000 in
theorem text_p (s : ByteArray) (hs : s.size ≤ 1048576) (H : Heap) : Pure Tryz.prog 15 #[.string s] H (nodeV (textR (byN s))) := by
  refine FnOk.of_vc Tryz.func15 rfl (Tryz.call15 _) ?_
  have hbl := byN_len s
  by_cases he : s.size = 0
  · have hnil : byN s = [] := List.eq_nil_of_length_eq_zero (by omega)
    have hse : s = ⟨#[]⟩ := text_inj (by
      have : s.data.toList = [] := List.eq_nil_of_length_eq_zero (by rw [Array.length_toList]; exact he)
      rw [this])
    have d0 : (s.toList == (⟨#[]⟩ : ByteArray).toList) = true := by rw [hse]; simp
    (conv => whnf); rw [d0]
    (conv => whnf); refine vbuildS Tryz.underlying98 rfl _ node_z1 [] rfl ?_
    (conv => whnf)
    exact ⟨by rw [hnil]; rfl, Agr.refl _ _⟩
  · have d0 : (s.toList == (⟨#[]⟩ : ByteArray).toList) = false := by
      cases h : (s.toList == (⟨#[]⟩ : ByteArray).toList) with
      | false => rfl
      | true =>
        rw [text_eq] at h
        rw [h] at he
        exact absurd rfl he
    (conv => whnf); rw [d0]
    (conv => whnf)
    refine VLoop.mk [3, 12] (fun i : Nat => [textV ((byN s).take i), .int .i64 (i : Int)]) (fun i H2 => i ≤ s.size ∧ St H H2 []) (fun i _ => s.size - i) ?_ ?_
    · (conv => whnf)
      exact ⟨0, rfl, Nat.zero_le _, St.nil H⟩
    · rintro i H2 junk ⟨hi, st2⟩
      (conv => whnf); refine VIte.mk (fun hz => ?_) (fun hz => ?_) <;> simp only [decide_eq_true_eq, decide_eq_false_iff_not] at hz
      · obtain ⟨c, hc⟩ := getB (s := s) (k := i) (by omega)
        have w1 : IntKind.wrap .i64 ((i : Int) + 1) = ((i + 1 : Nat) : Int) := by rw [w64 (by omega) (by omega)]; omega
        (conv => whnf); refine VSeq.run ?_
        (conv => whnf); rw [w1]
        (conv => whnf); refine vcutS (l := (i : Int)) (h := ((i + 1 : Nat) : Int)) Tryz.underlying9 (by omega) (by omega) (by omega) ?_
        rw [Int.toNat_natCast, Int.toNat_natCast]
        (conv => whnf); refine pures (of_p (s.extract i (i + 1)) (by simp; omega) H2) fun H3 ha3 => ?_
        have st3 := st2.call ha3
        rw [ext_one hc]
        (conv => whnf); refine vbuildS Tryz.underlying104 rfl _ node_z2 (setL (oneS c.toNat)) (by unfold setL; kernel_rfl) ?_
        (conv => whnf); refine valloc _ [.int .u64 0, .int .u64 0, .int .u64 0, .int .u64 0] node_z2 rfl ?_
        intro x H4 hx hs4 hb4 ha4
        have st4 := st3.box hx hs4 hb4 ha4
        (conv => whnf); refine stNB (cs := setL (oneS c.toNat)) st4 0 rfl rfl (Nat.le_refl _) rfl fun H5 st5 => ?_
        rw [splice_all (show (setL (oneS c.toNat)).length = 4 from rfl)] at st5
        have htk := take_succ_snoc (byN_get hc)
        have hb5 : Cells H5 x 0 (setL (oneS c.toNat)) := (st5.blk 0 rfl).cells fun j v hv => by rw [Nat.zero_add]; exact hv
        by_cases hi0 : i = 0
        · subst hi0
          (conv => whnf); refine ifeqN Tryz.underlying28 ?_
          (conv => whnf); refine ldN (cs := setL (oneS c.toNat)) ag104 hb5 trivial ?_
          (conv => whnf); rw [w1]
          refine ⟨rfl, 0 + 1, ?_, ⟨by omega, st5.pick [] (by decide)⟩, by omega⟩
          rw [htk]
          rfl
        · have hne : (byN s).take i ≠ [] := fun e => by
            have h := congrArg List.length e
            rw [List.length_take, hbl, List.length_nil] at h
            omega
          have htv : textV ((byN s).take i) = .iface (nodeT (textR ((byN s).take i))) (nodeP (textR ((byN s).take i))) := by
            rw [← nodeV_eq]
            cases h : (byN s).take i with
            | nil => exact absurd h hne
            | cons b l => rfl
          have htv2 : textV ((byN s).take (i + 1)) = .iface 105 (.agg #[.iface (nodeT (textR ((byN s).take i))) (nodeP (textR ((byN s).take i))), .iface 104 (setV (oneS c.toNat))]) := by
            have : textV ((byN s).take (i + 1)) = nodeV (textR ((byN s).take (i + 1))) := by
              cases h : (byN s).take (i + 1) with
              | nil =>
                have h9 := congrArg List.length h
                rw [List.length_take, hbl, List.length_nil] at h9
                omega
              | cons b l => rfl
            rw [this, htk, textR_snoc hne, ← nodeV_eq]
            rfl
          rw [htv]
          generalize nodeT (textR ((byN s).take i)) = NT at *
          generalize nodeP (textR ((byN s).take i)) = NP at *
          (conv => whnf); refine ifeq Tryz.underlying28 ?_
          (conv => whnf); refine ldN (cs := setL (oneS c.toNat)) ag104 hb5 trivial ?_
          (conv => whnf); refine vbuildS Tryz.underlying105 rfl _ node_z3 [.iface NT NP, .iface 104 (setV (oneS c.toNat))] rfl ?_
          (conv => whnf); rw [w1]
          refine ⟨rfl, i + 1, ?_, ⟨by omega, st5.pick [] (by decide)⟩, by omega⟩
          rw [htv2]
      · obtain rfl : i = s.size := by omega
        (conv => whnf)
        rw [List.take_of_length_le (by rw [hbl]; exact Nat.le_refl _)]
        refine ⟨?_, st2.old⟩
        cases h : byN s with
        | nil => rw [h] at hbl; simp at hbl; omega
        | cons b l => rfl
end Go.Proofs.YtfbghcpdinlmcaaGreatDoor
/- The automaton of a plain text: its sets of states. Plain law. -/
set_option linter.unusedVariables false
set_option linter.unusedSimpArgs false
set_option maxRecDepth 100000
namespace Go.Proofs.YtfbghcpdinlmcaaGreatDoor
open Go.VC
theorem oneS_bit {c b : Nat} (hb : b < 256) : (oneS c).getLsbD b = decide (b = c) := by
  unfold oneS ofB
  simp only [List.foldl_cons, List.foldl_nil]
  rw [BitVec.getLsbD_or, BitVec.getLsbD_twoPow]
  rw [Bool.eq_iff_iff]
  simp
  constructor
  · rintro ⟨-, h⟩; exact h.symm
  · rintro rfl; exact ⟨hb, rfl⟩
/-- The edges of a text's automaton. -/
theorem text_edges : ∀ (l : List Nat), l ≠ [] → stM (textR l) = 2 * l.length ∧ (bldM (textR l) 0).1 = 0 ∧ (bldM (textR l) 0).2.1 = 2 * l.length - 1 ∧
    ∀ e, e ∈ (bldM (textR l) 0).2.2 ↔ (∃ (i c : Nat), l[i]? = some c ∧ e = setE (2 * i) (2 * i + 1) (oneS c)) ∨ ∃ i : Nat, i + 1 < l.length ∧ e = silE (2 * i + 1) (2 * i + 2) := fun l => by
  induction l using snocInd with
  | h0 => exact fun h => absurd rfl h
  | hs l c ih =>
    intro _
    by_cases hl : l = []
    · subst hl
      refine ⟨rfl, rfl, rfl, fun e => ?_⟩
      show e ∈ [setE 0 1 (oneS c)] ↔ _
      rw [List.mem_singleton]
      constructor
      · rintro rfl
        exact .inl ⟨0, c, rfl, rfl⟩
      · rintro (⟨i, d, h1, rfl⟩ | ⟨i, h1, rfl⟩)
        · have := (List.getElem?_eq_some_iff.1 h1).1
          obtain rfl : i = 0 := by simpa using this
          cases h1
          rfl
        · simp at h1
    · obtain ⟨h1, h2, h3, h4⟩ := ih hl
      have hpos : 0 < l.length := List.length_pos_iff.2 hl
      rw [textR_snoc hl]
      refine ⟨?_, ?_, ?_, fun e => ?_⟩
      · show stM (textR l) + 2 = _
        rw [h1, List.length_append, List.length_singleton]; omega
      · exact h2
      · show 0 + stM (textR l) + 1 = _
        rw [h1, List.length_append, List.length_singleton]; omega
      · show e ∈ (bldM (textR l) 0).2.2 ++ [setE (0 + stM (textR l)) (0 + stM (textR l) + 1) (oneS c)] ++ [silE (bldM (textR l) 0).2.1 (0 + stM (textR l))] ↔ _
        rw [List.mem_append, List.mem_append, List.mem_singleton, List.mem_singleton, h4, h1, h3, Nat.zero_add]
        constructor
        · rintro (((⟨i, d, k1, rfl⟩ | ⟨i, k1, rfl⟩) | rfl) | rfl)
          · exact .inl ⟨i, d, by rw [List.getElem?_append_left (List.getElem?_eq_some_iff.1 k1).1]; exact k1, rfl⟩
          · exact .inr ⟨i, by rw [List.length_append]; omega, rfl⟩
          · exact .inl ⟨l.length, c, by simp, rfl⟩
          · refine .inr ⟨l.length - 1, by rw [List.length_append, List.length_singleton]; omega, ?_⟩
            rw [show 2 * (l.length - 1) + 1 = 2 * l.length - 1 by omega, show 2 * (l.length - 1) + 2 = 2 * l.length by omega]
        · rintro (⟨i, d, k1, rfl⟩ | ⟨i, k1, rfl⟩)
          · by_cases hi : i < l.length
            · rw [List.getElem?_append_left hi] at k1
              exact .inl (.inl (.inl ⟨i, d, k1, rfl⟩))
            · have := (List.getElem?_eq_some_iff.1 k1).1
              rw [List.length_append, List.length_singleton] at this
              obtain rfl : i = l.length := by omega
              simp at k1
              subst k1
              exact .inl (.inr rfl)
          · rw [List.length_append, List.length_singleton] at k1
            by_cases hi : i + 1 < l.length
            · exact .inl (.inl (.inr ⟨i, hi, rfl⟩))
            · obtain rfl : i = l.length - 1 := by omega
              refine .inr ?_
              rw [show 2 * (l.length - 1) + 1 = 2 * l.length - 1 by omega, show 2 * (l.length - 1) + 2 = 2 * l.length by omega]
/-- The states behind i bytes of a text of n. -/
def txS (n i : Nat) : PS := fun q => if n = 0 then q = 0 ∨ q = 1 else (0 < i ∧ q = 2 * (i : Int) - 1) ∨ (i < n ∧ q = 2 * (i : Int))
noncomputable def txL (n i : Nat) : List Int := lstS (txS n i)
theorem txS_rng {n i : Nat} (hn : n ≤ 30000) (hi : i ≤ n) : ∀ q, txS n i q → 0 ≤ q ∧ q < 65536 := fun q h => by
  unfold txS at h
  split at h
  · omega
  · omega
theorem txL_mem {n i : Nat} (hn : n ≤ 30000) (hi : i ≤ n) (q : Int) : q ∈ txL n i ↔ txS n i q := lstS_mem (txS_rng hn hi) q
theorem txL_ne {n i j : Nat} (hn : n ≤ 30000) (hi : i < j) (hj : j ≤ n) : txL n i ≠ txL n j := fun e => by
  have h1 : (2 * (i : Int)) ∈ txL n i := (txL_mem hn (by omega) _).2 (by unfold txS; rw [if_neg (by omega)]; exact .inr ⟨by omega, rfl⟩)
  rw [e, txL_mem hn hj] at h1
  unfold txS at h1
  rw [if_neg (by omega)] at h1
  omega
theorem txL_nil {n i : Nat} (hn : n ≤ 30000) (hi : i ≤ n) : txL n i ≠ [] := fun e => by
  have h1 : ∃ q, q ∈ txL n i := by
    by_cases h0 : n = 0
    · exact ⟨0, (txL_mem hn hi _).2 (by unfold txS; rw [if_pos h0]; exact .inl rfl)⟩
    · by_cases h : i < n
      · exact ⟨2 * (i : Int), (txL_mem hn hi _).2 (by unfold txS; rw [if_neg h0]; exact .inr ⟨h, rfl⟩)⟩
      · exact ⟨2 * (i : Int) - 1, (txL_mem hn hi _).2 (by unfold txS; rw [if_neg h0]; exact .inl ⟨by omega, rfl⟩)⟩
  obtain ⟨q, hq⟩ := h1
  rw [e] at hq
  cases hq
section
variable {l : List Nat}
theorem text_nil : nfaOf (textR []) = ⟨2, 0, 1, [silE 0 1]⟩ := rfl
theorem text_st (hl : l ≠ []) : (nfaOf (textR l)).st = 2 * (l.length : Int) := by
  show ((stM (textR l) : Nat) : Int) = _
  rw [(text_edges l hl).1]; omega
theorem text_has (hn : l.length ≤ 30000) {q : Int} : (nfaOf (textR l)).has q = true ↔ 0 ≤ q ∧ q < if l = [] then 2 else 2 * (l.length : Int) := by
  rw [NfM.has_iff]
  by_cases hl : l = []
  · subst hl
    rw [text_nil]
    simp
  · rw [text_st hl, if_neg hl]
    constructor
    · rintro ⟨h1, h2, -⟩; exact ⟨h1, h2⟩
    · rintro ⟨h1, h2⟩; exact ⟨h1, h2, by omega⟩
theorem text_edge (hl : l ≠ []) (e : EdM) : e ∈ (nfaOf (textR l)).edges ↔ (∃ (i c : Nat), l[i]? = some c ∧ e = setE (2 * i) (2 * i + 1) (oneS c)) ∨ ∃ i : Nat, i + 1 < l.length ∧ e = silE (2 * i + 1) (2 * i + 2) := (text_edges l hl).2.2.2 e
theorem text_beg (hn : l.length ≤ 30000) (q : Int) : begS (nfaOf (textR l)) q ↔ txS l.length 0 q := by
  by_cases hl : l = []
  · subst hl
    unfold txS
    rw [if_pos (show ([] : List Nat).length = 0 from rfl)]
    constructor
    · refine clS_least (Y := fun q => q = 0 ∨ q = 1) (fun q h => .inl h.1) (fun e he hs ht h => ?_) q
      rw [text_nil, List.mem_singleton] at he
      subst he
      exact .inr rfl
    · have h0 : begS (nfaOf (textR [])) 0 := clS_in ⟨rfl, (text_has (by simp)).2 (by decide)⟩
      rintro (rfl | rfl)
      · exact h0
      · exact clS_shut _ _ (silE 0 1) (List.mem_singleton.2 rfl) rfl ((text_has (by simp)).2 (by decide)) h0
  · have hpos : 0 < l.length := List.length_pos_iff.2 hl
    have h0 : (nfaOf (textR l)).start = 0 := by
      show (((bldM (textR l) 0).1 : Nat) : Int) = 0
      rw [(text_edges l hl).2.1]; rfl
    unfold txS
    rw [if_neg (by omega)]
    constructor
    · intro h
      refine .inr ⟨hpos, ?_⟩
      refine clS_least (Y := fun q => q = 2 * ((0 : Nat) : Int)) (fun q h => by rw [h.1, h0]; rfl) (fun e he hs ht h => ?_) q h
      rcases (text_edge hl e).1 he with ⟨i, c, -, rfl⟩ | ⟨i, -, rfl⟩
      · cases hs
      · have h : ((2 * i + 1 : Nat) : Int) = 2 * ((0 : Nat) : Int) := h
        omega
    · rintro (⟨h, -⟩ | ⟨-, rfl⟩)
      · omega
      · exact clS_in ⟨by rw [h0]; rfl, by rw [h0]; exact (text_has hn).2 ⟨Int.le_refl _, by rw [if_neg hl]; omega⟩⟩
theorem text_go (hn : l.length ≤ 30000) (hb8 : ∀ c ∈ l, c < 256) {i b : Nat} (hi : i ≤ l.length) (hb : b < 256) (q : Int) : goS (nfaOf (textR l)) (txS l.length i) b q ↔ l[i]? = some b ∧ txS l.length (i + 1) q := by
  by_cases hl : l = []
  · subst hl
    simp only [List.getElem?_nil, reduceCtorEq, false_and, iff_false]
    intro h
    refine clS_least (Y := fun _ => False) (fun q h => ?_) (fun e he hs ht h => h) q h
    obtain ⟨e, he, hs, -⟩ := h
    rw [text_nil, List.mem_singleton] at he
    subst he
    cases hs
  · have hpos : 0 < l.length := List.length_pos_iff.2 hl
    have hle := text_edge hl
    constructor
    · intro h
      refine clS_least (Y := fun q => l[i]? = some b ∧ txS l.length (i + 1) q) (fun q h => ?_) (fun e he hs ht h => ?_) q h
      · obtain ⟨e, he, hs, hbit, hX, hh, rfl⟩ := h
        rcases (hle e).1 he with ⟨j, c, hj, rfl⟩ | ⟨j, -, rfl⟩
        · have hbit : (oneS c).getLsbD b = true := hbit
          rw [oneS_bit hb, decide_eq_true_eq] at hbit
          subst hbit
          unfold txS at hX
          rw [if_neg (by omega)] at hX
          have hX : (0 < i ∧ ((2 * j : Nat) : Int) = 2 * (i : Int) - 1) ∨ (i < l.length ∧ ((2 * j : Nat) : Int) = 2 * (i : Int)) := hX
          obtain rfl : j = i := by omega
          refine ⟨hj, ?_⟩
          unfold txS
          rw [if_neg (by omega)]
          refine .inl ⟨by omega, ?_⟩
          show ((2 * j + 1 : Nat) : Int) = 2 * ((j + 1 : Nat) : Int) - 1
          omega
        · cases hs
      · obtain ⟨h1, h2⟩ := h
        refine ⟨h1, ?_⟩
        rcases (hle e).1 he with ⟨j, c, hj, rfl⟩ | ⟨j, hj, rfl⟩
        · cases hs
        · unfold txS at h2 ⊢
          rw [if_neg (by omega)] at h2 ⊢
          have h2 : (0 < i + 1 ∧ ((2 * j + 1 : Nat) : Int) = 2 * ((i + 1 : Nat) : Int) - 1) ∨ (i + 1 < l.length ∧ ((2 * j + 1 : Nat) : Int) = 2 * ((i + 1 : Nat) : Int)) := h2
          obtain rfl : j = i := by omega
          refine .inr ⟨hj, ?_⟩
          show ((2 * j + 2 : Nat) : Int) = 2 * ((j + 1 : Nat) : Int)
          omega
    · rintro ⟨h1, h2⟩
      have hil := (List.getElem?_eq_some_iff.1 h1).1
      have hto : (nfaOf (textR l)).has (((2 * i + 1 : Nat) : Int)) = true := (text_has hn).2 ⟨by omega, by rw [if_neg hl]; omega⟩
      have hbase : goS (nfaOf (textR l)) (txS l.length i) b (((2 * i + 1 : Nat) : Int)) := clS_in ⟨setE (2 * i) (2 * i + 1) (oneS b), (hle _).2 (.inl ⟨i, b, h1, rfl⟩), rfl, by
        show (oneS b).getLsbD b = true
        rw [oneS_bit hb]; simp, by
        show txS l.length i (((2 * i : Nat) : Int))
        unfold txS
        rw [if_neg (by omega)]
        exact .inr ⟨hil, by omega⟩, hto, rfl⟩
      unfold txS at h2
      rw [if_neg (by omega)] at h2
      rcases h2 with ⟨-, h2⟩ | ⟨h3, h2⟩
      · rw [h2, show 2 * ((i + 1 : Nat) : Int) - 1 = ((2 * i + 1 : Nat) : Int) by omega]
        exact hbase
      · rw [h2, show 2 * ((i + 1 : Nat) : Int) = ((2 * i + 2 : Nat) : Int) by omega]
        exact clS_shut _ _ (silE (2 * i + 1) (2 * i + 2)) ((hle _).2 (.inr ⟨i, h3, rfl⟩)) rfl ((text_has hn).2 ⟨by
          show (0 : Int) ≤ ((2 * i + 2 : Nat) : Int); omega, by
          show ((2 * i + 2 : Nat) : Int) < _
          rw [if_neg hl]; omega⟩) hbase
theorem text_begL (hn : l.length ≤ 30000) : begL (nfaOf (textR l)) = txL l.length 0 := by
  show lstS _ = lstS _
  rw [show begS (nfaOf (textR l)) = txS l.length 0 from funext fun q => propext (text_beg hn q)]
theorem text_step (hn : l.length ≤ 30000) (hb8 : ∀ c ∈ l, c < 256) {i b : Nat} (hi : i ≤ l.length) (hb : b < 256) : stepA (nfaOf (textR l)) (txL l.length i) b = if l[i]? = some b then txL l.length (i + 1) else [] := by
  unfold stepA
  have e : (fun q => q ∈ txL l.length i) = txS l.length i := funext fun q => propext (txL_mem hn hi q)
  rw [e]
  have e2 : goS (nfaOf (textR l)) (txS l.length i) b = fun q => l[i]? = some b ∧ txS l.length (i + 1) q := funext fun q => propext (text_go hn hb8 hi hb q)
  rw [e2]
  split
  · rename_i h
    unfold txL
    congr 1
    funext q
    exact propext ⟨fun h => h.2, fun h' => ⟨h, h'⟩⟩
  · rename_i h
    unfold lstS
    rw [List.filter_eq_nil_iff]
    intro q _
    simp [h]
theorem nil_step (a : NfM) (b : Nat) : stepA a [] b = [] := by
  have h : ∀ q, goS a (fun q => q ∈ ([] : List Int)) b q → False := clS_least (Y := fun _ => False) (fun q ⟨e, _, _, _, hx, _⟩ => by cases hx) fun e _ _ _ h => h
  rw [List.eq_nil_iff_forall_not_mem]
  intro q hq
  exact h q ((lstS_mem (has_rng (goS_has a _ b)) q).1 hq)
end
theorem nodup_sub {K : Type} [DecidableEq K] : ∀ {L M : List K}, L.Nodup → (∀ x ∈ L, x ∈ M) → L.length ≤ M.length
  | [], M, _, _ => Nat.zero_le _
  | x :: L, M, hn, h => by
    have h1 := List.nodup_cons.1 hn
    have h2 := nodup_sub (M := M.erase x) h1.2 fun y hy => (List.mem_erase_of_ne fun e : y = x => h1.1 (by rw [← e]; exact hy)).2 (h y (by simp [hy]))
    have h3 := h x (by simp)
    have h4 := List.length_erase_of_mem h3
    have h5 := List.length_pos_of_mem h3
    rw [List.length_cons]
    omega
/-- All sets that words lead to. -/
noncomputable def txAll (n : Nat) : List (List Int) := [] :: (List.range (n + 1)).map (txL n)
theorem txAll_len (n : Nat) : (txAll n).length = n + 2 := by simp [txAll]
theorem txAll_nd {n : Nat} (hn : n ≤ 30000) : (txAll n).Nodup := by
  unfold txAll
  refine List.nodup_cons.2 ⟨fun h => ?_, ?_⟩
  · obtain ⟨i, hi, e⟩ := List.mem_map.1 h
    have := List.mem_range.1 hi
    exact txL_nil hn (by omega) e
  · unfold List.Nodup
    rw [List.pairwise_map]
    refine List.pairwise_iff_getElem.2 fun i j hi hj hij => ?_
    rw [List.length_range] at hi hj
    rw [List.getElem_range, List.getElem_range]
    exact txL_ne hn hij (by omega)
theorem txAll_in {n i : Nat} (hi : i ≤ n) : txL n i ∈ txAll n := List.mem_cons_of_mem _ (List.mem_map.2 ⟨i, List.mem_range.2 (by omega), rfl⟩)
section
variable {l : List Nat}
theorem txAll_step (hn : l.length ≤ 30000) (hb8 : ∀ c ∈ l, c < 256) {x : List Int} (hx : x ∈ txAll l.length) {b : Nat} (hb : b < 256) : stepA (nfaOf (textR l)) x b ∈ txAll l.length := by
  rcases List.mem_cons.1 hx with rfl | hx
  · rw [nil_step]; exact List.mem_cons_self
  · obtain ⟨i, hi, rfl⟩ := List.mem_map.1 hx
    have hi := List.mem_range.1 hi
    rw [text_step hn hb8 (by omega) hb]
    split
    · rename_i h
      have := (List.getElem?_eq_some_iff.1 h).1
      exact txAll_in (by omega)
    · exact List.mem_cons_self
end
end Go.Proofs.YtfbghcpdinlmcaaGreatDoor
/- dfa.Determinize with a budget that may not be: the walk. -/
set_option linter.unusedVariables false
set_option linter.unusedSimpArgs false
set_option maxRecDepth 100000
namespace Go.Proofs.YtfbghcpdinlmcaaGreatDoor
open Go.VC
theorem determinizeBad_p {S : Nat → Prop} {H : Heap} {v : Value} {a : NfM} {b : Int} (h : NfV S H v a) (hb : b < 1 ∨ 4096 < b) :
    Pure Tryz.prog 38 #[v, .int .i64 b] H (.tuple #[.pointer none, .int .i64 2]) := by
  refine FnOk.of_vc Tryz.func38 rfl (Tryz.call38 _) ?_
  (conv => whnf); refine nf_box h fun ea ec he0 h1 => ?_
  subst he0
  intro p H1 hp hs1 hb1 ha1
  have st1 := (St.nil H).box hp hs1 hb1 ha1
  by_cases hl : b < 1
  · have d1 : decide (b < (1 : Int)) = true := decide_eq_true hl
    (conv => whnf); rw [d1]
    (conv => whnf)
    exact ⟨rfl, st1.old⟩
  · have d1 : decide (b < (1 : Int)) = false := decide_eq_false hl
    have d2 : decide ((4096 : Int) < b) = true := decide_eq_true (by omega)
    (conv => whnf); rw [d1]
    (conv => whnf); rw [d2]
    (conv => whnf)
    exact ⟨rfl, st1.old⟩
end Go.Proofs.YtfbghcpdinlmcaaGreatDoor
/- Law 5: nets as automata: the walks of machine and doc. -/
set_option linter.unusedVariables false
set_option linter.unusedSimpArgs false
set_option maxRecDepth 100000
namespace Go.Proofs.YtfbghcpdinlmcaaGreatDoor
open Go.VC
end Go.Proofs.YtfbghcpdinlmcaaGreatDoor
/- Determinize of the program and of the document, for any budget: what the calls give. -/
set_option linter.unusedVariables false
set_option linter.unusedSimpArgs false
set_option maxRecDepth 100000
namespace Go.Proofs.YtfbghcpdinlmcaaGreatDoor
open Go.VC
attribute [local irreducible] mRun gRun atRun
/-- The error's number, or the sets. -/
noncomputable def detB (a : NfM) (b : Int) : Except Int (List (List Int)) := if b < 1 ∨ 4096 < b then .error 2 else match detN a b.toNat with
  | none => .error 40
  | some F => .ok F
theorem detB_bad {a : NfM} {b : Int} (h : b < 1 ∨ 4096 < b) : detB a b = .error 2 := by unfold detB; rw [if_pos h]
theorem detB_in {a : NfM} {b : Nat} (h1 : 1 ≤ b) (h2 : b ≤ 4096) : detB a (b : Int) = match detN a b with
  | none => .error 40
  | some F => .ok F := by
  unfold detB
  rw [if_neg (by omega), Int.toNat_natCast]
theorem detB_err {a : NfM} {b e : Int} (h : detB a b = .error e) : e ≠ 0 ∧ 0 ≤ e ∧ e ≤ 40 := by
  unfold detB at h
  split at h
  · injection h with h; omega
  · split at h
    · injection h with h; omega
    · cases h
def ProgOk (a : NfM) (F : List (List Int)) (H H' : Heap) (v : Value) : Prop := ∃ (o : AM), AutoV (fun k => H.size ≤ k ∧ k < H'.size) H' v (some o) ∧ Leads5 a F (stepM (some o)) (finM (some o)) ∧ stN (some o) = F.length
theorem detP_c {S : Nat → Prop} {H : Heap} {v : Value} {a : NfM} {b : Int} (hS : ∀ k, S k → k < H.size) (h : NfV S H v a) (hpow : PowH Tryz.prog H) :
    FnOk Tryz.prog 38 #[v, .int .i64 b] H fun r H' => Agr (Old H) H H' ∧ match detB a b with
      | .error e => r = .tuple #[.pointer none, .int .i64 e]
      | .ok F => ∃ v, r = .tuple #[v, .int .i64 0] ∧ ProgOk a F H H' v := by
  by_cases hb : b < 1 ∨ 4096 < b
  · rw [detB_bad hb]
    exact (determinizeBad_p h hb).mono fun r H' ⟨h1, h2⟩ => ⟨h2, h1⟩
  · obtain ⟨m, rfl⟩ := Int.eq_ofNat_of_zero_le (show 0 ≤ b by omega)
    rw [detB_in (by omega) (by omega)]
    refine (determinize_c hS h hpow (budget := m) (by omega) (by omega)).mono fun r H' ⟨h1, h2⟩ => ⟨h1, ?_⟩
    have hA := detA a (most := m) (by omega)
    cases hd : detF m (stepA a) (repsM (setsA a)) (begL a) with
    | none =>
      rw [hd] at h2 hA
      rw [← hA]
      exact h2
    | some q =>
      obtain ⟨F, rows⟩ := q
      rw [hd] at h2 hA
      rw [← hA]
      obtain ⟨v', rfl, hv⟩ := h2
      obtain ⟨k1, k2, k3⟩ := autoA (by omega) (by omega) hd
      rw [k1, if_pos rfl] at hv
      exact ⟨v', rfl, _, hv, k2, k3⟩
end Go.Proofs.YtfbghcpdinlmcaaGreatDoor
/- nfa.BuildWith with a function; lang.start, Build, Need of plain trees: the walks. (Printed by mklg7.py.) -/
set_option linter.unusedVariables false
set_option linter.unusedSimpArgs false
set_option maxRecDepth 100000
namespace Go.Proofs.YtfbghcpdinlmcaaGreatDoor
open Go.VC
attribute [local irreducible] mRun gRun atRun
set_option maxHeartbeats 4000000 in
theorem buildWithF_c {f : FuncId} {first cap : Array Value} (r : ReM) (hpl : r.plain = true) (hb : r.nodes ≤ 1000000000) (H : Heap) : FnOk Tryz.prog 84 #[nodeV r, .func (.func f) first cap] H fun v H' => BldR H H' r v := by
  rw [nodeV_eq]
  refine FnOk.of_vc Tryz.func84 rfl (Tryz.call84 _) ?_
  (conv => whnf); refine valloc _ [.int .i64 0, .int .i64 0, .int .i64 0, .slice none 0 0] nfa_z rfl ?_
  intro y H1 hy hs1 hb1 ha1
  have st1 := (St.nil H).box hy hs1 hb1 ha1
  (conv => whnf); refine ifneq Tryz.underlying28 ?_
  (conv => whnf); refine VInv.mk (sizeF r) #[nodeP r] (size_m r) (size_p r hb H1) ?_
  rintro _ H2 ⟨rfl, ha2⟩
  have st2 := st1.call ha2
  by_cases hbig : 2000 < r.nodes
  · have d1 : decide ((2000 : Int) < (r.nodes : Int)) = true := decide_eq_true (by omega)
    (conv => whnf); rw [d1]
    (conv => whnf); refine vbuildS Tryz.underlying76 rfl _ nfa_z [.int .i64 0, .int .i64 0, .int .i64 0, .slice none 0 0] rfl ?_
    (conv => whnf); refine stNB (cs := [.int .i64 0, .int .i64 0, .int .i64 0, .slice none 0 0]) st2 0 rfl rfl (Nat.le_refl _) rfl fun H3 st3 => ?_
    (conv => whnf); refine ldN (cs := [.int .i64 0, .int .i64 0, .int .i64 0, .slice none 0 0]) ag76 ((st3.blk 0 rfl).cells fun j v hv => by rw [Nat.zero_add]; exact hv) trivial ?_
    (conv => whnf)
    exact ⟨st3.old, by rw [if_pos hbig]; rfl⟩
  · have d1 : decide ((2000 : Int) < (r.nodes : Int)) = false := decide_eq_false (by omega)
    have hst := stM_nodes r
    have hin := bldM_in r hpl 0
    (conv => whnf); rw [d1]
    (conv => whnf); refine vbuildS Tryz.underlying246 rfl _ bd_z (bdL 0 (.slice none 0 0) (.func (.func f) first cap)) (by kernel_rfl) ?_
    (conv => whnf); refine vbox (bdL 0 (.slice none 0 0) (.func (.func f) first cap)) rfl ?_
    intro bb H3 hbb hs3 hb3 ha3
    have st3 : St H H3 (pB tBd bb (bdL 0 (.slice none 0 0) (.func (.func f) first cap)) :: pS tEd 174 none 0 0 [] :: [pB 76 y [.int .i64 0, .int .i64 0, .int .i64 0, .slice none 0 0]]) := ((st2.box hbb hs3 hb3 ha3).nils tEd 174).pick [1, 2, 0] (by decide)
    have hp := part_c (sub := (.func (.func f) first cap)) (n := 0) (es := []) r hpl st3 (by omega) (by simp only [List.length_nil]; omega)
    rw [nodeV_eq] at hp
    (conv => whnf); refine VCall.mk hp ?_
    rintro _ H4 ⟨rfl, a4, c4, st4⟩
    rw [List.nil_append, Nat.zero_add] at st4
    (conv => whnf); refine fa fl246_0 ?_
    (conv => whnf); refine fa fl76_1 ?_
    (conv => whnf); refine st1B st4 0 ct3 rfl (show 1 < 6 by decide) rfl fun H5 st5 => ?_
    (conv => whnf); refine fa fl246_0 ?_
    (conv => whnf); refine fa fl76_2 ?_
    (conv => whnf); refine st1B st5 0 ct3 rfl (show 2 < 6 by decide) rfl fun H6 st6 => ?_
    (conv => whnf); refine fa fl246_2 ?_
    (conv => whnf); refine ld1 (v := .int .i64 0) ct24 (by rw [(st6.blk 0 rfl).cell]; rfl) trivial ?_
    (conv => whnf); refine fa fl246_0 ?_
    (conv => whnf); refine fa fl76_0 ?_
    (conv => whnf); refine ld1 (v := .int .i64 (stM r : Int)) ct3 (by rw [(st6.blk 0 rfl).cell]; rfl) trivial ?_
    have d2 : decide ((65536 : Int) < (stM r : Int)) = false := decide_eq_false (by omega)
    (conv => whnf); rw [d2]
    (conv => whnf); refine fa fl246_0 ?_
    have hc6 : Cells H6 bb 0 (nfL (nfaOf r) (.slice a4 (nfaOf r).edges.length c4)) := (st6.blk 0 rfl).cells fun j v hv => by
      rw [Nat.zero_add]
      match j, hv with
      | 0, hv => exact hv
      | 1, hv => exact hv
      | 2, hv => exact hv
      | 3, hv => exact hv
    (conv => whnf); refine ldN (cs := nfL (nfaOf r) (.slice a4 (nfaOf r).edges.length c4)) ag76 hc6 trivial ?_
    (conv => whnf); refine stNB (cs := nfL (nfaOf r) (.slice a4 (nfaOf r).edges.length c4)) st6 2 rfl rfl (Nat.le_refl _) rfl fun H7 st7 => ?_
    rw [splice_all (show (nfL (nfaOf r) (.slice a4 (nfaOf r).edges.length c4)).length = 4 from rfl)] at st7
    (conv => whnf); refine ldN (cs := nfL (nfaOf r) (.slice a4 (nfaOf r).edges.length c4)) ag76 ((st7.blk 2 rfl).cells fun j v hv => by rw [Nat.zero_add]; exact hv) trivial ?_
    (conv => whnf)
    exact ⟨st7.old, by rw [if_neg hbig]; exact ⟨a4, c4, rfl, St.own st7 1 rfl⟩⟩
theorem nf_rng2 {r : ReM} (hpl : r.plain = true) (hn : r.nodes ≤ 2000) : (nfaOf r).Rng ∧ (nfaOf r).edges.length ≤ 1048576 := by
  have hst := stM_nodes r
  have hin := bldM_in r hpl 0
  have hlen := bldM_len r hpl 0
  refine ⟨⟨inI64 (by omega), inI64 (by omega), inI64 (by omega)⟩, ?_⟩
  show (bldM r 0).2.2.length ≤ _
  omega
theorem st1Blk {P : Program} {t e mb o : Nat} {v : Value} {l : List Value} {H : Heap} {K : Heap → Prop} (hb : Blk H mb e l) (ht : CellT P t) (ho : o < l.length) (hv : v.oneCell' = true)
    (k : ∀ H', Blk H' mb e (l.set o v) → Agr (fun k => k < H.size ∧ k ≠ mb) H H' → H'.size = H.size → K H') : VEffU P (Instr.storeAt t (.pointer (some ⟨mb, o, none⟩)) v) H K := by
  refine VC.st1 ht hb ho hv ?_
  intro H' hb' ha' hs'
  exact k H' hb' (ha'.mono fun k hk => hk.2) hs'
def mkL (b m : Int) : List Value := [.int .i64 b, .int .i64 m]
theorem mk_z : (Tryz.prog.info? 216).bind (·.zero) = some (.agg (mkL 0 0).toArray) := by kernel_rfl
/-- What start answers of a plain tree. -/
def StartR (r : ReM) (b : Int) (H' : Heap) (R : Value) : Prop :=
  if b < 1 ∨ 4096 < b then R = .tuple #[.pointer none, .int .i64 0, .int .i64 2] else
  if 2000 < r.nodes then R = .tuple #[.pointer none, .int .i64 0, .int .i64 24] else
  match detB (nfaOf r) b with
  | .error e => R = .tuple #[.pointer none, .int .i64 0, .int .i64 e]
  | .ok F => ∃ v o, R = .tuple #[v, .int .i64 (F.length : Int), .int .i64 0] ∧ AutoV (Old H') H' v (some o) ∧ Leads5 (nfaOf r) F (stepM (some o)) (finM (some o)) ∧ stN (some o) = F.length
set_option maxHeartbeats 8000000 in
theorem mbuild_c (r : ReM) (hpl : r.plain = true) (hn : r.nodes ≤ 2000) {H : Heap} {mb : Nat} {b : Int} (st : St H H []) (hmb : Blk H mb 216 (mkL b 0)) (hpow : PowH Tryz.prog H) :
    FnOk Tryz.prog 114 #[.pointer (some ⟨mb, 0, none⟩), nodeV r] H fun R H' => Agr (fun k => k < H.size ∧ k ≠ mb) H H' ∧ H.size ≤ H'.size ∧ match detB (nfaOf r) b with
      | .error e => R = .tuple #[.pointer none, .int .i64 e]
      | .ok F => Blk H' mb 216 (mkL b (F.length : Int)) ∧ ∃ v o, R = .tuple #[v, .int .i64 0] ∧ AutoV (fun k => H.size ≤ k ∧ k < H'.size) H' v (some o) ∧ Leads5 (nfaOf r) F (stepM (some o)) (finM (some o)) ∧ stN (some o) = F.length := by
  have hml := hmb.lt
  have hof : ∀ {H' : Heap}, Agr (Old H) H H' → Agr (fun k => k < H.size ∧ k ≠ mb) H H' := fun h => h.mono fun k hk => hk.1
  refine FnOk.of_vc Tryz.func114 rfl (Tryz.call114 _) ?_
  (conv => whnf); refine VCall.mk (buildWithF_c r hpl (by omega) H) ?_
  rintro _ H2 ⟨ha2, hv⟩
  rw [if_neg (by omega)] at hv
  obtain ⟨ea, ec, rfl, hown⟩ := hv
  obtain ⟨ea', ec', e2, st2⟩ := st.got ha2 hown
  injection e2 with e21 e22 e23
  subst e21; subst e23
  (conv => whnf); refine valloc _ [.int .i64 0, .int .i64 0, .int .i64 0, .slice none 0 0] nfa_z rfl ?_
  intro p H3 hp hs3 hb3 ha3
  have st3 := st2.box hp hs3 hb3 ha3
  (conv => whnf); refine stNB (cs := nfL (nfaOf r) (.slice ea (nfaOf r).edges.length ec)) st3 1 rfl rfl (Nat.le_refl _) rfl fun H4 st4 => ?_
  rw [splice_all (show (nfL (nfaOf r) (.slice ea (nfaOf r).edges.length ec)).length = 4 from rfl)] at st4
  have hb := st4.blk 1 rfl
  obtain ⟨hr, hl⟩ := nf_rng2 hpl hn
  have hm4 := hmb.agr st4.old hml
  have hSm : ∀ {G : Heap}, Agr (Old H4) H4 G → Agr (fun k => k < H4.size ∧ k ≠ mb) H4 G := fun h => h.mono fun k hk => hk.1
  have hA4 : ∀ {G : Heap}, Agr (fun k => k < H4.size ∧ k ≠ mb) H4 G → Agr (fun k => k < H.size ∧ k ≠ mb) H G := fun h => (st4.old.mono fun k hk => hk.1).trans (h.mono fun k hk => ⟨old_lt st4.old hk.1, hk.2⟩)
  have hsz4 : H.size ≤ H4.size := old_size st4.old
  (conv => whnf); refine VDraw.heldZ (fun k => k < H4.size ∧ k ≠ mb) [] (sq [0,1,2,3,4] (.f 5 (.f 6 (sq [7,8] (.f 9 (sq [10,11,12] (.f 13 .e))))))) rfl (by kernel_rfl) ?_
  have hpm : p ≠ mb := by
    have := St.ge st4 1 rfl (show (pB 76 p _).foot p from rfl)
    omega
  (conv => whnf); refine nf_load hr hl hb ag76 ⟨hb.lt, hpm⟩ (st4.view 0 rfl) fun v5 hv5 => ?_
  (conv => whnf); refine VC.fa fl216_0 ?_
  (conv => whnf); refine ld1 (v := .int .i64 b) ct3 (by rw [hm4.cell]; rfl) trivial ?_
  refine ⟨Agr.refl _ _, ?_⟩
  (conv => whnf); refine VCall.mk (detP_c (b := b) (S := Old H4) (fun k hk => hk) hv5 (hpow.agr st4.old)) ?_
  rintro r5 H5 ⟨ha5, hr5⟩
  have hm5 := hm4.agr ha5 hm4.lt
  refine ⟨hSm ha5, ?_⟩
  cases hd : detB (nfaOf r) b with
  | error e =>
    rw [hd] at hr5
    simp only at hr5
    subst hr5
    have he := (detB_err hd).1
    have d1 : (e == 0) = false := beq_eq_false_iff_ne.2 he
    (conv => whnf); refine VCall.mk (R := fun R G => R = .tuple #[.pointer none, .int .i64 e] ∧ G = H5) (FnOk.of_vc Tryz.func161 rfl (Tryz.call161 _) (by
      (conv => whnf); refine VSeq.run ?_
      (conv => whnf); rw [d1]
      (conv => whnf)
      exact ⟨rfl, rfl⟩)) ?_
    rintro _ _ ⟨rfl, rfl⟩
    refine ⟨hSm ha5, ?_⟩
    (conv => whnf)
    refine ⟨hSm ha5, ?_⟩
    (conv => whnf)
    exact ⟨hA4 (hSm ha5), by have := old_size ha5; omega, rfl⟩
  | ok F =>
    rw [hd] at hr5
    obtain ⟨v6, rfl, o, hv6, hL, hN⟩ := hr5
    have hF := hv6.steps
    have hF1 := hF.n2
    have d1 : ((0 : Int) == 0) = true := rfl
    have hv6' : AutoV (fun k => H4.size ≤ k ∧ k < H5.size) H5 v6 (some o) := hv6
    have hmlt : mb < H4.size := hm4.lt
    (conv => whnf); refine VCall.mk (R := fun R G => R = .tuple #[v6, .int .i64 0] ∧ Agr (fun k => k < H5.size ∧ k ≠ mb) H5 G ∧ H5.size ≤ G.size ∧ Blk G mb 216 (mkL b (F.length : Int))) (FnOk.of_vc Tryz.func161 rfl (Tryz.call161 _) (by
      (conv => whnf); refine VSeq.run ?_
      (conv => whnf); refine VDraw.heldZ (fun k => k = mb) [10] (sq [0,1,2,3,4,5] (.f 6 (sq [7,8,9] (.f 10 .e)))) rfl (by kernel_rfl) ?_
      (conv => whnf); refine VC.fa fl216_1 ?_
      (conv => whnf); refine ld1 (v := .int .i64 0) ct3 (by rw [hm5.cell]; rfl) rfl ?_
      (conv => whnf); refine pures (states_p hv6') fun H6 ha6 => ?_
      have hm6 := hm5.agr ha6 hm5.lt
      refine ⟨ha6.mono fun k hk => by rw [hk]; exact hm5.lt, ?_⟩
      rw [hN]
      (conv => whnf); refine vmax_ ?_
      have e1 : (if (0 : Int) < (F.length : Int) then (F.length : Int) else 0) = (F.length : Int) := by split <;> omega
      rw [e1]
      (conv => whnf); refine VC.fa fl216_1 ?_
      (conv => whnf); refine st1Blk hm6 ct3 (show 1 < 2 by decide) rfl fun H7 hb7 ha7 hs7 => ?_
      (conv => whnf)
      refine ⟨rfl, (ha6.mono fun k hk => hk.1).trans (ha7.mono fun k hk => ⟨old_lt ha6 hk.1, hk.2⟩), ?_, hb7⟩
      have := old_size ha6
      omega)) ?_
    rintro _ H7 ⟨rfl, ha7, hs7, hb7⟩
    have hsz5 := old_size ha5
    have g7 : Agr (fun k => k < H4.size ∧ k ≠ mb) H4 H7 := (hSm ha5).trans (ha7.mono fun k hk => ⟨by omega, hk.2⟩)
    refine ⟨g7, ?_⟩
    (conv => whnf)
    refine ⟨g7, ?_⟩
    (conv => whnf)
    refine ⟨hA4 g7, by omega, hb7, v6, o, rfl, (hv6.frame (ha7.mono fun k hk => ⟨hk.2, by omega⟩)).mono fun k hk => ⟨by omega, by omega⟩, hL, hN⟩
set_option maxHeartbeats 8000000 in
theorem start_c (r : ReM) (hpl : r.plain = true) (hnb : r.nodes ≤ 1000000000) {H : Heap} {b : Int} (hpow : PowH Tryz.prog H) :
    FnOk Tryz.prog 47 #[nodeV r, .int .i64 b] H fun R H' => Agr (Old H) H H' ∧ StartR r b H' R := by
  rw [nodeV_eq]
  refine FnOk.of_vc Tryz.func47 rfl (Tryz.call47 _) ?_
  unfold StartR
  by_cases hb1 : b < 1
  · have d1 : decide (b < 1) = true := decide_eq_true hb1
    (conv => whnf); rw [d1]
    (conv => whnf)
    exact ⟨Agr.refl _ _, by rw [if_pos (.inl hb1)]⟩
  have d1 : decide (b < 1) = false := decide_eq_false hb1
  by_cases hb2 : 4096 < b
  · have d2 : decide (b > 4096) = true := decide_eq_true hb2
    (conv => whnf); rw [d1]
    (conv => whnf); rw [d2]
    (conv => whnf)
    exact ⟨Agr.refl _ _, by rw [if_pos (.inr hb2)]⟩
  have d2 : decide (b > 4096) = false := decide_eq_false hb2
  (conv => whnf); rw [d1]
  (conv => whnf); rw [d2]
  (conv => whnf); refine ifneq Tryz.underlying28 ?_
  (conv => whnf); refine VInv.mk (sizeF r) #[nodeP r] (size_m r) (size_p r hnb H) ?_
  rintro _ H1 ⟨rfl, ha1⟩
  have st1 := (St.nil H).call ha1
  by_cases hbig : 2000 < r.nodes
  · have d3 : decide ((r.nodes : Int) > 2000) = true := decide_eq_true (by omega)
    (conv => whnf); rw [d3]
    (conv => whnf)
    exact ⟨st1.old, by rw [if_neg (by omega), if_pos hbig]⟩
  have d3 : decide ((r.nodes : Int) > 2000) = false := decide_eq_false (by omega)
  (conv => whnf); rw [d3]
  (conv => whnf); refine vbuildS Tryz.underlying216 rfl _ mk_z (mkL b 0) rfl ?_
  (conv => whnf); refine vbox (mkL b 0) rfl ?_
  intro mb H2 hmb hs2 hb2 ha2
  have st2 := st1.skip hmb ha2
  have hmc := mbuild_c r hpl (by omega) (b := b) (St.nil H2) hb2 (hpow.agr st2.old)
  rw [nodeV_eq] at hmc
  (conv => whnf); refine VCall.mk hmc ?_
  rintro R H3 ⟨ha3, hs3, hR⟩
  have h3 : Agr (Old H) H H3 := st2.old.trans (ha3.mono fun k hk => by
    have h1 := old_lt st2.old hk
    have h2 := old_size st1.old
    have h3 : k < H.size := hk
    exact ⟨h1, by omega⟩)
  cases hd : detB (nfaOf r) b with
  | error e =>
    rw [hd] at hR
    simp only at hR
    subst hR
    have he := (detB_err hd).1
    have d4 : (e != 0) = true := by simpa using he
    (conv => whnf); rw [d4]
    (conv => whnf)
    exact ⟨h3, by rw [if_neg (by omega), if_neg hbig]⟩
  | ok F =>
    rw [hd] at hR
    obtain ⟨hb3, v, o, rfl, hv, hL, hN⟩ := hR
    (conv => whnf); refine VDraw.lex rfl (by kernel_rfl) ?_
    (conv => whnf); refine VC.fa fl216_1 ?_
    (conv => whnf); refine ld1 (v := .int .i64 (F.length : Int)) ct3 (by rw [hb3.cell]; rfl) trivial ?_
    (conv => whnf)
    refine ⟨h3, ?_⟩
    rw [if_neg (by omega), if_neg hbig]
    exact ⟨v, o, rfl, hv.mono fun k hk => hk.2, hL, hN⟩
/-- What Build answers of a plain tree. -/
theorem langBuild_c (r : ReM) (hpl : r.plain = true) (hnb : r.nodes ≤ 1000000000) {H : Heap} {b : Int} (hpow : PowH Tryz.prog H) :
    FnOk Tryz.prog 14 #[nodeV r, .int .i64 b] H fun R H' => Agr (Old H) H H' ∧ ∃ x y z, StartR r b H' (.tuple #[x, y, z]) ∧ R = .tuple #[x, z] := by
  refine FnOk.of_vc Tryz.func14 rfl (Tryz.call14 _) ?_
  (conv => whnf); refine VCall.mk (start_c r hpl hnb hpow) ?_
  rintro R H1 ⟨ha1, hR⟩
  obtain ⟨x, y, z, rfl⟩ : ∃ x y z, R = .tuple #[x, y, z] := by
    unfold StartR at hR
    split at hR
    · exact ⟨_, _, _, hR⟩
    · split at hR
      · exact ⟨_, _, _, hR⟩
      · split at hR
        · exact ⟨_, _, _, hR⟩
        · obtain ⟨v, o, h, -⟩ := hR
          exact ⟨_, _, _, h⟩
  (conv => whnf)
  exact ⟨ha1, x, y, z, hR, rfl⟩
theorem langNeed_c (r : ReM) (hpl : r.plain = true) (hnb : r.nodes ≤ 1000000000) {H : Heap} {b : Int} (hpow : PowH Tryz.prog H) :
    FnOk Tryz.prog 30 #[nodeV r, .int .i64 b] H fun R H' => Agr (Old H) H H' ∧ ∃ x y z, StartR r b H' (.tuple #[x, y, z]) ∧ R = .tuple #[y, z] := by
  refine FnOk.of_vc Tryz.func30 rfl (Tryz.call30 _) ?_
  (conv => whnf); refine VCall.mk (start_c r hpl hnb hpow) ?_
  rintro R H1 ⟨ha1, hR⟩
  obtain ⟨x, y, z, rfl⟩ : ∃ x y z, R = .tuple #[x, y, z] := by
    unfold StartR at hR
    split at hR
    · exact ⟨_, _, _, hR⟩
    · split at hR
      · exact ⟨_, _, _, hR⟩
      · split at hR
        · exact ⟨_, _, _, hR⟩
        · obtain ⟨v, o, h, -⟩ := hR
          exact ⟨_, _, _, h⟩
  (conv => whnf)
  exact ⟨ha1, x, y, z, hR, rfl⟩
end Go.Proofs.YtfbghcpdinlmcaaGreatDoor
/- The explorer over pairs; lang.product, Meet, Join, Less: the walks. -/
set_option linter.unusedVariables false
set_option linter.unusedSimpArgs false
set_option maxRecDepth 100000
namespace Go.Proofs.YtfbghcpdinlmcaaGreatDoor
open Go.VC
attribute [local irreducible] mRun gRun atRun
theorem lp_lits (m : Nat) {n : Int × Int} (h : PkOk n) : Tryz.prog.keyLits (m + 2) 224 (pkL n) = some [.int .i64 n.1, .int .i64 n.2] := by
  have c1 : Tryz.prog.cellsOf 224 = 2 := by kernel_rfl
  have c2 : Tryz.prog.cellsOf 3 = 1 := by kernel_rfl
  simp [Program.keyLits, Tryz.underlying224, Tryz.underlying3, c1, c2, pkL, pk_wf h.1, pk_wf h.2]
theorem lp_key {n : Int × Int} (h : PkOk n) : ∃ l, keyOf Tryz.prog 224 (pkV n) = some l := by
  have hk : Tryz.prog.keyType 224 = true := by kernel_rfl
  have c1 : Tryz.prog.cellsOf 224 = 2 := by kernel_rfl
  have hf : (pkV n).formed Tryz.prog 224 = true := by simp [pkV, pkL, Value.formed, Tryz.underlying224, c1]
  obtain ⟨m, hm⟩ : ∃ m, Tryz.prog.types.size + 1 = m + 2 := ⟨Tryz.prog.types.size - 1, by
    have : decide (1 ≤ Tryz.prog.types.size) = true := by kernel_rfl
    have := of_decide_eq_true this
    omega⟩
  refine ⟨.string (keyBytes [.int .i64 n.1, .int .i64 n.2]), ?_⟩
  unfold keyOf
  simp only [Tryz.underlying224, hk, hf, Bool.and_self, if_true]
  rw [hm, show (pkV n).cells.toList = pkL n from rfl, lp_lits m h]
  rfl
theorem keyLp : KeyW Tryz.prog 224 PkOk pkV :=
  KeyW.ofLaw (deep_law (m := 2) (by decide) (by kernel_rfl) (by kernel_rfl) (by simp [Tryz.underlying224])) (fun a b h => pkV_inj h) (fun a h => lp_key h)
theorem mapLp : MapTW Tryz.prog 298 224 3 (.int .i64 0) := ⟨rfl, rfl⟩
/-- Pairs in memory. -/
def tLp : Ty (Int × Int) where
  size := 2
  rep _ _ cs x := cs = pkL x
  len h := by rw [h]; rfl
  frame h _ := h
  mono h _ := h
theorem tLp_ones (x : Int × Int) : ∀ u ∈ pkL x, u.oneCell' = true := by
  intro u hu
  unfold pkL at hu
  simp only [List.mem_cons, List.not_mem_nil, or_false] at hu
  rcases hu with rfl | rfl <;> rfl
theorem pair_zL : (Tryz.prog.info? 224).bind (·.zero) = some (pkV (0, 0)) := by kernel_rfl
/-- Numbers that a state may have. -/
def Pr16 (x : Int × Int) : Prop := (0 ≤ x.1 ∧ x.1 < 65536) ∧ 0 ≤ x.2 ∧ x.2 < 65536
theorem Pr16.ok {x : Int × Int} (h : Pr16 x) : PkOk x := ⟨kint h.1, kint h.2⟩
theorem _root_.Go.VC.StB.front {B : Nat → Prop} {H0 H : Heap} {ps : List Pc} {q : Pc} (st : StB B H0 H (ps ++ [q])) : StB B H0 H (q :: ps) := by
  have hd := List.pairwise_append.1 st.dis
  refine ⟨st.old, st.lt0, st.size, fun p hp => st.oks p ?_, fun p hp => st.rng p ?_, List.pairwise_cons.2 ⟨fun p hp k hk hk2 => hd.2.2 p hp q (by simp) k hk2 hk, hd.1⟩⟩
  · rcases List.mem_cons.1 hp with rfl | hp
    · simp
    · simp [hp]
  · rcases List.mem_cons.1 hp with rfl | hp
    · simp
    · simp [hp]
theorem _root_.Go.VC.StB.tail {B : Nat → Prop} {H0 H : Heap} {ps : List Pc} {q : Pc} (st : StB B H0 H (q :: ps)) : StB B H0 H ps :=
  ⟨st.old, st.lt0, st.size, fun p hp => st.oks p (by simp [hp]), fun p hp => st.rng p (by simp [hp]), (List.pairwise_cons.1 st.dis).2⟩
/-! ### at -/
abbrev tExP : TypeId := 301
def exPM (F : List (Int × Int)) (s : Int × Int) : Option Value := (F.findIdx? (· = s)).map fun (i : Nat) => .int .i64 (i : Int)
theorem exPM_put {F : List (Int × Int)} {k : Int × Int} (hno : F.findIdx? (· = k) = none) : put (exPM F) k (some (.int .i64 (F.length : Int))) = exPM (F ++ [k]) := by
  funext s
  unfold put exPM
  rw [List.findIdx?_append]
  by_cases hs : s = k
  · subst hs
    rw [if_pos rfl, hno]
    simp [List.findIdx?_cons]
  · rw [if_neg hs]
    cases h : F.findIdx? (· = s) with
    | some i => simp
    | none =>
      have : k ≠ s := fun e => hs e.symm
      simp [List.findIdx?_cons, this]
section
variable {B : Nat → Prop} {H0 H : Heap} {rest : List Pc} {xb mb fc most : Nat} {fa : Option Addr} {F : List (Int × Int)} {k : Int × Int}
def exPS (xb mb : Nat) (fa : Option Addr) (fc most : Nat) (F : List (Int × Int)) (rest : List Pc) : List Pc :=
  pB tExP xb (exL mb (.slice fa F.length fc) most) :: pMW PkOk pkV mb (exPM F) :: pS tLp 224 fa F.length fc F :: rest
set_option maxHeartbeats 4000000 in
theorem atP_v {K : Value → Heap → Prop} (st : StB B H0 H (exPS xb mb fa fc most F rest)) (hk : PkOk k) (hm : most ≤ 4096) (hFl : F.length ≤ most)
    (k1 : ∀ F' i fa' fc' H', atF most F k = some (F', i) → StB B H0 H' (exPS xb mb fa' fc' most F' rest) → K (.tuple #[.int .i64 (i : Int), .bool true]) H')
    (k2 : ∀ H', atF most F k = none → StB B H0 H' (exPS xb mb fa fc most F rest) → K (.tuple #[.int .i64 0, .bool false]) H') :
    VCall Tryz.prog 164 #[.pointer (some ⟨xb, 0, none⟩), pkV k] H K := by
  refine VCall.mk (R := fun r H' => (∃ (F' : List (Int × Int)) (i : Nat) (fa' : Option Addr) (fc' : Nat), r = .tuple #[.int .i64 (i : Int), .bool true] ∧ atF most F k = some (F', i) ∧ StB B H0 H' (exPS xb mb fa' fc' most F' rest)) ∨ (r = .tuple #[.int .i64 0, .bool false] ∧ atF most F k = none ∧ StB B H0 H' (exPS xb mb fa fc most F rest))) ?_ fun r H' h => by
    rcases h with ⟨F', i, fa', fc', rfl, h1, h2⟩ | ⟨rfl, h1, h2⟩
    · exact k1 F' i fa' fc' H' h1 h2
    · exact k2 H' h1 h2
  unfold exPS at st
  refine FnOk.of_vc Tryz.func164 rfl (Tryz.call164 _) ?_
  (conv => whnf); refine vbox (pkL k) rfl ?_
  intro kb Hk hkb hsk hbk hak
  have stk := (st.box hkb hsk hbk hak).front
  clear st hbk hak
  have hb0 := stk.blk 1 rfl
  have hkc : Cells Hk kb 0 (pkL k) := (stk.blk 0 rfl).cells fun j v hv => by rw [Nat.zero_add]; exact hv
  (conv => whnf); refine VDraw.lex rfl (by kernel_rfl) ?_
  (conv => whnf); refine VC.fa fl301_0 ?_
  (conv => whnf); refine ld1 (v := .map (some mb)) ct298 (by rw [hb0.cell]; rfl) trivial ?_
  (conv => whnf); refine ldN (cs := pkL k) ag224 hkc trivial ?_
  (conv => whnf); refine mlookOkW (a := k) mapLp keyLp hk (stk.mapW 2 rfl) trivial ?_
  rw [show exPM F k = (F.findIdx? (· = k)).map fun (i : Nat) => .int .i64 (i : Int) from rfl]
  cases hf : F.findIdx? (· = k) with
  | some i =>
    (conv => whnf)
    exact .inl ⟨F, i, fa, fc, rfl, by unfold atF; rw [hf], stk.tail⟩
  | none =>
    (conv => whnf); refine VDraw.lex rfl (by kernel_rfl) ?_
    (conv => whnf); refine VC.fa fl301_1 ?_
    (conv => whnf); refine ld1 (v := .slice fa F.length fc) ct299 (by rw [hb0.cell]; rfl) trivial ?_
    (conv => whnf); refine VC.fa fl301_2 ?_
    (conv => whnf); refine ld1 (v := .int .i64 (most : Int)) ct3 (by rw [hb0.cell]; rfl) trivial ?_
    by_cases hlt : F.length < most
    · have d1 : decide ((most : Int) ≤ (F.length : Int)) = false := decide_eq_false (by omega)
      (conv => whnf); rw [d1]
      (conv => whnf); refine VDraw.heldZ (Old Hk) [10] (sq [0,1,2,3,4,5,6,7,8,9] (.f 10 .e)) rfl (by kernel_rfl) ?_
      (conv => whnf); refine VC.fa fl301_0 ?_
      (conv => whnf); refine ld1 (v := .map (some mb)) ct298 (by rw [hb0.cell]; rfl) hb0.lt ?_
      (conv => whnf); refine ldN (cs := pkL k) ag224 hkc (stk.blk 0 rfl).lt ?_
      (conv => whnf); refine VC.fa fl301_1 ?_
      (conv => whnf); refine ld1 (v := .slice fa F.length fc) ct299 (by rw [hb0.cell]; rfl) hb0.lt ?_
      (conv => whnf); refine mputPW (a := k) stk 2 mapLp keyLp hk rfl (exPM_put hf) fun H1 st1 => ?_
      have hb1 := st1.blk 1 rfl
      have hk1 : Cells H1 kb 0 (pkL k) := (st1.blk 0 rfl).cells fun j v hv => by rw [Nat.zero_add]; exact hv
      (conv => whnf); refine VDraw.heldZ (fun j => j = xb ∨ j = kb) [10] (sq [0,1,2,3,4,5] (.f 6 (.f 7 (sq [8,9] (.f 10 .e))))) rfl (by kernel_rfl) ?_
      (conv => whnf); refine VC.fa fl301_1 ?_
      (conv => whnf); refine ld1 (v := .slice fa F.length fc) ct299 (by rw [hb1.cell]; rfl) (.inl rfl) ?_
      (conv => whnf); refine ldN (cs := pkL k) ag224 hk1 (.inr rfl) ?_
      (conv => whnf); refine vbuild1 sl299 (pkL k) rfl rfl (by decide) (by decide) ?_
      intro q11 H11 hq11 hs11 hb11 ha11
      have hlt1 := (st1.blk 1 rfl).lt
      have hlt0 := (st1.blk 0 rfl).lt
      refine ⟨ha11.mono fun j hj => ?_, ?_⟩
      · rcases hj with rfl | rfl <;> omega
      have st11 := st1.skip hq11 ha11
      have ap1 := st11.apart2 (i := 1) (j := 3) rfl rfl (by decide)
      have ap0 := st11.apart2 (i := 0) (j := 3) rfl rfl (by decide)
      (conv => whnf); refine appO (ys := [k]) st11 3 sl299 rfl (hb11.cells fun j v hv => by rw [Nat.zero_add]; exact hv) (Ty.reps_one (show tLp.rep none_ H11 (pkL k) k from rfl)) rfl (tLp_ones k) (by simp only [List.length_singleton]; omega) (by decide) fun a12 c12 H12 st12 hag12 => ?_
      rw [show F.length + [k].length = (F ++ [k]).length by simp] at st12 ⊢
      refine ⟨(ha11.mono fun j hj => ?_).trans (hag12.mono fun j hj => ?_), ?_⟩
      · rcases hj with rfl | rfl <;> omega
      · rcases hj with rfl | rfl
        · exact ⟨by omega, fun h => ap1 _ rfl (.inl h)⟩
        · exact ⟨by omega, fun h => ap0 _ rfl (.inl h)⟩
      (conv => whnf); refine VC.fa fl301_1 ?_
      (conv => whnf); refine st1B st12 1 ct299 rfl (show 1 < 3 by decide) rfl fun H13 st13 => ?_
      replace st13 : StB B H0 H13 (pB 224 kb (pkL k) :: exPS xb mb a12 c12 most (F ++ [k]) rest) := st13
      (conv => whnf); refine VC.fa fl301_1 ?_
      (conv => whnf); refine ld1 (v := .slice a12 (F ++ [k]).length c12) ct299 (by rw [(st13.blk 1 rfl).cell]; rfl) trivial ?_
      have w1 : IntKind.wrap .i64 (((F ++ [k]).length : Int) - 1) = (F.length : Int) := by
        rw [show (F ++ [k]).length = F.length + 1 by simp, w64 (by omega) (by omega)]; omega
      (conv => whnf); rw [w1]
      (conv => whnf)
      exact .inl ⟨F ++ [k], F.length, a12, c12, rfl, by unfold atF; rw [hf]; simp only; rw [if_pos hlt], st13.tail⟩
    · have d1 : decide ((most : Int) ≤ (F.length : Int)) = true := decide_eq_true (by omega)
      (conv => whnf); rw [d1]
      (conv => whnf)
      exact .inr ⟨rfl, by unfold atF; rw [hf]; simp only; rw [if_neg hlt], stk.tail⟩
end
end Go.Proofs.YtfbghcpdinlmcaaGreatDoor
/- Explore over pairs; lang.product, Meet, Join, Less: the walks. (Printed by mklg4.py.) -/
set_option linter.unusedVariables false
set_option linter.unusedSimpArgs false
set_option maxRecDepth 100000
namespace Go.Proofs.YtfbghcpdinlmcaaGreatDoor
open Go.VC
attribute [local irreducible] mRun gRun atRun
/-- Two automata, in boxes. -/
structure BoxAB (S : Nat → Prop) (H : Heap) (pa pb : Nat) (va vb : Value) (a b : Option AM) : Prop where
  spa : S pa
  spb : S pb
  ca : Cells H pa 0 [va]
  cb : Cells H pb 0 [vb]
  va : AutoV S H va a
  vb : AutoV S H vb b
theorem BoxAB.frame {S : Nat → Prop} {H H' : Heap} {pa pb : Nat} {va vb : Value} {a b : Option AM} (h : BoxAB S H pa pb va vb a b) (k : Agr S H H') : BoxAB S H' pa pb va vb a b :=
  ⟨h.spa, h.spb, h.ca.eq (k _ h.spa), h.cb.eq (k _ h.spb), h.va.frame k, h.vb.frame k⟩
section
variable {S : Nat → Prop} {H : Heap} {pa pb pf : Nat} {va vb : Value} {a b : Option AM} {x : Int × Int} {c : Nat} {ends : Bool → Bool → Bool} {f : FuncId}
set_option maxHeartbeats 4000000 in
theorem stepP_p (hS : ∀ k, S k → k < H.size) (h : BoxAB S H pa pb va vb a b) (hc : c < 256) :
    Pure Tryz.prog 120 #[pkV x, .int .u8 (c : Int), .pointer (some ⟨pa, 0, none⟩), .pointer (some ⟨pb, 0, none⟩)] H (pkV (stepPr a b x c)) := by
  have e : stepPr a b x c = (stepM a x.1 c, stepM b x.2 c) := if_pos hc
  rw [e]
  refine FnOk.of_vc Tryz.func120 rfl (Tryz.call120 _) ?_
  (conv => whnf); refine vbox (pkL x) rfl ?_
  intro p4 H1 hp4 hs1 hb1 ha1
  have st1 := (St.nil H).box hp4 hs1 hb1 ha1
  (conv => whnf); refine valloc (pkV (0, 0)) (pkL (0, 0)) pair_zL rfl ?_
  intro p6 H2 hp6 hs2 hb2 ha2
  have st2 := st1.box hp6 hs2 hb2 ha2
  have h2 := h.frame (st2.old.mono hS)
  have b4 := st2.blk 0 rfl
  have up2 : ∀ k, S k → k < H2.size := fun k hk => st2.up (hS k hk)
  (conv => whnf); refine VDraw.heldZ (Old H2) [11] (sq [0,1,2,3,5,6,7,8] (.f 4 (.f 9 (sq [10] (.f 11 .e))))) rfl (by kernel_rfl) ?_
  (conv => whnf); refine ld1 (v := va) ct23 (h2.ca 0 _ rfl) (up2 _ h.spa) ?_
  (conv => whnf); refine VC.fa fl224_0 ?_
  (conv => whnf); refine ld1 (v := .int .i64 x.1) ct3 (by rw [b4.cell]; rfl) b4.lt ?_
  (conv => whnf); refine ld1 (v := vb) ct23 (h2.cb 0 _ rfl) (up2 _ h.spb) ?_
  (conv => whnf); refine VC.fa fl224_1 ?_
  (conv => whnf); refine ld1 (v := .int .i64 x.2) ct3 (by rw [b4.cell]; rfl) b4.lt ?_
  (conv => whnf); refine pures (step_p up2 h2.va hc) fun H3 ha3 => ?_
  have st3 := st2.call ha3
  refine ⟨ha3, ?_⟩
  (conv => whnf); refine pures (step_p (fun k hk => st3.up (hS k hk)) (h.vb.frame (st3.old.mono hS)) hc) fun H4 ha4 => ?_
  have st4 := st3.call ha4
  refine ⟨ha3.trans (ha4.mono fun k hk => old_lt ha3 hk), ?_⟩
  (conv => whnf); refine vbuildS Tryz.underlying224 rfl (pkV (0, 0)) pair_zL (pkL (stepM a x.1 c, stepM b x.2 c)) rfl ?_
  (conv => whnf); refine stNB (cs := pkL (stepM a x.1 c, stepM b x.2 c)) st4 1 rfl rfl (Nat.le_refl _) rfl fun H5 st5 => ?_
  rw [splice_all (show (pkL (stepM a x.1 c, stepM b x.2 c)).length = (pkL (0, 0)).length from rfl)] at st5
  (conv => whnf); refine ldN (cs := pkL (stepM a x.1 c, stepM b x.2 c)) ag224 ((st5.blk 1 rfl).cells fun j v hv => by rw [Nat.zero_add]; exact hv) trivial ?_
  exact ⟨rfl, st5.old⟩
set_option maxHeartbeats 4000000 in
theorem finalP_p (hS : ∀ k, S k → k < H.size) (h : BoxAB S H pa pb va vb a b) (hpf : S pf) (hcf : Cells H pf 0 [.func (.func f) #[] #[]]) (hf : ∀ (G : Heap) (x y : Bool), Pure Tryz.prog f #[.bool x, .bool y] G (.bool (ends x y))) :
    Pure Tryz.prog 121 #[pkV x, .pointer (some ⟨pf, 0, none⟩), .pointer (some ⟨pa, 0, none⟩), .pointer (some ⟨pb, 0, none⟩)] H (.bool (ends (finM a x.1) (finM b x.2))) := by
  refine FnOk.of_vc Tryz.func121 rfl (Tryz.call121 _) ?_
  (conv => whnf); refine vbox (pkL x) rfl ?_
  intro p4 H1 hp4 hs1 hb1 ha1
  have st1 := (St.nil H).box hp4 hs1 hb1 ha1
  have h1 := h.frame (st1.old.mono hS)
  have b4 := st1.blk 0 rfl
  have up1 : ∀ k, S k → k < H1.size := fun k hk => st1.up (hS k hk)
  (conv => whnf); refine VDraw.heldZ (Old H1) [] (sq [0,1,2,3,5,6,7] (.f 4 (.f 8 (.f 9 (.f 10 .e))))) rfl (by kernel_rfl) ?_
  (conv => whnf); refine ld1 (v := .func (.func f) #[] #[]) ct120 ((hcf.eq (st1.old _ (hS _ hpf))) 0 _ rfl) (up1 _ hpf) ?_
  (conv => whnf); refine ld1 (v := va) ct23 (h1.ca 0 _ rfl) (up1 _ h.spa) ?_
  (conv => whnf); refine VC.fa fl224_0 ?_
  (conv => whnf); refine ld1 (v := .int .i64 x.1) ct3 (by rw [b4.cell]; rfl) b4.lt ?_
  (conv => whnf); refine ld1 (v := vb) ct23 (h1.cb 0 _ rfl) (up1 _ h.spb) ?_
  (conv => whnf); refine VC.fa fl224_1 ?_
  (conv => whnf); refine ld1 (v := .int .i64 x.2) ct3 (by rw [b4.cell]; rfl) b4.lt ?_
  (conv => whnf); refine pures (final_p h1.va) fun H3 ha3 => ?_
  have st3 := st1.call ha3
  refine ⟨ha3, ?_⟩
  (conv => whnf); refine pures (final_p (h.vb.frame (st3.old.mono hS))) fun H4 ha4 => ?_
  have st4 := st3.call ha4
  have h14 := ha3.trans (ha4.mono fun k hk => old_lt ha3 hk)
  refine ⟨h14, ?_⟩
  (conv => whnf); refine pures (hf H4 _ _) fun H5 ha5 => ?_
  have st5 := st4.call ha5
  have h15 := h14.trans (ha5.mono fun k hk => old_lt h14 hk)
  refine ⟨h15, ?_⟩
  (conv => whnf)
  refine ⟨h15, ?_⟩
  (conv => whnf)
  exact ⟨rfl, st5.old⟩
theorem atG_len {K : Type} [DecidableEq K] {most : Nat} {F F' : List K} {k : K} {i : Nat} (h : atF most F k = some (F', i)) (hl : F.length ≤ most) : F'.length ≤ most ∧ i < most := by
  unfold atF at h
  split at h
  · rename_i j hj
    injection h with h; injection h with h1 h2; subst h1; subst h2
    have := (List.findIdx?_eq_some_iff_getElem.1 hj).1
    omega
  · split at h
    · injection h with h; injection h with h1 h2; subst h1; subst h2
      simp only [List.length_append, List.length_cons, List.length_nil]; omega
    · cases h
/-- What Explore answers. -/
def ExpP (a b : Option AM) (ends : Bool → Bool → Bool) (most : Nat) (cs : List (BitVec 256)) (l0 : Int × Int) (H H' : Heap) (r : Value) : Prop := Agr (Old H) H H' ∧
  match detF most (stepPr a b) (bsOf cs) l0 with
  | none => r = .tuple #[.pointer none, .bool false]
  | some (F, rows) => ∃ v, r = .tuple #[v, .bool true] ∧ AutoV (fun k => H.size ≤ k ∧ k < H'.size) H' v (if soundB cs (rows.map rowI) F.length then some (madeM cs (rows.map rowI) (F.map fun x => ends (finM a x.1) (finM b x.2))) else none)
set_option maxHeartbeats 16000000 in
theorem exploreP_c {ca : Option Addr} {cc most : Nat} {cs : List (BitVec 256)} {l0 : Int × Int} (hS : ∀ k, S k → k < H.size) (hab : BoxAB S H pa pb va vb a b) (hpf : S pf) (hcf : Cells H pf 0 [.func (.func f) #[] #[]]) (hf : ∀ (G : Heap) (x y : Bool), Pure Tryz.prog f #[.bool x, .bool y] G (.bool (ends x y)))
    (hcs : SlD tSet S H ca cc cs) (hcl : cs.length ≤ 256) (sa : StepOk a) (sb : StepOk b) (hl0 : inPr a b l0) (hm1 : 1 ≤ most) (hm : most ≤ 4096) :
    FnOk Tryz.prog 122 #[pkV l0, .slice ca cs.length cc, .func (.func 120) #[] #[.pointer (some ⟨pa, 0, none⟩), .pointer (some ⟨pb, 0, none⟩)], .func (.func 121) #[] #[.pointer (some ⟨pf, 0, none⟩), .pointer (some ⟨pa, 0, none⟩), .pointer (some ⟨pb, 0, none⟩)], .int .i64 (most : Int)] H fun r H' => ExpP a b ends most cs l0 H H' r := by
  have h16 : ∀ x, inPr a b x → Pr16 x := fun x hx => by
    have h1 := sa.n2
    have h2 := sb.n2
    obtain ⟨⟨x1, x2⟩, x3, x4⟩ := hx
    exact ⟨⟨x1, by omega⟩, x3, by omega⟩
  have hst : ∀ x c, inPr a b x → inPr a b (stepPr a b x c) := fun x c hx => by
    unfold stepPr
    split
    · rename_i h
      exact ⟨sa.step x.1 c hx.1 h, sb.step x.2 c hx.2 h⟩
    · exact hx
  have hF0 : ∀ x ∈ [l0], inPr a b x := fun x hx => by rw [List.mem_singleton] at hx; subst hx; exact hl0
  refine FnOk.of_vc Tryz.func122 rfl (Tryz.call122 _) ?_
  (conv => whnf); refine vbox (pkL l0) rfl ?_
  intro kb0 H0' hkb0 hs0 hb0' ha0'
  have st0 := (St.nil H).box hkb0 hs0 hb0' ha0'
  (conv => whnf); refine mmakeW (Ok := PkOk) (enc := pkV) fun mb H1 hb1 hs1 hm1' ha1 => ?_
  have st1 := st0.mapNewW hb1 hs1 hm1' ha1
  (conv => whnf); refine vbuildS Tryz.underlying301 rfl (.agg #[.map none, .slice none 0 0, .int .i64 0]) rfl (exL mb (.slice none 0 0) most) rfl ?_
  (conv => whnf); refine vbox (exL mb (.slice none 0 0) most) rfl ?_
  intro xb H2 hxb hs2 hb2 ha2
  have stA := (st1.box hxb hs2 hb2 ha2).nils tLp 224
  have hkc : Cells H2 kb0 0 (pkL l0) := (stA.blk 0 rfl).cells fun j v hv => by rw [Nat.zero_add]; exact hv
  have st2 : St H H2 (exPS xb mb none 0 most [] []) := stA.pick [2, 1, 3] (by decide)
  have hat0 : atF most ([] : List (Int × Int)) l0 = some ([l0], 0) := by
    unfold atF
    rw [List.findIdx?_nil]
    simp only
    rw [if_pos (by simp only [List.length_nil]; omega)]
    rfl
  (conv => whnf); refine ldN (cs := pkL l0) ag224 hkc trivial ?_
  (conv => whnf); refine atP_v st2 (h16 l0 hl0).ok hm (Nat.zero_le _) (fun F' i fa' fc' H3 h1 st3 => ?_) (fun H3 h1 _ => ?_)
  · rw [hat0] at h1
    injection h1 with h1
    injection h1 with h1 h2
    subst h1; subst h2
    have st4 : St H H3 (exPS xb mb fa' fc' most [l0] [pN (tSl tIk) none_ 41 none 0 0 [], pS tBool 4 none 0 0 []]) := (st3.nils (tSl tIk) 41).nils tBool 4
    (conv => whnf)
    refine VLoop.mk [15, 16, 17] (fun x : Nat × List (Int × Int) × List (List Nat) × Option Addr × Nat × Option Addr × Nat => match x with | (i, F, rows, na, nc, ba, bc) => [.slice na i nc, .slice ba i bc, .int .i64 (i : Int)])
      (fun x H4 => match x with | (i, F, rows, na, nc, ba, bc) => i ≤ F.length ∧ F.length ≤ most ∧ (∀ x ∈ F, inPr a b x) ∧ rows.length = i ∧ rowsF most (stepPr a b) (bsOf cs) l0 i = some (F, rows) ∧ ∃ Sx fa fc, St H H4 (exPS xb mb fa fc most F [pN (tSl tIk) Sx 41 na i nc (rows.map rowI), pS tBool 4 ba i bc ((F.take i).map fun x => ends (finM a x.1) (finM b x.2))])) (fun x _ => most - x.1) ?_ ?_
    · (conv => whnf)
      exact ⟨(0, [l0], [], none, 0, none, 0), rfl, Nat.zero_le _, by simp only [List.length_cons, List.length_nil]; omega, hF0, rfl, rfl, none_, fa', fc', st4⟩
    · rintro ⟨i, F, rows, na, nc, ba, bc⟩ H4 junk4 ⟨hiF, hFm, hHF, hrl, hrun, Sx, fa, fc, st5⟩
      have hb5 := st5.blk 0 rfl
      (conv => whnf); refine VC.fa fl301_1 ?_
      (conv => whnf); refine ld1 (v := .slice fa F.length fc) ct299 (by rw [hb5.cell]; rfl) trivial ?_
      (conv => whnf); refine VIte.mk (fun hz => ?_) (fun hz => ?_) <;> simp only [decide_eq_true_eq, decide_eq_false_iff_not] at hz
      · obtain ⟨x, hx⟩ := get_some (l := F) (k := i) (by omega)
        have hxh := hHF x (List.mem_of_getElem? hx)
        have hnext : rowsF most (stepPr a b) (bsOf cs) l0 (i + 1) = ((bsOf cs).foldl (rowF most (stepPr a b) x) (some (F, []))).map fun r => (r.1, rows ++ [r.2]) := by
          show (rowsF most (stepPr a b) (bsOf cs) l0 i).bind _ = _
          rw [hrun]
          simp only [Option.bind_some, hx]
        (conv => whnf); refine vmake1 sl41 rfl (by omega) (by omega) (by omega) (by omega) ?_
        intro rb H6 hrb hs6 hb6 ha6
        rw [Int.toNat_natCast] at hb6
        rw [Int.toNat_natCast, show (0 : Int).toNat = 0 from rfl]
        have st6 := st5.newCap (T := tIk) (cap := cs.length) hrb hs6 hb6 ha6 (by simp [tInt]) (by unfold maxLen; omega)
        (conv => whnf)
        refine VLoop.mk [18, 51] (fun y : Nat × List (Int × Int) × List Nat × Option Addr × Nat => match y with | (j, F', row, ra, rc) => [.slice ra row.length rc, .int .i64 (j : Int)])
          (fun y H7 => match y with | (j, F', row, ra, rc) => j ≤ cs.length ∧ F'.length ≤ most ∧ (∀ x ∈ F', inPr a b x) ∧ F <+: F' ∧ row.length = j ∧ ((bsOf cs).take j).foldl (rowF most (stepPr a b) x) (some (F, [])) = some (F', row) ∧ ∃ fa fc, St H H7 (exPS xb mb fa fc most F' [pN (tSl tIk) Sx 41 na i nc (rows.map rowI), pS tBool 4 ba i bc ((F.take i).map fun x => ends (finM a x.1) (finM b x.2)), pS tIk 3 ra row.length rc (rowI row)])) (fun y _ => cs.length - y.1) ?_ ?_
        · (conv => whnf)
          exact ⟨(0, F, [], some ⟨rb, 0, none⟩, cs.length), rfl, Nat.zero_le _, hFm, hHF, List.prefix_refl _, rfl, rfl, fa, fc, st6⟩
        · rintro ⟨j, F', row, ra, rc⟩ H7 junk7 ⟨hj, hF'm, hHF', hpre, hrowl, hfold, fa7, fc7, st7⟩
          (conv => whnf); refine VIte.mk (fun hz2 => ?_) (fun hz2 => ?_) <;> simp only [decide_eq_true_eq, decide_eq_false_iff_not] at hz2
          · obtain ⟨c, hc⟩ := get_some (l := cs) (k := j) (by omega)
            have hbs := bsOf_get hc
            have hblt := nextM_lt c 0
            have hxF' := pre_get hpre hx
            (conv => whnf); refine ixr (i := j) sl106 (hcs.frame (st7.old.mono hS)) hc rfl ?_
            rintro b8 o8 cs8 hS8 hc8 rfl
            (conv => whnf); refine ldN (cs := setL c) ag101 hc8 trivial ?_
            (conv => whnf); refine valloc (setV 0) (setL 0) rfl rfl ?_
            intro sx H8 hsx hs8 hb8 ha8
            have st8 := st7.box hsx hs8 hb8 ha8
            (conv => whnf); refine stNB (cs := setL c) st8 6 rfl rfl (Nat.le_refl _) rfl fun H9 st9 => ?_
            rw [splice_all (show (setL c).length = (setL 0).length from rfl)] at st9
            (conv => whnf); refine ldN (cs := setL c) ag101 ((st9.blk 6 rfl).cells fun j v hv => by rw [Nat.zero_add]; exact hv) trivial ?_
            (conv => whnf); refine pures (next_p c 0 (by decide) H9) fun H10 ha10 => ?_
            have st10 := st9.call ha10
            have hb10 := st10.blk 0 rfl
            (conv => whnf); refine VC.fa fl301_1 ?_
            (conv => whnf); refine ld1 (v := .slice fa7 F'.length fc7) ct299 (by rw [hb10.cell]; rfl) trivial ?_
            have hview := st10.view 2 rfl
            (conv => whnf); refine ixrn (i := i) sl299 hview rfl hxF' rfl ?_
            rintro b11 o11 c11 hS11 hc11 rfl
            (conv => whnf); refine ldN (cs := pkL x) ag224 hc11 trivial ?_
            have up10 : ∀ k, S k → k < H10.size := fun k hk => st10.up (hS k hk)
            (conv => whnf); refine pures (stepP_p (S := S) up10 (hab.frame (st10.old.mono hS)) hblt) fun H11 ha11 => ?_
            have st11 := st10.call ha11
            replace st11 : St H H11 (exPS xb mb fa7 fc7 most F' [pN (tSl tIk) Sx 41 na i nc (rows.map rowI), pS tBool 4 ba i bc ((F.take i).map fun x => ends (finM a x.1) (finM b x.2)), pS tIk 3 ra row.length rc (rowI row)]) := st11.pick [0, 1, 2, 3, 4, 5] (by decide)
            have hstep : ((bsOf cs).take (j + 1)).foldl (rowF most (stepPr a b) x) (some (F, [])) = (atF most F' (stepPr a b x (nextM c 0).1)).map fun r => (r.1, row ++ [r.2]) := by
              rw [take_succ_snoc hbs, List.foldl_append, hfold]
              rfl
            (conv => whnf); refine atP_v st11 (h16 _ (hst x _ hxh)).ok hm hF'm (fun F2 t fa12 fc12 H12 h12 st12 => ?_) (fun H12 h12 st12 => ?_)
            · obtain ⟨hl2, htm⟩ := atG_len h12 hF'm
              rw [h12] at hstep
              (conv => whnf); refine vbuild1 sl41 [.int .i64 (t : Int)] rfl rfl (by decide) (by decide) ?_
              intro q13 H13 hq13 hs13 hb13 ha13
              (conv => whnf); refine app1 (x := (t : Int)) (st12.skip hq13 ha13) 5 sl41 rfl hb13 ⟨rfl, kint ⟨by omega, by omega⟩⟩ rfl (by unfold rowI; rw [List.length_map]; omega) (by decide) fun a14 c14 H14 st14 _ => ?_
              have e1 : (rowI row).length + 1 = (row ++ [t]).length := by unfold rowI; simp
              have e2 : rowI row ++ [(t : Int)] = rowI (row ++ [t]) := by unfold rowI; simp
              rw [e1, e2] at st14
              rw [e1]
              (conv => whnf); rw [w64 (x := (j : Int) + 1) (by omega) (by omega)]
              exact ⟨rfl, (j + 1, F2, row ++ [t], a14, c14), by simp, ⟨by omega, hl2, fun y hy => (atF_mem2 h12 y hy).elim (hHF' y) fun e => by rw [e]; exact hst x _ hxh, hpre.trans (by
                unfold atF at h12
                split at h12
                · injection h12 with h; injection h with h1 h2; subst h1; exact List.prefix_refl _
                · split at h12
                  · injection h12 with h; injection h with h1 h2; subst h1; exact List.prefix_append _ _
                  · cases h12), by simp [hrowl], hstep, fa12, fc12, st14⟩, by simp only; omega⟩
            · rw [h12] at hstep
              have hnone : (bsOf cs).foldl (rowF most (stepPr a b) x) (some (F, [])) = none := by
                have h3 := (List.take_append_drop (j + 1) (bsOf cs)).symm
                rw [h3, List.foldl_append, hstep]
                exact rowF_none x _
              have hdet : detF most (stepPr a b) (bsOf cs) l0 = none := detF_none (n := i) (by rw [hnext, hnone]; rfl) (by omega)
              (conv => whnf)
              refine ⟨st12.old, ?_⟩
              rw [hdet]
          · obtain rfl : j = cs.length := by omega
            have hfull : (bsOf cs).foldl (rowF most (stepPr a b) x) (some (F, [])) = some (F', row) := by
              rw [← hfold, List.take_of_length_le (by unfold bsOf; rw [List.length_map]; exact Nat.le_refl _)]
            rw [hfull] at hnext
            simp only [Option.map_some] at hnext
            have hxF' := pre_get hpre hx
            have hri : (rowI row).length = row.length := by unfold rowI; rw [List.length_map]
            have hrl2 : (rows.map rowI).length = i := by rw [List.length_map]; exact hrl
            have hend : ((F'.take (i + 1)).map fun x => ends (finM a x.1) (finM b x.2)) = ((F.take i).map fun x => ends (finM a x.1) (finM b x.2)) ++ [ends (finM a x.1) (finM b x.2)] := by
              obtain ⟨t, rfl⟩ := hpre
              rw [List.take_append_of_le_length (by omega), take_succ_snoc hx, List.map_append]
              rfl
            have hel7 : ((F.take i).map fun x => ends (finM a x.1) (finM b x.2)).length = i := by rw [List.length_map, List.length_take]; omega
            obtain ⟨ra', rc', er, hrow7, -⟩ := (st7.at_ 5 rfl).1.view (S' := slB (.slice ra row.length rc)) (fun b hb => hb) (fun b hb => hb.elim)
            injection er with er1 er2 er3
            subst er1; subst er3
            have st8 : St H H7 (pN (tSl tIk) (fun k => Sx k ∨ slB (.slice ra row.length rc) k) 41 na i nc (rows.map rowI) :: [pB tExP xb (exL mb (.slice fa7 F'.length fc7) most), pMW PkOk pkV mb (exPM F'), pS tLp 224 fa7 F'.length fc7 F', pS tBool 4 ba i bc ((F.take i).map fun x => ends (finM a x.1) (finM b x.2))]) := StB.absorb (st7.pick [3, 5, 0, 1, 2, 4] (by decide))
            (conv => whnf); refine vbuild1 sl35 [.slice ra row.length rc] rfl rfl (by decide) (by decide) ?_
            intro q13 H13 hq13 hs13 hb13 ha13
            have st13 := st8.skip hq13 ha13
            have hrow13 : SlD tIk (fun k => Sx k ∨ slB (.slice ra row.length rc) k) H13 ra rc (rowI row) := (hrow7.frame (ha13.mono fun k hk => by
              have := (st7.in_ 5 rfl (.inl hk)).2
              omega)).mono fun k hk => .inr hk
            (conv => whnf); refine appNO (row := rowI row) st13 sl35 (hb13.cells fun j v hv => by rw [Nat.zero_add]; exact hv) ⟨ra, rc, by rw [hri], hrow13⟩ rfl (fun u hu => by cases List.mem_singleton.1 hu; rfl) (by rw [hrl2]; omega) (by decide) fun a14 c14 H14 st14 => ?_
            rw [hrl2] at st14 ⊢
            have hb14 := st14.blk 1 rfl
            (conv => whnf); refine VC.fa fl301_1 ?_
            (conv => whnf); refine ld1 (v := .slice fa7 F'.length fc7) ct299 (by rw [hb14.cell]; rfl) trivial ?_
            (conv => whnf); refine ixrn (i := i) sl299 (st14.view 3 rfl) rfl hxF' rfl ?_
            rintro b11 o11 c11 hS11 hc11 rfl
            (conv => whnf); refine ldN (cs := pkL x) ag224 hc11 trivial ?_
            have up14 : ∀ k, S k → k < H14.size := fun k hk => st14.up (hS k hk)
            (conv => whnf); refine pures (finalP_p (S := S) up14 (hab.frame (st14.old.mono hS)) hpf (hcf.eq (st14.old pf (hS pf hpf))) hf) fun H15 ha15 => ?_
            have st15 := st14.call ha15
            (conv => whnf); refine vbuild1 sl36 [.bool (ends (finM a x.1) (finM b x.2))] rfl rfl (by decide) (by decide) ?_
            intro q16 H16 hq16 hs16 hb16 ha16
            (conv => whnf); refine app1 (x := ends (finM a x.1) (finM b x.2)) (st15.skip hq16 ha16) 4 sl36 rfl hb16 rfl rfl (by rw [hel7]; omega) (by decide) fun a17 c17 H17 st17 _ => ?_
            rw [hel7, ← hend] at st17
            rw [hel7]
            (conv => whnf); rw [w64 (x := (i : Int) + 1) (by omega) (by omega)]
            refine ⟨rfl, (i + 1, F', rows ++ [row], a14, c14, a17, c17), by simp, ⟨?_, hF'm, hHF', by simp [hrl], hnext, (fun k => Sx k ∨ slB (.slice ra row.length rc) k), fa7, fc7, ?_⟩, by simp only; omega⟩
            · have := (List.getElem?_eq_some_iff.1 hxF').1
              omega
            · have e5 : rows.map rowI ++ [rowI row] = (rows ++ [row]).map rowI := by simp
              rw [e5] at st17
              exact st17.pick [1, 2, 3, 0, 4] (by decide)
      · obtain rfl : i = F.length := by omega
        rw [List.take_length] at st5
        have hrl2 : (rows.map rowI).length = F.length := by rw [List.length_map]; exact hrl
        have hdet := detF_done hrun rfl hFm
        have hnew := new_c ca na ba cc nc bc cs (rows.map rowI) (F.map fun x => ends (finM a x.1) (finM b x.2)) (Old H4) H4 (fun k hk => hk) ((hcs.frame (st5.old.mono hS)).mono fun k hk => st5.up (hS k hk)) (st5.view 3 rfl) (st5.view 4 rfl)
        rw [hrl2, List.length_map] at hnew
        (conv => whnf); refine VCall.mk hnew ?_
        rintro v H6 ⟨ha6, hs6, hv6⟩
        have st6 := st5.call ha6
        (conv => whnf)
        refine ⟨st6.old, ?_⟩
        rw [hdet]
        exact ⟨v, rfl, hv6.mono fun k hk => ⟨Nat.le_trans (old_size st5.old) hk.1, hk.2⟩⟩
  · rw [hat0] at h1
    cases h1
end
end Go.Proofs.YtfbghcpdinlmcaaGreatDoor
/- lang.product, Meet, Join, Less: the walks. -/
set_option linter.unusedVariables false
set_option linter.unusedSimpArgs false
set_option maxRecDepth 100000
namespace Go.Proofs.YtfbghcpdinlmcaaGreatDoor
open Go.VC
attribute [local irreducible] mRun gRun atRun
/-- The product of the pairs that are reached. -/
def IsProd (a b : Option AM) (ends : Bool → Bool → Bool) (F : List (Int × Int)) (p : Option AM) : Prop :=
  IsMade p ∧ LeadsG (stepPr a b) (fun x : Int × Int => ends (finM a x.1) (finM b x.2)) F (stepM p) (finM p) ∧ stN p = F.length
def ProdR (a b : Option AM) (ends : Bool → Bool → Bool) (m : Int) (H H' : Heap) (r : Value) : Prop :=
  if m < 1 ∨ 4096 < m then r = .tuple #[.pointer none, .int .i64 2] else
  match prW a b m.toNat with
  | none => r = .tuple #[.pointer none, .int .i64 40]
  | some F => ∃ v A, r = .tuple #[v, .int .i64 0] ∧ AutoV (fun k => H.size ≤ k ∧ k < H'.size) H' v (some A) ∧ IsProd a b ends F (some A)
theorem auto_one {S : Nat → Prop} {H : Heap} {v : Value} {o : Option AM} (h : AutoV S H v o) : v.cells = [v].toArray := by
  cases o with
  | none => obtain rfl := h; rfl
  | some A => obtain ⟨p, rfl, -⟩ := h; rfl
section
variable {S : Nat → Prop} {H : Heap} {va vb : Value} {a b : Option AM} {ends : Bool → Bool → Bool} {f : FuncId} {m : Int}
set_option maxHeartbeats 16000000 in
theorem product_c (hS : ∀ k, S k → k < H.size) (hva : AutoV S H va a) (hvb : AutoV S H vb b) (ha : IsMade a) (hb : IsMade b) (hf : ∀ (G : Heap) (x y : Bool), Pure Tryz.prog f #[.bool x, .bool y] G (.bool (ends x y))) :
    FnOk Tryz.prog 57 #[va, vb, .int .i64 m, .func (.func f) #[] #[]] H fun r H' => Agr (Old H) H H' ∧ ProdR a b ends m H H' r := by
  have sa := ha.steps
  have sb := hb.steps
  have hla := cells_le hva
  have hlb := cells_le hvb
  have hpb : 0 < (cellsM b).length := by
    obtain ⟨ls, h⟩ := hb.ok
    exact cells_pos h
  refine FnOk.of_vc Tryz.func57 rfl (Tryz.call57 _) ?_
  (conv => whnf); refine vbox [va] (auto_one hva) ?_
  intro pa H1 hpa hs1 hb1 ha1
  have st1 := (St.nil H).box hpa hs1 hb1 ha1
  (conv => whnf); refine vbox [vb] (auto_one hvb) ?_
  intro pb H2 hpb2 hs2 hb2 ha2
  have st2 := st1.box hpb2 hs2 hb2 ha2
  (conv => whnf); refine vbox [.func (.func f) #[] #[]] rfl ?_
  intro pf H3 hpf hs3 hb3 ha3
  have st3 := st2.box hpf hs3 hb3 ha3
  unfold ProdR
  by_cases hm1 : m < 1
  · have d1 : decide (m < 1) = true := decide_eq_true hm1
    (conv => whnf); rw [d1]
    (conv => whnf)
    exact ⟨st3.old, by rw [if_pos (.inl hm1)]⟩
  · have d1 : decide (m < 1) = false := decide_eq_false hm1
    by_cases hm2 : 4096 < m
    · have d2 : decide (m > 4096) = true := decide_eq_true hm2
      (conv => whnf); rw [d1]
      (conv => whnf); rw [d2]
      (conv => whnf)
      exact ⟨st3.old, by rw [if_pos (.inr hm2)]⟩
    · have d2 : decide (m > 4096) = false := decide_eq_false hm2
      obtain ⟨n, rfl⟩ := Int.eq_ofNat_of_zero_le (show 0 ≤ m by omega)
      have hn1 : 1 ≤ n := by omega
      have hn2 : n ≤ 4096 := by omega
      (conv => whnf); rw [d1]
      (conv => whnf); rw [d2]
      have hS3 : ∀ {G : Heap} {ps : List Pc}, St H3 G ps → Agr S H G := fun st => (st3.old.trans (st.old.mono fun k hk => old_lt st3.old hk)).mono hS
      have up3 : ∀ {G : Heap} {ps : List Pc}, St H3 G ps → ∀ k, S k → k < G.size := fun st k hk => old_lt st.old (st3.up (hS k hk))
      have sx0 := St.nil H3
      (conv => whnf); refine VDraw.heldZ (Old H3) [] (sq [0,2] (.f 1 (.f 3 (.f 4 (.f 5 (.f 6 .e)))))) rfl (by kernel_rfl) ?_
      (conv => whnf); refine ld1 (v := va) ct23 (by rw [(st3.blk 0 rfl).cell]; rfl) (st3.blk 0 rfl).lt ?_
      (conv => whnf); refine ld1 (v := vb) ct23 (by rw [(st3.blk 1 rfl).cell]; rfl) (st3.blk 1 rfl).lt ?_
      (conv => whnf); refine VCall.mk (cells_o (up3 sx0) (hva.frame (hS3 sx0))) ?_
      rintro _ G1 ⟨ga1, -, hw1⟩
      obtain ⟨aa, ac, rfl, sx1⟩ := sx0.got ga1 hw1
      refine ⟨sx1.old, ?_⟩
      (conv => whnf); refine VCall.mk (cells_o (up3 sx1) (hvb.frame (hS3 sx1))) ?_
      rintro _ G2 ⟨ga2, -, hw2⟩
      obtain ⟨ba, bc, rfl, sx2⟩ := sx1.got ga2 hw2
      refine ⟨sx2.old, ?_⟩
      (conv => whnf); refine appSS sx2 0 1 sl106 rfl rfl hpb tSet_ones (by omega) (by decide) fun a3 c3 G3 sx3 _ => ?_
      refine ⟨sx3.old, ?_⟩
      obtain ⟨sets, hsets⟩ : ∃ sets, sets = cellsM a ++ cellsM b := ⟨_, rfl⟩
      have hsl : (cellsM a).length + (cellsM b).length = sets.length := by rw [hsets, List.length_append]
      rw [hsl, ← hsets] at sx3
      rw [hsl]
      (conv => whnf); refine VCall.mk (clsAtoms_c (S := Old G3) (fun k hk => hk) (sx3.view 0 rfl) (by omega)) ?_
      rintro _ G4 ⟨ga4, a4, c4, rfl, h4⟩
      have sx4 := sx3.call ga4
      refine ⟨sx4.old, ?_⟩
      (conv => whnf)
      refine ⟨sx4.old, ?_⟩
      have hal := reps_len sets
      have hgen := genPr ha hb
      rw [← hsets] at hgen
      have b1 := (st3.blk 0 rfl).agr sx4.old (st3.blk 0 rfl).lt
      have b2 := (st3.blk 1 rfl).agr sx4.old (st3.blk 1 rfl).lt
      have b3 := (st3.blk 2 rfl).agr sx4.old (st3.blk 2 rfl).lt
      have cl : ∀ {p t : Nat} {l : List Value}, Blk G4 p t l → Cells G4 p 0 l := fun h => h.cells fun j v hv => by rw [Nat.zero_add]; exact hv
      have hold : ∀ k, S k → Old G4 k := fun k hk => up3 sx4 k hk
      have hbox : BoxAB (Old G4) G4 pa pb va vb a b := ⟨b1.lt, b2.lt, cl b1, cl b2, (hva.frame (hS3 sx4)).mono hold, (hvb.frame (hS3 sx4)).mono hold⟩
      (conv => whnf); refine vbuildS Tryz.underlying224 rfl (pkV (0, 0)) pair_zL (pkL (0, 0)) rfl ?_
      (conv => whnf); refine VCall.mk (exploreP_c (S := Old G4) (l0 := (0, 0)) (most := n) (fun k hk => hk) hbox b3.lt (cl b3) hf h4 hal sa sb hgen.beg hn1 hn2) ?_
      rintro r G5 ⟨ga5, hr⟩
      have sx5 := sx4.call ga5
      have hfin : Agr (Old H) H G5 := st3.old.trans (sx5.old.mono fun k hk => old_lt st3.old hk)
      rw [show bsOf (atomsM sets) = repsM sets from rfl] at hr
      have hdA := hgen.detA hn1
      have hpw : prW a b ((n : Int)).toNat = detW n (stepPr a b) (0, 0) := by rw [Int.toNat_natCast]; rfl
      cases hd : detF n (stepPr a b) (repsM sets) (0, 0) with
      | none =>
        rw [hd] at hr hdA
        simp only at hr
        subst hr
        (conv => whnf)
        refine ⟨hfin, ?_⟩
        rw [if_neg (by omega), hpw, ← hdA]
        rfl
      | some z =>
        obtain ⟨F, rows⟩ := z
        rw [hd] at hr hdA
        obtain ⟨v, rfl, hv⟩ := hr
        obtain ⟨hsd, hL, hN⟩ := autoG (fin := fun x : Int × Int => ends (finM a x.1) (finM b x.2)) hgen hn1 (by omega) hd
        rw [if_pos hsd] at hv
        (conv => whnf)
        refine ⟨hfin, ?_⟩
        rw [if_neg (by omega), hpw, ← hdA]
        have hsz := old_size st3.old
        have hsz2 := old_size sx4.old
        exact ⟨v, _, rfl, hv.mono fun k hk => ⟨by omega, hk.2⟩, ⟨atomsM sets, rows.map rowI, F.map fun x => ends (finM a x.1) (finM b x.2), by
          unfold autoOf
          rw [List.length_map, if_pos hsd]⟩, hL, hN⟩
def orB (x y : Bool) : Bool := x || y
def andB (x y : Bool) : Bool := x && y
theorem meet1_p (G : Heap) (x y : Bool) : Pure Tryz.prog 58 #[.bool x, .bool y] G (.bool (andB x y)) := by
  refine FnOk.of_vc Tryz.func58 rfl (Tryz.call58 _) ?_
  cases x <;> ((conv => whnf); exact ⟨rfl, Agr.refl _ _⟩)
theorem join1_p (G : Heap) (x y : Bool) : Pure Tryz.prog 59 #[.bool x, .bool y] G (.bool (orB x y)) := by
  refine FnOk.of_vc Tryz.func59 rfl (Tryz.call59 _) ?_
  cases x <;> ((conv => whnf); exact ⟨rfl, Agr.refl _ _⟩)
theorem less1_p (G : Heap) (x y : Bool) : Pure Tryz.prog 60 #[.bool x, .bool y] G (.bool (outB x y)) := by
  refine FnOk.of_vc Tryz.func60 rfl (Tryz.call60 _) ?_
  cases x <;> ((conv => whnf); exact ⟨rfl, Agr.refl _ _⟩)
theorem prodR_tuple {H' : Heap} {r : Value} (h : ProdR a b ends m H H' r) : ∃ x y, r = .tuple #[x, y] := by
  unfold ProdR at h
  split at h
  · exact ⟨_, _, h⟩
  · split at h
    · exact ⟨_, _, h⟩
    · obtain ⟨v, A, h, -⟩ := h
      exact ⟨_, _, h⟩
theorem meetL_c (hS : ∀ k, S k → k < H.size) (hva : AutoV S H va a) (hvb : AutoV S H vb b) (ha : IsMade a) (hb : IsMade b) :
    FnOk Tryz.prog 21 #[va, vb, .int .i64 m] H fun r H' => Agr (Old H) H H' ∧ ProdR a b andB m H H' r := by
  refine FnOk.of_vc Tryz.func21 rfl (Tryz.call21 _) ?_
  (conv => whnf); refine VCall.mk (product_c hS hva hvb ha hb meet1_p) ?_
  rintro r H1 ⟨ha1, hr⟩
  obtain ⟨x, y, rfl⟩ := prodR_tuple hr
  (conv => whnf)
  exact ⟨ha1, hr⟩
theorem joinL_c (hS : ∀ k, S k → k < H.size) (hva : AutoV S H va a) (hvb : AutoV S H vb b) (ha : IsMade a) (hb : IsMade b) :
    FnOk Tryz.prog 22 #[va, vb, .int .i64 m] H fun r H' => Agr (Old H) H H' ∧ ProdR a b orB m H H' r := by
  refine FnOk.of_vc Tryz.func22 rfl (Tryz.call22 _) ?_
  (conv => whnf); refine VCall.mk (product_c hS hva hvb ha hb join1_p) ?_
  rintro r H1 ⟨ha1, hr⟩
  obtain ⟨x, y, rfl⟩ := prodR_tuple hr
  (conv => whnf)
  exact ⟨ha1, hr⟩
theorem lessL_c (hS : ∀ k, S k → k < H.size) (hva : AutoV S H va a) (hvb : AutoV S H vb b) (ha : IsMade a) (hb : IsMade b) :
    FnOk Tryz.prog 23 #[va, vb, .int .i64 m] H fun r H' => Agr (Old H) H H' ∧ ProdR a b outB m H H' r := by
  refine FnOk.of_vc Tryz.func23 rfl (Tryz.call23 _) ?_
  (conv => whnf); refine VCall.mk (product_c hS hva hvb ha hb less1_p) ?_
  rintro r H1 ⟨ha1, hr⟩
  obtain ⟨x, y, rfl⟩ := prodR_tuple hr
  (conv => whnf)
  exact ⟨ha1, hr⟩
end
end Go.Proofs.YtfbghcpdinlmcaaGreatDoor
/- lang.Not: the walk, and what it makes. -/
set_option linter.unusedVariables false
set_option linter.unusedSimpArgs false
set_option maxRecDepth 100000
namespace Go.Proofs.YtfbghcpdinlmcaaGreatDoor
open Go.VC
attribute [local irreducible] mRun gRun atRun
def rowN (o : Option AM) (q : Nat) : List Int := (bsOf (cellsM o)).map fun b => stepM o (q : Int) b
def finN (o : Option AM) (n q : Nat) : List Bool := (List.range n).map fun i => if i < q then !finM o (i : Int) else false
def tabN (o : Option AM) (n q j : Nat) : List (List Int) := (List.range n).map fun i => if i < q then rowN o i else if i = q then (rowN o q).take j else []
section
variable {o : Option AM} {n q j : Nat}
theorem rowN_len : (rowN o q).length = (cellsM o).length := by unfold rowN bsOf; simp
theorem tabN_len : (tabN o n q j).length = n := by simp [tabN]
theorem finN_len : (finN o n q).length = n := by simp [finN]
theorem tabN_get (h : q < n) : (tabN o n q j)[q]? = some ((rowN o q).take j) := by
  unfold tabN
  rw [List.getElem?_map, List.getElem?_range h]
  simp
theorem tabN_set {x : Int} (h : q < n) (hx : (rowN o q)[j]? = some x) : (tabN o n q j).set q ((rowN o q).take j ++ [x]) = tabN o n q (j + 1) := by
  rw [← take_succ_snoc hx]
  apply List.ext_getElem?
  intro i
  by_cases hi : i < n
  · rw [List.getElem?_set]
    by_cases e : q = i
    · subst e
      rw [if_pos rfl, if_pos (by rw [tabN_len]; exact h), tabN_get h]
    · rw [if_neg e]
      unfold tabN
      rw [List.getElem?_map, List.getElem?_map, List.getElem?_range hi]
      simp only [Option.map_some]
      congr 1
      by_cases h1 : i < q
      · rw [if_pos h1, if_pos h1]
      · rw [if_neg h1, if_neg h1, if_neg (fun h => e h.symm), if_neg (fun h => e h.symm)]
  · rw [List.getElem?_eq_none (by rw [List.length_set, tabN_len]; omega), List.getElem?_eq_none (by rw [tabN_len]; omega)]
theorem tabN_next (hj : (rowN o q).length ≤ j) : tabN o n q j = tabN o n (q + 1) 0 := by
  unfold tabN
  refine List.map_congr_left fun i _ => ?_
  by_cases h1 : i < q
  · rw [if_pos h1, if_pos (by omega)]
  · rw [if_neg h1]
    by_cases h2 : i = q
    · subst h2
      rw [if_pos rfl, if_pos (by omega), List.take_of_length_le hj]
    · rw [if_neg h2, if_neg (by omega)]
      simp
theorem tabN_zero : tabN o n 0 0 = List.replicate n [] := by
  unfold tabN
  rw [List.eq_replicate_iff]
  refine ⟨by simp, fun b hb => ?_⟩
  obtain ⟨i, -, rfl⟩ := List.mem_map.1 hb
  simp
theorem tabN_end : tabN o n n 0 = (List.range n).map (rowN o) := by
  unfold tabN
  refine List.map_congr_left fun i hi => ?_
  rw [if_pos (List.mem_range.1 hi)]
theorem finN_zero : finN o n 0 = List.replicate n false := by
  unfold finN
  rw [List.eq_replicate_iff]
  refine ⟨by simp, fun b hb => ?_⟩
  obtain ⟨i, -, rfl⟩ := List.mem_map.1 hb
  simp
theorem finN_set (h : q < n) : (finN o n q).set q (!finM o (q : Int)) = finN o n (q + 1) := by
  apply List.ext_getElem?
  intro i
  by_cases hi : i < n
  · rw [List.getElem?_set]
    unfold finN
    by_cases e : q = i
    · subst e
      rw [if_pos rfl, if_pos (by simpa using h), List.getElem?_map, List.getElem?_range hi]
      simp
    · rw [if_neg e, List.getElem?_map, List.getElem?_map, List.getElem?_range hi]
      simp only [Option.map_some]
      congr 1
      by_cases h1 : i < q
      · rw [if_pos h1, if_pos (by omega)]
      · rw [if_neg h1, if_neg (by omega)]
  · rw [List.getElem?_eq_none (by rw [List.length_set, finN_len]; omega), List.getElem?_eq_none (by rw [finN_len]; omega)]
/-- What Not makes. -/
def notA (o : Option AM) : AM := madeM (cellsM o) ((List.range (stN o)).map (rowN o)) (finN o (stN o) (stN o))
theorem not_made (h : IsMade o) : soundB (cellsM o) ((List.range (stN o)).map (rowN o)) (finN o (stN o) (stN o)).length = true ∧ IsMade (some (notA o)) ∧ stN (some (notA o)) = stN o ∧ (∀ q b : Nat, q < stN o → b < 256 → stepM (some (notA o)) (q : Int) b = stepM o (q : Int) b) ∧ ∀ q : Nat, q < stN o → finM (some (notA o)) (q : Int) = !finM o (q : Int) := by
  obtain ⟨ls, hc⟩ := h.ok
  have hs := h.steps
  have h1 := hs.n1
  have h2 := hs.n2
  have hsd : soundB (cellsM o) ((List.range (stN o)).map (rowN o)) (finN o (stN o) (stN o)).length = true := by
    rw [soundB_iff]
    refine ⟨⟨by simp; omega, by simp; omega, by rw [finN_len]; simp⟩, fun b hb => cellsOk_cnt hc hb, fun r hr => ?_⟩
    obtain ⟨q, hq, rfl⟩ := List.mem_map.1 hr
    have hq := List.mem_range.1 hq
    unfold rowOk
    rw [Bool.and_eq_true, beq_iff_eq, List.all_eq_true]
    refine ⟨rowN_len, fun t ht => ?_⟩
    unfold rowN bsOf at ht
    obtain ⟨b, hb, rfl⟩ := List.mem_map.1 ht
    obtain ⟨c, -, rfl⟩ := List.mem_map.1 hb
    have := hs.step (q : Int) (nextM c 0).1 ⟨by omega, by omega⟩ (nextM_lt c 0)
    simp only [Bool.and_eq_true, decide_eq_true_eq, List.length_map, List.length_range]
    exact this
  refine ⟨hsd, ⟨_, _, _, by unfold autoOf; rw [if_pos hsd]; rfl⟩, by unfold notA; simp only [stN, madeM, List.length_map, List.length_range], fun q b hq hb => ?_, fun q hq => ?_⟩
  · obtain ⟨c1, c2⟩ := soundB_cells hsd hb
    obtain ⟨c, hcg⟩ := get_some c1
    have hcb := c2 c hcg
    unfold notA
    rw [madeM_step (row := rowN o q) hsd (by rw [List.getElem?_map, List.getElem?_range hq]; rfl) hb]
    obtain ⟨l, hl, -, hnl, -⟩ := hc.least _ c hcg
    have hk := (hc.keeps _ c l b hcg hl hb hcb).2 (q : Int) (by omega) (by omega)
    unfold rowN bsOf
    rw [List.getD_eq_getElem?_getD, List.getElem?_map, List.getElem?_map, hcg]
    show stepM o (q : Int) (nextM c 0).1 = _
    rw [hnl, hk]
  · unfold notA
    simp [finM, madeM, finN, hq]
set_option maxHeartbeats 16000000 in
theorem notL_c {S : Nat → Prop} {H : Heap} {va : Value} (hS : ∀ k, S k → k < H.size) (hva : AutoV S H va o) (hm : IsMade o) :
    FnOk Tryz.prog 26 #[va] H fun r H' => Agr (Old H) H H' ∧ AutoV (fun k => H.size ≤ k ∧ k < H'.size) H' r (some (notA o)) := by
  have hs := hm.steps
  have h1 := hs.n1
  have h2 := hs.n2
  have hla := cells_le hva
  obtain ⟨n, hn⟩ : ∃ n, n = stN o := ⟨_, rfl⟩
  rw [← hn] at h1 h2
  have hVA : ∀ {G : Heap} {ps : List Pc}, St H G ps → AutoV S G va o := fun st => hva.frame (st.old.mono hS)
  refine FnOk.of_vc Tryz.func26 rfl (Tryz.call26 _) ?_
  (conv => whnf); refine VCall.mk (cells_o hS hva) ?_
  rintro _ H1 ⟨ha1, -, hw1⟩
  obtain ⟨ca, cc, rfl, st1⟩ := (St.nil H).got ha1 hw1
  (conv => whnf); refine pures (states_p (hVA st1)) fun H2 ha2 => ?_
  have st2 := st1.call ha2
  rw [← hn]
  (conv => whnf); refine vmake1 sl35 rfl (by omega) (by omega) (by omega) (by omega) ?_
  intro nb H3 hnb hs3 hb3 ha3
  rw [Int.toNat_natCast] at hb3 ⊢
  have st3 := st2.tabNew tI 3 hnb hs3 hb3 ha3
  (conv => whnf); refine pures (states_p (hVA st3)) fun H4 ha4 => ?_
  have st4 := st3.call ha4
  rw [← hn]
  (conv => whnf); refine vmake1 sl36 rfl (by omega) (by omega) (by omega) (by omega) ?_
  intro fb H5 hfb hs5 hb5 ha5
  rw [Int.toNat_natCast] at hb5 ⊢
  have hbr : tBool.reps none_ H5 (List.replicate n (Value.bool false)) (List.replicate n false) := by
    have := bool_reps (S := none_) (H := H5) (List.replicate n false)
    rwa [List.map_replicate] at this
  have st5 := st4.new (T := tBool) (n := n) (xs := List.replicate n false) hfb hs5 (by simpa using hb5) ha5 hbr (by simp) (by unfold maxLen; omega)
  rw [← finN_zero (o := o), ← tabN_zero (o := o)] at st5
  (conv => whnf)
  refine VLoop.mk [21] (fun q : Nat => [.int .i64 (q : Int)]) (fun q G => q ≤ n ∧ ∃ vs, St H G [pS tSet 101 ca (cellsM o).length cc (cellsM o), pT tI 3 41 nb vs (tabN o n q 0), pS tBool 4 (some ⟨fb, 0, none⟩) n n (finN o n q)]) (fun q _ => n - q) ?_ ?_
  · (conv => whnf)
    exact ⟨0, rfl, Nat.zero_le _, _, st5⟩
  · clear st5 st4 st3 st2 st1
    rintro q H6 junk6 ⟨hq, vs, st6⟩
    (conv => whnf); refine VIte.mk (fun hz => ?_) (fun hz => ?_) <;> simp only [decide_eq_true_eq, decide_eq_false_iff_not] at hz
    · have hq8 : q < n := by omega
      (conv => whnf)
      refine VLoop.mk [26] (fun j : Nat => [.int .i64 (j : Int)]) (fun j G => j ≤ (cellsM o).length ∧ ∃ vs, St H G [pS tSet 101 ca (cellsM o).length cc (cellsM o), pT tI 3 41 nb vs (tabN o n q j), pS tBool 4 (some ⟨fb, 0, none⟩) n n (finN o n q)]) (fun j _ => (cellsM o).length - j) ?_ ?_
      · (conv => whnf)
        exact ⟨0, rfl, Nat.zero_le _, _, st6⟩
      · clear st6
        rintro j H7 junk7 ⟨hj, vs7, st7⟩
        (conv => whnf); refine VIte.mk (fun hz2 => ?_) (fun hz2 => ?_) <;> simp only [decide_eq_true_eq, decide_eq_false_iff_not] at hz2
        · obtain ⟨c, hc⟩ := get_some (l := cellsM o) (k := j) (by omega)
          have hblt := nextM_lt c 0
          (conv => whnf); refine ixO (j := j) sl106 st7 0 rfl hc rfl ?_
          rintro b8 o8 c8 hS8 hc8 rfl
          (conv => whnf); refine ldN (cs := setL c) ag101 hc8 trivial ?_
          (conv => whnf); refine valloc (setV 0) (setL 0) rfl rfl ?_
          intro sx H8 hsx hs8 hb8 ha8
          have st8 := st7.box hsx hs8 hb8 ha8
          (conv => whnf); refine stNB (cs := setL c) st8 3 rfl rfl (Nat.le_refl _) rfl fun H9 st9 => ?_
          rw [splice_all (show (setL c).length = (setL 0).length from rfl)] at st9
          (conv => whnf); refine ldN (cs := setL c) ag101 ((st9.blk 3 rfl).cells fun j v hv => by rw [Nat.zero_add]; exact hv) trivial ?_
          (conv => whnf); refine pures (next_p c 0 (by decide) H9) fun H10 ha10 => ?_
          have st10 := st9.call ha10
          have hrow := tabN_get (o := o) (j := j) hq8
          obtain ⟨wa, wc, hvi, -⟩ := st10.row 1 rfl hrow
          have htl : vs7.length = n := by rw [(st10.tab 1 rfl).len, tabN_len]
          have hrj : (rowN o q)[j]? = some (stepM o (q : Int) (nextM c 0).1) := by
            unfold rowN bsOf
            rw [List.getElem?_map, List.getElem?_map, hc]; rfl
          have hnbl := (st10.tab 1 rfl).blk.lt
          have hrl : ((rowN o q).take j).length = j := by rw [List.length_take, rowN_len]; omega
          have hstr := hs.step (q : Int) (nextM c 0).1 ⟨by omega, by omega⟩ hblt
          (conv => whnf); refine VDraw.heldZ (fun k => k = nb) [13] (sq [0,1,2,3,4,5,6,7,8] (.f 9 (.f 10 (.f 11 (sq [12] (.f 13 .e)))))) rfl (by kernel_rfl) ?_
          (conv => whnf); refine ix sl35 (by omega) (by omega) ?_
          (conv => whnf); refine ld1 ct41 (st10.tcell 1 rfl hvi (by rw [Nat.zero_add, Nat.mul_one, Int.toNat_natCast])) rfl ?_
          (conv => whnf); refine pures (step_p (fun k hk => st10.up (hS k hk)) (hVA st10) hblt) fun H11 ha11 => ?_
          have st11 := st10.call ha11
          have g11 : Agr (fun k => k = nb) H10 H11 := ha11.mono fun k hk => by rw [hk]; exact hnbl
          refine ⟨g11, ?_⟩
          (conv => whnf); refine vbuild1 sl41 [.int .i64 (stepM o (q : Int) (nextM c 0).1)] rfl rfl (by decide) (by decide) ?_
          intro q12 H12 hq12 hs12 hb12 ha12
          have hnb11 : nb < H11.size := (st11.tab 1 rfl).blk.lt
          have g12 : Agr (fun k => k = nb) H10 H12 := g11.trans (ha12.mono fun k hk => by omega)
          refine ⟨g12, ?_⟩
          have st12 := st11.skip hq12 ha12
          (conv => whnf); refine appT st12 1 sl41 rfl hvi hrow hb12 ⟨rfl, kint ⟨hstr.1, by have := hstr.2; rw [← hn] at this; omega⟩⟩ rfl (by omega) (by decide) fun wa' wc' H13 mid => ?_
          have g13 : Agr (fun k => k = nb) H12 H13 := by
            obtain ⟨v, hv, hag, -⟩ := mid.ex
            refine hag.mono fun k hk => ?_
            subst hk
            refine ⟨(st12.tab 1 rfl).blk.lt, fun h => ?_⟩
            rw [hvi] at hv
            cases hv
            have := (((st12.tab 1 rfl).own _ _ _ hvi hrow).lt h).1
            omega
          refine ⟨g12.trans g13, ?_⟩
          (conv => whnf); refine ix sl35 (by omega) (by omega) ?_
          (conv => whnf); refine stT mid ct41 (by rw [Nat.zero_add, Nat.mul_one, Int.toNat_natCast]) fun H14 st14 => ?_
          (conv => whnf); rw [w64 (x := (j : Int) + 1) (by omega) (by omega)]
          rw [tabN_set hq8 hrj] at st14
          have hex : ∃ vs, St H H14 [pS tSet 101 ca (cellsM o).length cc (cellsM o), pT tI 3 41 nb vs (tabN o n q (j + 1)), pS tBool 4 (some ⟨fb, 0, none⟩) n n (finN o n q)] := ⟨_, st14.pick [0, 1, 2] (by decide)⟩
          exact ⟨rfl, j + 1, by simp, ⟨by omega, hex⟩, by omega⟩
        · obtain rfl : j = (cellsM o).length := by omega
          rw [tabN_next (by rw [rowN_len]; exact Nat.le_refl _)] at st7
          (conv => whnf); refine pures (final_p (hVA st7)) fun H8 ha8 => ?_
          have st8 := st7.call ha8
          (conv => whnf); refine ix sl36 (by omega) (by omega) ?_
          (conv => whnf); refine st1O (j := q) (x := !finM o (q : Int)) st8 2 ct4 rfl rfl (by omega) (by rw [finN_len]; omega) rfl (fun H' _ => rfl) fun H9 st9 => ?_
          rw [finN_set hq8] at st9
          (conv => whnf); rw [w64 (x := (q : Int) + 1) (by omega) (by omega)]
          exact ⟨rfl, q + 1, by simp, ⟨by omega, vs7, st9⟩, by omega⟩
    · obtain rfl : q = n := by omega
      rw [tabN_end] at st6
      have hv1 := st6.tview 1 rfl (by simp; unfold maxLen; omega)
      have hnew := new_c ca (some ⟨nb, 0, none⟩) (some ⟨fb, 0, none⟩) cc q q (cellsM o) ((List.range q).map (rowN o)) (finN o q q) (Old H6) H6 (fun k hk => hk) (st6.view 0 rfl) (by
        have := hv1
        rw [List.length_map, List.length_range] at this
        exact this) (st6.view 2 rfl)
      rw [List.length_map, List.length_range, finN_len] at hnew
      (conv => whnf); refine VCall.mk hnew ?_
      rintro v H7 ⟨ha7, hs7, hv7⟩
      have st7 := st6.call ha7
      obtain ⟨hsd, -⟩ := not_made hm
      rw [← hn, finN_len] at hsd
      rw [if_pos hsd] at hv7
      (conv => whnf)
      refine ⟨st7.old, ?_⟩
      have := old_size st6.old
      unfold notA
      rw [← hn]
      exact hv7.mono fun k hk => ⟨by have := hk.1; omega, hk.2⟩
end
end Go.Proofs.YtfbghcpdinlmcaaGreatDoor
/- The automaton of a plain text: how many states, what it takes; speaks of the laws of layer 6. -/
set_option linter.unusedVariables false
set_option linter.unusedSimpArgs false
set_option maxRecDepth 100000
namespace Go.Proofs.YtfbghcpdinlmcaaGreatDoor
open Go.VC
attribute [local irreducible] mRun gRun atRun
theorem big_step (a : NfM) (x : List Int) {b : Nat} (hb : 256 ≤ b) : stepA a x b = [] := by
  have h : ∀ q, goS a (fun q => q ∈ x) b q → False := clS_least (Y := fun _ => False) (fun q ⟨e, _, _, hbit, _⟩ => by
    rw [BitVec.getLsbD_of_ge _ _ hb] at hbit; cases hbit) fun e _ _ _ h => h
  rw [List.eq_nil_iff_forall_not_mem]
  intro q hq
  exact h q ((lstS_mem (has_rng (goS_has a _ b)) q).1 hq)
theorem closedW {K : Type} [DecidableEq K] {most : Nat} {step : K → Nat → K} {start : K} {F : List K} (hm : 1 ≤ most) (h : detW most step start = some F) : ∀ x ∈ F, ∀ b, b < 256 → step x b ∈ F := by
  unfold detW at h
  cases hd : detF most step (List.range 256) start with
  | none => rw [hd] at h; cases h
  | some z =>
    obtain ⟨G, rows⟩ := z
    rw [hd] at h
    simp only [Option.map_some, Option.some.injEq] at h
    subst h
    have hk := rowsF_ok hm G.length G rows (detF_at hm hd) fun j hj => hj
    intro x hx b hb
    obtain ⟨q, hq⟩ := List.getElem?_of_mem hx
    obtain ⟨row, hrow⟩ := get_some (l := rows) (k := q) (by rw [hk.rl]; exact (List.getElem?_eq_some_iff.1 hq).1)
    have hcl := hk.cols row (List.mem_of_getElem? hrow)
    obtain ⟨t, ht⟩ := get_some (l := row) (k := b) (by rw [hcl]; simpa using hb)
    exact List.mem_of_getElem? (hk.ok q b row b t x hrow (List.getElem?_range hb) ht hq)
section
variable {l : List Nat}
theorem text_fold (hn : l.length ≤ 30000) (hb8 : ∀ c ∈ l, c < 256) : ∀ i, i ≤ l.length → (l.take i).foldl (stepA (nfaOf (textR l))) (begL (nfaOf (textR l))) = txL l.length i
  | 0, _ => by rw [List.take_zero]; exact text_begL hn
  | i + 1, hi => by
    obtain ⟨c, hc⟩ := get_some (l := l) (k := i) (by omega)
    rw [take_succ_snoc hc, List.foldl_append, text_fold hn hb8 i (by omega)]
    show stepA _ _ c = _
    rw [text_step hn hb8 (by omega) (hb8 c (List.mem_of_getElem? hc)), if_pos hc]
theorem text_fin (hn : l.length ≤ 30000) {i : Nat} (hi : i ≤ l.length) : (nfaOf (textR l)).fin ∈ txL l.length i ↔ i = l.length := by
  rw [txL_mem hn hi]
  by_cases hl : l = []
  · subst hl
    unfold txS
    rw [if_pos (show ([] : List Nat).length = 0 from rfl)]
    have : i = 0 := by simpa using hi
    subst this
    exact ⟨fun _ => rfl, fun _ => .inr rfl⟩
  · have hpos : 0 < l.length := List.length_pos_iff.2 hl
    have hf : (nfaOf (textR l)).fin = ((2 * l.length - 1 : Nat) : Int) := by
      show (((bldM (textR l) 0).2.1 : Nat) : Int) = _
      rw [(text_edges l hl).2.2.1]
    unfold txS
    rw [if_neg (by omega), hf]
    omega
theorem text_det (hn : l.length ≤ 30000) (hb8 : ∀ c ∈ l, c < 256) {most : Nat} (hm : 1 ≤ most) : (l.length + 2 ≤ most → ∃ F, detN (nfaOf (textR l)) most = some F ∧ F.length = l.length + 2) ∧ (most < l.length + 2 → detN (nfaOf (textR l)) most = none) := by
  have hP : ∀ x b, x ∈ txAll l.length → stepA (nfaOf (textR l)) x b ∈ txAll l.length := fun x b hx => by
    by_cases hb : b < 256
    · exact txAll_step hn hb8 hx hb
    · rw [big_step _ _ (by omega)]; exact List.mem_cons_self
  have h0 : begL (nfaOf (textR l)) ∈ txAll l.length := by rw [text_begL hn]; exact txAll_in (Nat.zero_le _)
  have key : ∀ F, detN (nfaOf (textR l)) most = some F → F.length = l.length + 2 ∧ F.length ≤ most := fun F hF => by
    have hlen := detW_len hm hF
    have hcl := closedW hm hF
    have hsub : ∀ x ∈ txAll l.length, x ∈ F := by
      have hT : ∀ i, i ≤ l.length → txL l.length i ∈ F := fun i => by
        induction i with
        | zero => intro _; rw [← text_begL hn]; exact List.mem_of_getElem? hlen.2.2.2
        | succ i ih =>
          intro hi
          obtain ⟨c, hc⟩ := get_some (l := l) (k := i) (by omega)
          have hc8 := hb8 c (List.mem_of_getElem? hc)
          have := hcl _ (ih (by omega)) c hc8
          rwa [text_step hn hb8 (by omega) hc8, if_pos hc] at this
      intro x hx
      rcases List.mem_cons.1 hx with rfl | hx
      · have := hcl _ (hT l.length (Nat.le_refl _)) 0 (by decide)
        rwa [text_step hn hb8 (Nat.le_refl _) (by decide), if_neg (by rw [List.getElem?_eq_none (Nat.le_refl _)]; simp)] at this
      · obtain ⟨i, hi, rfl⟩ := List.mem_map.1 hx
        exact hT i (by have := List.mem_range.1 hi; omega)
    have hsup : ∀ x ∈ F, x ∈ txAll l.length := by
      have hF' := hF
      unfold detN detW at hF'
      cases hd : detF most (stepA (nfaOf (textR l))) (List.range 256) (begL (nfaOf (textR l))) with
      | none => rw [hd] at hF'; cases hF'
      | some z =>
        obtain ⟨G, rows⟩ := z
        rw [hd] at hF'
        simp only [Option.map_some, Option.some.injEq] at hF'
        subst hF'
        exact (rows_inv (P := fun x => x ∈ txAll l.length) hm h0 (fun x b hx => hP x b hx) _ most G rows hd).2.2.2
    have h1 := nodup_sub (txAll_nd hn) hsub
    have h2 := nodup_sub hlen.2.2.1 hsup
    rw [txAll_len] at h1 h2
    exact ⟨by omega, hlen.2.1⟩
  constructor
  · intro h
    cases hd : detN (nfaOf (textR l)) most with
    | some F => exact ⟨F, rfl, (key F hd).1⟩
    | none =>
      exfalso
      unfold detN detW at hd
      rw [Option.map_eq_none_iff] at hd
      obtain ⟨L, k1, k2, k3⟩ := rowsF_none_many (P := fun x => x ∈ txAll l.length) hm h0 hP _ _ hd
      have := nodup_sub k1 k3
      rw [txAll_len] at this
      omega
  · intro h
    cases hd : detN (nfaOf (textR l)) most with
    | none => rfl
    | some F => have := key F hd; omega
end
/-- The states that a word leads to. -/
theorem leads5_run {a : NfM} {F : List (List Int)} {st : Int → Nat → Int} {fi : Int → Bool} (h : Leads5 a F st fi) : ∀ (w : List Nat) (q : Nat) (x : List Int), bytes_ w → F[q]? = some x → ∃ t : Nat, w.foldl st (q : Int) = (t : Int) ∧ F[t]? = some (w.foldl (stepA a) x)
  | [], q, x, _, hx => ⟨q, rfl, hx⟩
  | b :: w, q, x, hw, hx => by
    obtain ⟨t, e, ht⟩ := h.st q b x hx (hw b (by simp))
    obtain ⟨u, e2, hu⟩ := leads5_run h w t (stepA a x b) (fun c hc => hw c (by simp [hc])) ht
    exact ⟨u, by rw [List.foldl_cons, e]; exact e2, hu⟩
theorem leads5_acc {a : NfM} {F : List (List Int)} {o : Option AM} (h : Leads5 a F (stepM o) (finM o)) (h0 : F[0]? = some (begL a)) {w : List Nat} (hw : bytes_ w) : accL o w = decide (a.fin ∈ w.foldl (stepA a) (begL a)) := by
  obtain ⟨t, e, ht⟩ := leads5_run h w 0 _ hw h0
  show finM o (w.foldl (stepM o) 0) = _
  rw [show w.foldl (stepM o) (0 : Int) = (t : Int) from e, h.fi t _ ht]
/-- What Determinize of a text's automaton gives. -/
theorem text_detB {l : List Nat} (hn : l.length ≤ 30000) (hb8 : ∀ c ∈ l, c < 256) {b : Int} (h1 : 1 ≤ b) (h2 : b ≤ 4096) : if (l.length : Int) + 2 ≤ b then ∃ F, detB (nfaOf (textR l)) b = .ok F ∧ F.length = l.length + 2 ∧ F[0]? = some (begL (nfaOf (textR l))) else detB (nfaOf (textR l)) b = .error 40 := by
  obtain ⟨m, rfl⟩ := Int.eq_ofNat_of_zero_le (show 0 ≤ b by omega)
  obtain ⟨k1, k2⟩ := text_det hn hb8 (most := m) (by omega)
  rw [detB_in (by omega) (by omega)]
  split
  · obtain ⟨F, hF, hl⟩ := k1 (by omega)
    rw [hF]
    exact ⟨F, rfl, hl, (detW_len (by omega) hF).2.2.2⟩
  · rw [k2 (by omega)]
set_option maxHeartbeats 8000000 in
theorem speaks06_p {H : Heap} (hpow : PowH Tryz.prog H) : Pure Tryz.prog 13 #[] H (.bool true) := by
  have hb : bytes_ [97, 98] := fun b hb => by simp at hb; omega
  have hbn : byN ⟨#[97, 98]⟩ = [97, 98] := rfl
  have hnd : (textR [97, 98]).nodes = 3 := rfl
  refine FnOk.of_vc Tryz.func13 rfl (Tryz.call13 _) ?_
  (conv => whnf); refine pures (text_p ⟨#[97, 98]⟩ (by decide) H) fun H1 ha1 => ?_
  rw [hbn]
  (conv => whnf); refine VCall.mk (langBuild_c (textR [97, 98]) (textR_plain _) (by rw [hnd]; decide) (hpow.agr ha1)) ?_
  rintro _ H2 ⟨ha2, x, y, z, hS, rfl⟩
  have h12 := ha1.trans (ha2.mono fun k hk => old_lt ha1 hk)
  unfold StartR at hS
  rw [if_neg (by decide), if_neg (by rw [hnd]; decide)] at hS
  have hd := text_detB (l := [97, 98]) (by decide) hb (b := 4) (by decide) (by decide)
  rw [if_pos (by decide)] at hd
  obtain ⟨F, hF, hFl, hF0⟩ := hd
  rw [hF] at hS
  obtain ⟨v, o, e, hv, hL, hN⟩ := hS
  have e := Array.toList_inj.2 (Value.tuple.inj e)
  simp only [List.cons.injEq, and_true] at e
  obtain ⟨rfl, rfl, rfl⟩ := e
  (conv => whnf); refine pures (text_p ⟨#[97, 98]⟩ (by decide) H2) fun H3 ha3 => ?_
  have h13 := h12.trans (ha3.mono fun k hk => old_lt h12 hk)
  rw [hbn]
  (conv => whnf); refine VCall.mk (langNeed_c (textR [97, 98]) (textR_plain _) (by rw [hnd]; decide) (hpow.agr h13)) ?_
  rintro _ H4 ⟨ha4, x', y', z', hS', rfl⟩
  have h14 := h13.trans (ha4.mono fun k hk => old_lt h13 hk)
  unfold StartR at hS'
  rw [if_neg (by decide), if_neg (by rw [hnd]; decide)] at hS'
  have hd' := text_detB (l := [97, 98]) (by decide) hb (b := 4096) (by decide) (by decide)
  rw [if_pos (by decide)] at hd'
  obtain ⟨F', hF', hFl', -⟩ := hd'
  rw [hF'] at hS'
  obtain ⟨v', o', e', -, -, -⟩ := hS'
  have e' := Array.toList_inj.2 (Value.tuple.inj e')
  simp only [List.cons.injEq, and_true] at e'
  obtain ⟨rfl, rfl, rfl⟩ := e'
  have h24 : Agr (Old H2) H2 H4 := ha3.trans (ha4.mono fun k hk => old_lt ha3 hk)
  have hv4 := hv.frame h24
  obtain ⟨pv, hpv⟩ : ∃ pv, x = .pointer (some pv) := by
    obtain ⟨pv, e, -⟩ := hv
    exact ⟨_, e⟩
  subst hpv
  have acc : ∀ i, i ≤ 2 → accL (some o) ([97, 98].take i) = decide (i = 2) := fun i hi => by
    rw [leads5_acc hL hF0 (fun b hb' => hb b (List.mem_of_mem_take hb')), text_fold (l := [97, 98]) (by decide) hb i hi, decide_eq_decide]
    exact text_fin (l := [97, 98]) (by decide) hi
  have a2 : acceptsM (some o) ⟨#[97, 98]⟩ = true := by
    rw [show (⟨#[97, 98]⟩ : ByteArray) = bA [97, 98] from rfl, acc_bA hb]
    exact acc 2 (Nat.le_refl _)
  have a1 : acceptsM (some o) ⟨#[97]⟩ = false := by
    rw [show (⟨#[97]⟩ : ByteArray) = bA [97] from rfl, acc_bA (fun b hb' => hb b (by simp at hb'; simp [hb']))]
    exact acc 1 (by decide)
  have hFl4 : F'.length = 4 := hFl'
  rw [hFl4]
  (conv => whnf); refine pneqS Tryz.underlying23 ?_
  have hq1 := accepts_p (s := ⟨#[97, 98]⟩) (fun k hk => old_lt h24 hk) hv4 (by decide)
  (conv => whnf); refine pures hq1 fun H5 ha5 => ?_
  rw [a2]
  have h25 := h24.trans (ha5.mono fun k hk => old_lt h24 hk)
  have hq2 := accepts_p (s := ⟨#[97]⟩) (fun k hk => old_lt h25 hk) (hv.frame h25) (by decide)
  (conv => whnf); refine pures hq2 fun H6 ha6 => ?_
  rw [a1]
  have h26 := h25.trans (ha6.mono fun k hk => old_lt h25 hk)
  (conv => whnf)
  exact ⟨rfl, h12.trans (h26.mono fun k hk => old_lt h12 hk)⟩
end Go.Proofs.YtfbghcpdinlmcaaGreatDoor
/- auto of the laws of layer 06. -/
set_option linter.unusedVariables false
set_option linter.unusedSimpArgs false
set_option maxRecDepth 100000
namespace Go.Proofs.YtfbghcpdinlmcaaGreatDoor
open Go.VC
attribute [local irreducible] mRun atRun

set_option maxHeartbeats 4000000 in
theorem auto06_c (v : Value) (cells : List (BitVec 256)) (next : List (List Int)) (final : List Bool) (S : Nat → Prop) (H : Heap) (ht : TabIn S H v cells next final) :
    FnOk Tryz.prog 19 #[v] H fun v H' => Agr (Old H) H H' ∧ H.size ≤ H'.size ∧ AutoV (Fresh H H') H' v (autoOf cells next final) := by
  obtain ⟨hS, ⟨ca, na, fa, cc, nc, fc, rfl, hc, hn, hf⟩, cn, nn, rn, fn⟩ := ht
  refine FnOk.of_vc Tryz.func19 rfl (Tryz.call19 _) ?_
  (conv => whnf); refine vbox [.slice ca cells.length cc, .slice na next.length nc, .slice fa final.length fc] rfl ?_
  intro pb H1 hpb hs1 hb1 ha1
  (conv => whnf); refine VC.fa fl38_0 ?_
  (conv => whnf); refine ld1 ct34 (by rw [hb1.cell]; rfl) trivial ?_
  (conv => whnf); refine vmakeT (T := tSet) (v := 0#256) (S := fun _ => False) sl106 (zero_set _ _) (by omega) rfl (by omega) (by omega) ?_
  intro nb H2 hnb hs2 hb2' ha2
  rw [Int.toNat_natCast] at hb2'
  have hA2 : Agr (Old H) H H2 := (ha1.mono fun j hj => by unfold Old at hj; omega).trans (ha2.mono fun j hj => by unfold Old at hj; omega)
  (conv => whnf)
  refine VLoop.mk [4] (fun k : Nat => [.int .i64 k]) (fun k H3 => k ≤ cells.length ∧ Agr (fun j => j < H2.size ∧ j ≠ nb) H2 H3 ∧ H3.size = H2.size ∧
    SlO tSet (fun _ => False) H3 H.size 101 (.slice (some ⟨nb, 0, none⟩) cells.length cells.length) (cells.take k ++ List.replicate (cells.length - k) 0#256)) (fun k _ => cells.length - k) ?_ ?_
  · (conv => whnf)
    refine ⟨0, rfl, by omega, Agr.refl _ _, rfl, ?_⟩
    rw [fill_beg]
    exact SlO.made (by omega) hb2' (zero_set _ _) (by unfold maxLen; omega)
  · rintro k H3 junk ⟨hk, ha3, hs3, hown⟩
    have hb13 := (hb1.agr ha2 (show pb < nb by omega)).agr ha3 ⟨by omega, by omega⟩
    have hA3 : Agr (Old H) H H3 := hA2.trans (ha3.mono fun j hj => by unfold Old at hj; omega)
    (conv => whnf); refine VC.fa fl38_0 ?_
    (conv => whnf); refine ld1 ct34 (by rw [hb13.cell]; rfl) trivial ?_
    (conv => whnf); refine VIte.mk (fun h => ?_) (fun h => ?_) <;> simp only [decide_eq_true_eq, decide_eq_false_iff_not] at h
    · obtain ⟨x, hx⟩ := get_some (l := cells) (k := k) (by omega)
      (conv => whnf); refine VC.fa fl38_0 ?_
      (conv => whnf); refine ld1 ct34 (by rw [hb13.cell]; rfl) trivial ?_
      (conv => whnf); refine ixr sl34 (hc.frame (hA3.mono hS)) hx rfl ?_
      rintro b4 o4 cs4 hSb4 hcells4 rfl
      (conv => whnf); refine ldN (cs := setL x) ag100 hcells4 trivial ?_
      obtain ⟨-, -, hlo5, l5, hblk5, hlen5, hget5, hput5⟩ := hown.placeS (i := k) (by rw [fill_len hk]; omega)
      (conv => whnf); refine ix sl106 (by omega) (by omega) ?_
      (conv => whnf); refine VC.stN rfl hblk5 (by rw [Nat.zero_add, Int.toNat_natCast]; exact hlen5) rfl ?_
      intro H6 hb6 ha6 hs6
      rw [Nat.zero_add, Int.toNat_natCast] at hb6
      have hown6 := hput5 H6 (setL x) x hb6 (fun j hj => hj.elim) rfl
      rw [fill_set hx] at hown6
      (conv => whnf); rw [w64 (x := (k : Int) + 1) (by omega) (by omega)]
      exact ⟨rfl, k + 1, by simp, ⟨by omega, ha3.trans (ha6.mono fun j hj => hj.2), by omega, hown6⟩, by omega⟩
    · obtain rfl : k = cells.length := by omega
      rw [fill_end] at hown
      have hSs : ∀ {H4 : Heap}, Agr (Old H3) H3 H4 → Agr S H H4 := fun h => (hA3.trans (h.mono fun k hk => old_lt hA3 hk)).mono hS
      have hSo : ∀ {H4 : Heap}, Agr (Old H3) H3 H4 → ∀ k, S k → k < H4.size := fun h k hk => old_lt h (old_lt hA3 (hS k hk))
      have fin : ∀ {H6 : Heap} {v1 v3 : Value} {nb lo1 lo2 : Nat} {vs : List Value} {K : Value → Heap → Prop}, Agr (Old H3) H3 H6 → SlO tSet (fun _ => False) H6 lo1 101 v1 cells → Tab tI (fun _ => False) H6 (nb + 1) 3 nb 41 vs next → SlO tBool (fun _ => False) H6 lo2 4 v3 final →
          (∀ v H7, Agr (Old H) H H7 → H.size ≤ H7.size → Agr (Old H3) H3 H7 → AutoV (Fresh H H7) H7 v (autoOf cells next final) → K v H7) → VCall Tryz.prog 51 #[v1, .slice (some ⟨nb, 0, none⟩) next.length next.length, v3] H6 K := fun hag h1 h2 h3 k =>
        vcall_newO h1 h2 h3 (by unfold maxLen; omega) fun v H7 h4 h5 h6 => k v H7 (hA3.trans ((hag.trans (h4.mono fun k hk => old_lt hag hk)).mono fun k hk => old_lt hA3 hk)) (by have := old_size hag; omega) (hag.trans (h4.mono fun k hk => old_lt hag hk)) (h6.mono fun k hk => ⟨by have := old_size hag; have := hk.1; omega, hk.2⟩)
      have hnb3 : nb < H3.size := by omega
      (conv => whnf)
      refine VDraw.held (Old H3) 9 (sq [0,1,2,5,6] (.b 3 (.f 4 (.f 7 (.f 8 (.f 9 .e)))) 4 (.f 3 (.f 7 (.f 8 (.f 9 .e)))))) rfl (by kernel_rfl) ?_
      (conv => whnf); refine VC.fa fl38_1 ?_
      (conv => whnf); refine ld1 ct35 (by rw [hb13.cell]; rfl) hb13.lt ?_
      (conv => whnf); refine VC.fa fl38_2 ?_
      (conv => whnf); refine ld1 ct36 (by rw [hb13.cell]; rfl) hb13.lt ?_
      (conv => whnf); refine ⟨?_, ?_⟩
      · refine VCall.mk (rows_c na nc next S H3 (hSo (Agr.refl _ _)) (hn.frame (hSs (Agr.refl _ _))) (by omega) (fun row hr => Nat.le_trans (rn row hr) (by decide))) ?_
        rintro v4 H4 ⟨ha4, hs4, mb, vs, rfl, hmb, tab⟩
        refine ⟨ha4, ?_⟩
        (conv => whnf); refine vbuild0 sl36 ?_
        intro q H5 hq hs5 hb5 ha5
        have hA5 : Agr (Old H3) H3 H5 := ha4.trans (ha5.mono fun k hk => by have := old_lt ha4 hk; omega)
        refine ⟨hA5, ?_⟩
        (conv => whnf); refine ends_c hb5 (S := S) (fun k hk => ⟨hSo hA5 k hk, by have := hSo ha4 k hk; omega⟩) (hf.frame (hSs hA5)) (by omega) ?_
        intro v6 H6 own3 ha6 hs6
        have h46 : Agr (fun k => k < H4.size) H4 H6 := (ha5.mono fun k hk => by omega).trans (ha6.mono fun k hk => by omega)
        have hA6 : Agr (Old H3) H3 H6 := ha4.trans (h46.mono fun k hk => old_lt ha4 hk)
        refine ⟨hA6, ?_⟩
        (conv => whnf); refine fin hA6 (hown.agr hA6 (fun b hb => (hown.lt hb).2) (fun _ h => h.elim)) (tab.agr h46 tab.blk.lt (fun b _ hb => hb) (fun _ h => h.elim)) own3 fun v7 H7 g1 g2 g3 g4 => ⟨g3, ?_⟩
        (conv => whnf); exact ⟨g1, g2, g4⟩
      · refine vbuild0 sl36 ?_
        intro q H4 hq hs4 hb4 ha4
        have hA4 : Agr (Old H3) H3 H4 := ha4.mono fun k hk => by unfold Old at hk; omega
        refine ⟨hA4, ?_⟩
        (conv => whnf); refine VCall.mk (rows_c na nc next S H4 (hSo hA4) (hn.frame (hSs hA4)) (by omega) (fun row hr => Nat.le_trans (rn row hr) (by decide))) ?_
        rintro v5 H5 ⟨ha5, hs5, mb, vs, rfl, hmb, tab⟩
        have hA5 := hA4.trans (ha5.mono fun k hk => old_lt hA4 hk)
        refine ⟨hA5, ?_⟩
        (conv => whnf); refine ends_c (hb4.agr ha5 hb4.lt) (S := S) (fun k hk => ⟨hSo hA5 k hk, by have := hSo (Agr.refl _ _) k hk; omega⟩) (hf.frame (hSs hA5)) (by omega) ?_
        intro v6 H6 own3 ha6 hs6
        have hA6 : Agr (Old H3) H3 H6 := hA5.trans (ha6.mono fun k hk => ⟨old_lt hA5 hk, by unfold Old at hk; omega⟩)
        refine ⟨hA6, ?_⟩
        (conv => whnf); refine fin hA6 (hown.agr hA6 (fun b hb => (hown.lt hb).2) (fun _ h => h.elim)) (tab.agr ha6 ⟨tab.blk.lt, by omega⟩ (fun b h1 h2 => ⟨h2, by omega⟩) (fun _ h => h.elim)) own3 fun v7 H7 g1 g2 g3 g4 => ⟨g3, ?_⟩
        (conv => whnf); exact ⟨g1, g2, g4⟩

end Go.Proofs.YtfbghcpdinlmcaaGreatDoor
/- ambig's Meets: the walks. -/
set_option linter.unusedVariables false
set_option linter.unusedSimpArgs false
set_option maxRecDepth 100000
namespace Go.Proofs.YtfbghcpdinlmcaaGreatDoor
open Go.VC
attribute [local irreducible] mRun gRun atRun
end Go.Proofs.YtfbghcpdinlmcaaGreatDoor
/- The pairs of louperef07.First: the walk of add. -/
set_option linter.unusedVariables false
set_option linter.unusedSimpArgs false
set_option maxRecDepth 100000
namespace Go.Proofs.YtfbghcpdinlmcaaGreatDoor
open Go.VC
attribute [local irreducible] oneM mRun gRun atRun
/-! ### rows -/
structure PrsP (vs : List Value) (F : List NW) : Prop where
  len : vs.length = 1026
  nd : (F.map (·.1)).Nodup
end Go.Proofs.YtfbghcpdinlmcaaGreatDoor
/- minim.Table: the walk (under way: begins here). -/
set_option linter.unusedVariables false
set_option linter.unusedSimpArgs false
set_option maxRecDepth 100000
namespace Go.Proofs.YtfbghcpdinlmcaaGreatDoor
open Go.VC Go.Lib
attribute [local irreducible] mRun gRun atRun
end Go.Proofs.YtfbghcpdinlmcaaGreatDoor
/- louperef07.Table: the walk. -/
set_option linter.unusedVariables false
set_option linter.unusedSimpArgs false
set_option maxRecDepth 100000
namespace Go.Proofs.YtfbghcpdinlmcaaGreatDoor
open Go.VC Go.Lib
attribute [local irreducible] mRun gRun atRun
end Go.Proofs.YtfbghcpdinlmcaaGreatDoor
/- auto of the laws of layer 07. -/
set_option linter.unusedVariables false
set_option linter.unusedSimpArgs false
set_option maxRecDepth 100000
namespace Go.Proofs.YtfbghcpdinlmcaaGreatDoor
open Go.VC
attribute [local irreducible] mRun atRun

end Go.Proofs.YtfbghcpdinlmcaaGreatDoor
/- The laws MinimCanons and MinimTables: the walks. -/
set_option linter.unusedVariables false
set_option linter.unusedSimpArgs false
set_option maxRecDepth 100000
namespace Go.Proofs.YtfbghcpdinlmcaaGreatDoor
open Go.VC Go.Lib
attribute [local irreducible] mRun gRun atRun odd7M
end Go.Proofs.YtfbghcpdinlmcaaGreatDoor
/- The law MinimOneTable: the walk. -/
set_option linter.unusedVariables false
set_option linter.unusedSimpArgs false
set_option maxRecDepth 100000
namespace Go.Proofs.YtfbghcpdinlmcaaGreatDoor
open Go.VC Go.Lib
attribute [local irreducible] mRun gRun atRun odd7M
end Go.Proofs.YtfbghcpdinlmcaaGreatDoor
/- The law LangAlgebra: the walk. -/
set_option linter.unusedVariables false
set_option linter.unusedSimpArgs false
set_option maxRecDepth 100000
namespace Go.Proofs.YtfbghcpdinlmcaaGreatDoor
open Go.VC Go.Lib
attribute [local irreducible] mRun gRun atRun
theorem foldPr (a b : Option AM) : ∀ (w : List Nat) (x : Int × Int), bytes_ w → w.foldl (stepPr a b) x = (runL a w x.1, runL b w x.2)
  | [], x, _ => rfl
  | c :: w, x, h => by
    rw [List.foldl_cons, foldPr a b w _ fun d hd => h d (by simp [hd]), runL_cons, runL_cons]
    unfold stepPr
    rw [if_pos (h c (by simp))]
theorem prod_acc {a b p : Option AM} {ends : Bool → Bool → Bool} {most : Nat} {F : List (Int × Int)} (hm : 1 ≤ most) (hF : prW a b most = some F) (h : IsProd a b ends F p) (s : ByteArray) : acceptsM p s = ends (acceptsM a s) (acceptsM b s) := by
  have e : ∀ o, acceptsM o s = accL o (unB s) := fun o => by rw [← acc_bA (unB_bytes s), bA_unB]
  have h0 := (detW_len hm hF).2.2.2
  obtain ⟨t, e1, ht⟩ := leadsG_run h.2.1 (unB s) 0 _ (unB_bytes s) h0
  rw [e, e, e]
  show finM p ((unB s).foldl (stepM p) 0) = _
  rw [show (unB s).foldl (stepM p) (0 : Int) = (t : Int) from e1, h.2.1.fi t _ ht, foldPr a b _ _ (unB_bytes s)]
  rfl
theorem not_run {o : Option AM} (hm : IsMade o) : ∀ (w : List Nat) (q : Nat), q < stN o → bytes5 w → runL (some (notA o)) w (q : Int) = runL o w (q : Int)
  | [], q, _, _ => rfl
  | c :: w, q, hq, h => by
    have hc := h c (by simp)
    have hs := hm.steps
    obtain ⟨-, -, -, h4, -⟩ := not_made hm
    rw [runL_cons, runL_cons, h4 q c hq hc, paO_st hs hq hc]
    exact not_run hm w _ ((paO_ok hs).cl q c hq hc) fun d hd => h d (by simp [hd])
theorem not_acc {o : Option AM} (hm : IsMade o) (s : ByteArray) : acceptsM (some (notA o)) s = !acceptsM o s := by
  have hs := hm.steps
  have e : ∀ o, acceptsM o s = accL o (unB s) := fun o => by rw [← acc_bA (unB_bytes s), bA_unB]
  rw [e, e]
  unfold accL
  rw [show runL (some (notA o)) (unB s) 0 = runL o (unB s) 0 from not_run hm (unB s) 0 hs.n1 (unB_bytes s)]
  obtain ⟨h1, h2⟩ := run_paO hs (unB s) 0 hs.n1 (unB_bytes s)
  rw [show runL o (unB s) 0 = (((paO o).run 0 (unB s) : Nat) : Int) from h1]
  exact (not_made hm).2.2.2.2 _ h2
/-- What a product answers, in parts. -/
theorem prodR_parts {a b : Option AM} {ends : Bool → Bool → Bool} {m : Int} {H H' : Heap} {r : Value} (h : ProdR a b ends m H H' r) : ∃ v e, r = .tuple #[v, .int .i64 e] ∧ (if m < 1 ∨ 4096 < m then v = .pointer none ∧ e = 2 else match prW a b m.toNat with
    | none => v = .pointer none ∧ e = 40
    | some F => e = 0 ∧ ∃ A, AutoV (fun k => H.size ≤ k ∧ k < H'.size) H' v (some A) ∧ IsProd a b ends F (some A)) := by
  unfold ProdR at h
  split at h
  · rename_i hc
    exact ⟨_, _, h, by rw [if_pos hc]; exact ⟨rfl, rfl⟩⟩
  · rename_i hc
    cases hp : prW a b m.toNat with
    | none =>
      rw [hp] at h
      exact ⟨_, _, h, by rw [if_neg hc]; exact ⟨rfl, rfl⟩⟩
    | some F =>
      rw [hp] at h
      obtain ⟨v, A, h, h2, h3⟩ := h
      exact ⟨_, _, h, by rw [if_neg hc]; exact ⟨rfl, A, h2, h3⟩⟩
set_option maxHeartbeats 16000000 in
theorem langAlgebra_p (v : Value) (cells : List (BitVec 256)) (next : List (List Int)) (final : List Bool) (v' : Value) (cells' : List (BitVec 256)) (next' : List (List Int)) (final' : List Bool) (s : ByteArray) (S : Nat → Prop) (H : Heap) (ht : TabIn S H v cells next final) (hu : TabIn S H v' cells' next' final') (hs : s.size ≤ 1048576) (hpow : PowH Tryz.prog H) :
    Pure Tryz.prog 5 #[v, v', .string s] H (.bool true) := by
  refine FnOk.of_vc Tryz.func5 rfl (Tryz.call5 _) ?_
  (conv => whnf); refine tab_box ht fun l hl hv => ?_
  intro p H1 hp hs1 hb1 ha1
  have st1 := (St.nil H).box hp hs1 hb1 ha1
  (conv => whnf); refine tab_box (hu.frame st1.old) fun l' hl' hv' => ?_
  intro p' H2 hp' hs2 hb2 ha2
  have st2 := st1.box hp' hs2 hb2 ha2
  (conv => whnf); refine pures (speaks06_p (hpow.agr st2.old)) fun H3 ha3 => ?_
  have st3 := st2.call ha3
  (conv => whnf); refine VDraw.held (Old H3) 5 (sq [0,2] (.f 1 (.f 3 (sq [4] (.f 5 .e))))) rfl (by kernel_rfl) ?_
  (conv => whnf); refine tab_load hl hv (st3.blk 0 rfl) (st3.blk 0 rfl).lt ?_
  (conv => whnf); refine tab_load hl' hv' (st3.blk 1 rfl) (st3.blk 1 rfl).lt ?_
  (conv => whnf); refine VCall.mk (auto06_c v cells next final S H3 (ht.frame st3.old)) ?_
  rintro va H4 ⟨ha4, hs4, hva⟩
  have st4 := st3.call ha4
  refine ⟨ha4, ?_⟩
  (conv => whnf); refine VCall.mk (auto06_c v' cells' next' final' S H4 (hu.frame st4.old)) ?_
  rintro vb H5 ⟨ha5, hs5, hvb⟩
  have st5 := st4.call ha5
  have h35 := ha4.trans (ha5.mono fun k hk => old_lt ha4 hk)
  refine ⟨h35, ?_⟩
  have hma : IsMade (autoOf cells next final) := ⟨_, _, _, rfl⟩
  have hmb : IsMade (autoOf cells' next' final') := ⟨_, _, _, rfl⟩
  have hva5 : AutoV (Old H5) H5 va (autoOf cells next final) := (hva.frame (ha5.mono fun k hk => hk.2)).mono fun k hk => old_lt ha5 hk.2
  have hvb5 : AutoV (Old H5) H5 vb (autoOf cells' next' final') := hvb.mono fun k hk => hk.2
  generalize autoOf cells next final = a at *
  generalize autoOf cells' next' final' = b at *
  have sa := hma.steps
  have sb := hmb.steps
  have up : ∀ {G : Heap}, Agr (Old H5) H5 G → ∀ k, Old H5 k → k < G.size := fun h k hk => old_lt h hk
  have tr : ∀ {G G' : Heap}, Agr (Old H5) H5 G → Agr (Old G) G G' → Agr (Old H5) H5 G' := fun h k => h.trans (k.mono fun j hj => old_lt h hj)
  have fin : ∀ {G : Heap}, Agr (Old H5) H5 G → Agr (Old H) H G := fun h => st5.old.trans (h.mono fun k hk => old_lt st5.old hk)
  have hss : s.size ≤ maxLen := by unfold maxLen; omega
  have hq1 := accepts_p (s := s) (fun k hk => hk) hva5 hss
  (conv => whnf); refine pures hq1 fun H6 ha6 => ?_
  have hq2 := accepts_p (s := s) (up ha6) (hvb5.frame ha6) hss
  (conv => whnf); refine pures hq2 fun H7 ha7 => ?_
  have h7 := tr ha6 ha7
  obtain ⟨x, hx⟩ : ∃ x, x = acceptsM a s := ⟨_, rfl⟩
  obtain ⟨y, hy⟩ : ∃ y, y = acceptsM b s := ⟨_, rfl⟩
  rw [← hx, ← hy]
  (conv => whnf); refine VCall.mk (meetL_c (m := 4096) (S := Old H5) (up h7) (hva5.frame h7) (hvb5.frame h7) hma hmb) ?_
  rintro _ H8 ⟨ha8, hr8⟩
  obtain ⟨v8, e8, rfl, hp8⟩ := prodR_parts hr8
  have h8 := tr h7 ha8
  (conv => whnf); refine VCall.mk (joinL_c (m := 4096) (S := Old H5) (up h8) (hva5.frame h8) (hvb5.frame h8) hma hmb) ?_
  rintro _ H9 ⟨ha9, hr9⟩
  obtain ⟨v9, e9, rfl, hp9⟩ := prodR_parts hr9
  have h9 := tr h8 ha9
  (conv => whnf); refine VCall.mk (lessL_c (m := 4096) (S := Old H5) (up h9) (hva5.frame h9) (hvb5.frame h9) hma hmb) ?_
  rintro _ H10 ⟨ha10, hr10⟩
  obtain ⟨v10, e10, rfl, hp10⟩ := prodR_parts hr10
  have h10 := tr h9 ha10
  clear hr8 hr9 hr10
  rw [if_neg (by decide)] at hp8 hp9 hp10
  (conv => whnf); refine VCall.mk (notL_c (S := Old H5) (up h10) (hva5.frame h10) hma) ?_
  rintro vn H11 ⟨ha11, hvn⟩
  have h11 := tr h10 ha11
  have hq3 := accepts_p (s := s) (fun k (hk : H10.size ≤ k ∧ k < H11.size) => hk.2) hvn hss
  (conv => whnf); refine pures hq3 fun H12 ha12 => ?_
  have h12 := tr h11 ha12
  rw [not_acc hma, ← hx]
  (conv => whnf); refine eqZ Tryz.underlying4 (show ((!x) == x) = false by cases x <;> rfl) ?_
  (conv => whnf); refine pures (states_p (hva5.frame h12)) fun H13 ha13 => ?_
  have h13 := tr h12 ha13
  by_cases hb1 : stN a > 60
  · have d1 : decide ((stN a : Int) > 60) = true := decide_eq_true (by omega)
    (conv => whnf); rw [d1]
    (conv => whnf)
    exact ⟨rfl, fin h13⟩
  have d1 : decide ((stN a : Int) > 60) = false := decide_eq_false (by omega)
  (conv => whnf); rw [d1]
  (conv => whnf); refine pures (states_p (hvb5.frame h13)) fun H14 ha14 => ?_
  have h14 := tr h13 ha14
  by_cases hb2 : stN b > 60
  · have d2 : decide ((stN b : Int) > 60) = true := decide_eq_true (by omega)
    (conv => whnf); rw [d2]
    (conv => whnf)
    exact ⟨rfl, fin h14⟩
  have d2 : decide ((stN b : Int) > 60) = false := decide_eq_false (by omega)
  (conv => whnf); rw [d2]
  have hle : stN a * stN b ≤ 3600 := Nat.mul_le_mul (show stN a ≤ 60 by omega) (show stN b ≤ 60 by omega)
  cases hpr : prW a b ((4096 : Int)).toNat with
  | none =>
    have := prW_none hma hmb (by decide) hpr
    have h4 : ((4096 : Int)).toNat = 4096 := rfl
    omega
  | some F =>
    rw [hpr] at hp8 hp9 hp10
    obtain ⟨rfl, A8, hv8, hP8⟩ := hp8
    obtain ⟨rfl, A9, hv9, hP9⟩ := hp9
    obtain ⟨rfl, A10, hv10, hP10⟩ := hp10
    have e8 := prod_acc (by decide) hpr hP8 s
    have e9 := prod_acc (by decide) hpr hP9 s
    have e10 := prod_acc (by decide) hpr hP10 s
    rw [← hx, ← hy] at e8 e9 e10
    have g8 : Agr (Old H8) H8 H14 := (ha9.trans (ha10.mono fun k hk => old_lt ha9 hk)).trans ((ha11.trans (ha12.mono fun k hk => old_lt ha11 hk)).trans ((ha13.trans (ha14.mono fun k hk => old_lt ha13 hk)).mono fun k hk => old_lt ha12 (old_lt ha11 hk)) |>.mono fun k hk => old_lt ha10 (old_lt ha9 hk))
    have g9 : Agr (Old H9) H9 H14 := ha10.trans ((ha11.trans (ha12.mono fun k hk => old_lt ha11 hk)).trans ((ha13.trans (ha14.mono fun k hk => old_lt ha13 hk)).mono fun k hk => old_lt ha12 (old_lt ha11 hk)) |>.mono fun k hk => old_lt ha10 hk)
    have g10 : Agr (Old H10) H10 H14 := (ha11.trans (ha12.mono fun k hk => old_lt ha11 hk)).trans ((ha13.trans (ha14.mono fun k hk => old_lt ha13 hk)).mono fun k hk => old_lt ha12 (old_lt ha11 hk))
    have w8 : AutoV (Old H8) H14 v8 (some A8) := (hv8.mono fun k hk => hk.2).frame g8
    have w9 : AutoV (Old H9) H14 v9 (some A9) := (hv9.mono fun k hk => hk.2).frame g9
    have w10 : AutoV (Old H10) H14 v10 (some A10) := (hv10.mono fun k hk => hk.2).frame g10
    have hq8 := accepts_p (s := s) (fun k hk => old_lt g8 hk) w8 hss
    rw [e8] at hq8
    (conv => whnf); refine pures hq8 fun H15 ha15 => ?_
    have h15 := tr h14 ha15
    have w9' := w9.frame (ha15.mono fun k hk => old_lt g9 hk)
    have hq9 := accepts_p (s := s) (fun k hk => old_lt ha15 (old_lt g9 hk)) w9' hss
    rw [e9] at hq9
    have g15 : Agr (Old H14) H14 H15 := ha15
    have fe : ∀ x y : Bool, ((andB x y) == (match x with | true => y | false => false)) = true := fun x y => by cases x <;> cases y <;> rfl
    have fin15 := fin h15
    cases x <;> cases y
    all_goals
      (conv => whnf); refine eqZ Tryz.underlying4 (z := true) rfl ?_
      (conv => whnf); refine pures hq9 fun H16 ha16 => ?_
      have h16 := tr h15 ha16
      have g16 := g15.trans (ha16.mono fun k hk => old_lt g15 hk)
      have w10' := w10.frame (g16.mono fun k hk => old_lt g10 hk)
      have hq10 := accepts_p (s := s) (fun k hk => old_lt g16 (old_lt g10 hk)) w10' hss
      rw [e10] at hq10
      (conv => whnf); refine eqZ Tryz.underlying4 (z := true) rfl ?_
      (conv => whnf); refine pures hq10 fun H17 ha17 => ?_
      have h17 := tr h16 ha17
      (conv => whnf); refine eqZ Tryz.underlying4 (z := true) rfl ?_
      (conv => whnf)
      exact ⟨rfl, fin h17⟩
end Go.Proofs.YtfbghcpdinlmcaaGreatDoor
/- The library's table of powers, out of a row's list. -/
set_option linter.unusedVariables false
set_option maxRecDepth 100000
namespace Go.Proofs.YtfbghcpdinlmcaaGreatDoor
open Go.VC Go.Lib
theorem pow_g : Tryz.prog.globalNamed powN = some 1 := by kernel_rfl
theorem pow_gt : (Tryz.prog.globals[1]?).map (·.type) = some 362 := by kernel_rfl
theorem pow_c : Tryz.prog.cellsOf 362 = 20 := by kernel_rfl
theorem pow_c1 : Tryz.prog.cellsOf 99 = 1 := by kernel_rfl
theorem pow_data : (Rows.laid_internal_strconv_uint64pow10 : DataW Unit) = tabData .u64 pow10Tab := by kernel_rfl
theorem pow_of_laid {W : World} (h : laidMetH Tryz.prog Rows.langAlgebraUptoRow.laid W) : PowH Tryz.prog W.heap := by
  have hW : TabIs Tryz.prog W powN .u64 pow10Tab := by
    obtain ⟨ps, ⟨g0, t0, cs0, f0, p0, q0, hg0, ht0, hv0, hd0, ⟨g1, t1, cs1, f1, p1, q1, hg1, ht1, hv1, hd1, ⟨g2, t2, cs2, f2, p2, q2, hg2, ht2, hv2, hd2, -, -⟩, -⟩, -⟩, -⟩ := h
    obtain rfl := Option.some.inj (pow_g.symm.trans hg2)
    obtain rfl := Option.some.inj (pow_gt.symm.trans ht2)
    rw [pow_data] at hd2
    unfold TabIs
    rw [hv2, ← cells_of_tab Tryz.underlying362 Tryz.underlying99 pow_c1 pow_c hd2]
  intro w hw
  exact var_agr hW fun k _ => by rw [hw]
end Go.Proofs.YtfbghcpdinlmcaaGreatDoor
/- A world for the witness: the tables of the library hold what their initialisers lay. -/
set_option linter.unusedVariables false
set_option maxRecDepth 100000
namespace Go.Proofs.YtfbghcpdinlmcaaGreatDoor
open Go.VC Go.Lib
def tab32 : List Int := [0, 1, 28, 2, 29, 14, 24, 3, 30, 22, 20, 15, 25, 17, 4, 8, 31, 27, 13, 23, 21, 19, 16, 7, 26, 12, 18, 6, 11, 5, 10, 9]
def tab32V : Array Value := (tab32.map (Value.int .u8)).toArray
def tab64 : List Int := [0, 1, 56, 2, 57, 49, 28, 3, 61, 58, 42, 50, 38, 29, 17, 4, 62, 47, 59, 36, 45, 43, 51, 22, 53, 39, 33, 30, 24, 18, 12, 5, 63, 55, 48, 27, 60, 41, 37, 16, 46, 35, 44, 21, 52, 32, 23, 11, 54, 26, 40, 15, 34, 20, 31, 10, 25, 14, 19, 9, 13, 8, 7, 6]
def tab64V : Array Value := (tab64.map (Value.int .u8)).toArray
def tabP10 : List Int := [1, 10, 100, 1000, 10000, 100000, 1000000, 10000000, 100000000, 1000000000, 10000000000, 100000000000, 1000000000000, 10000000000000, 100000000000000, 1000000000000000, 10000000000000000, 100000000000000000, 1000000000000000000, 10000000000000000000]
def tabP10V : Array Value := (tabP10.map (Value.int .u64)).toArray
def putTab (vs : Array Value) : Obj → Obj
  | .cells _ t frozen => .cells vs t frozen
  | o => o
noncomputable def laidW (os : Os) : World :=
  { World.holding Tryz.prog os ⟨#[], #[], []⟩ with heap := (((World.holding Tryz.prog os ⟨#[], #[], []⟩).heap.modify 3 (putTab tab32V)).modify 4 (putTab tab64V)).modify 1 (putTab tabP10V) }
end Go.Proofs.YtfbghcpdinlmcaaGreatDoor
/- Reading arguments: what the form says of them, as typed views. -/
set_option linter.unusedVariables false
set_option linter.unusedSimpArgs false
namespace Go.VC
open Go.Proofs.YtfbghcpdinlmcaaGreatDoor.Rows (uptoBulk uptoBulkAll)
def InW (W : World) (k : Nat) : Prop := k < W.heap.size
def Opens {H : Type} (enc : TypeId × Value → H) (P : Program) (W : World) {α : Type} (T : Ty α) (sz : α → Nat) (t : TypeId) : Prop :=
  ∀ fuel cs d ps, DataW.trod enc P W 0 (fun _ => true) true fuel t cs = some (d, ps) → ∃ x, T.rep (InW W) W.heap cs x ∧ sz x ≤ uptoBulk d
/-- How many values a list bears. -/
def szL {α : Type} (sz : α → Nat) : List α → Nat
  | [] => 1
  | x :: xs => sz x + szL sz xs
theorem szL_snoc {α : Type} (sz : α → Nat) (x : α) : ∀ xs : List α, szL sz (xs ++ [x]) = szL sz xs + sz x
  | [] => by simp [szL]; omega
  | y :: ys => by simp only [List.cons_append, szL, szL_snoc sz x ys]; omega
theorem szL_len {α : Type} {sz : α → Nat} (h : ∀ x, 1 ≤ sz x) : ∀ xs : List α, xs.length + 1 ≤ szL sz xs
  | [] => Nat.le_refl _
  | y :: ys => by have := szL_len h ys; have := h y; simp only [List.length_cons, szL]; omega
theorem szL_mem {α : Type} {sz : α → Nat} {x : α} : ∀ {xs : List α}, x ∈ xs → sz x ≤ szL sz xs
  | [], h => by cases h
  | y :: ys, h => by
    rcases List.mem_cons.1 h with rfl | h
    · simp only [szL]; omega
    · have := szL_mem (sz := sz) h; simp only [szL]; omega
theorem bulkAll_snoc {H : Type} (d : DataW H) : ∀ ds : List (DataW H), uptoBulkAll (ds ++ [d]) = uptoBulkAll ds + uptoBulk d
  | [] => by simp [uptoBulkAll]
  | y :: ys => by simp only [List.cons_append, uptoBulkAll, bulkAll_snoc d ys]; omega
section
variable {H : Type} {enc : TypeId × Value → H} {P : Program} {W : World} {t e : TypeId}
theorem opens_int {k : IntKind} (ht : P.underlying t = some (.int k)) : Opens enc P W (tInt k) (fun _ => 1) t := by
  intro fuel cs d ps h
  obtain ⟨n, rfl, hd, hw⟩ := DataW.trod_int ht h
  cases hd
  simp only [Lit.wf, Bool.and_eq_true, decide_eq_true_eq] at hw
  exact ⟨n, ⟨rfl, hw⟩, by simp [uptoBulk]⟩
theorem opens_bool (ht : P.underlying t = some .bool) : Opens enc P W tBool (fun _ => 1) t := by
  intro fuel cs d ps h
  obtain ⟨b, rfl, hd⟩ := DataW.trod_bool ht h
  cases hd
  exact ⟨b, rfl, by simp [uptoBulk]⟩
theorem cells_get {a : Addr} {n : Nat} {cs : List Value} (h : W.cells? 0 a n = some cs) (hn : 0 < n) : cs.length = n ∧ a.spot = none ∧ a.block < W.heap.size ∧ Cells W.heap a.block a.off cs := by
  unfold World.cells? at h
  rw [if_pos (Nat.zero_le _)] at h
  have hl := mapM_some_length h
  rw [List.length_range] at hl
  have hg : ∀ j, j < n → W.cell? (a.add j) = cs[j]? := fun j hj => mapM_some_get h j j (by simp [hj])
  obtain ⟨v0, hv0⟩ : ∃ v, cs[0]? = some v := ⟨cs[0]'(by omega), List.getElem?_eq_getElem (by omega)⟩
  have h0 := hg 0 hn
  rw [hv0] at h0
  have hsp : a.spot = none := by
    cases hs : a.spot with
    | none => rfl
    | some x =>
      unfold World.cell? at h0
      split at h0
      · simp [Addr.add, hs] at h0
      · cases h0
  refine ⟨hl, hsp, ?_, fun j v hv => ?_⟩
  · unfold World.cell? at h0
    split at h0
    · rename_i he
      exact (Array.getElem?_eq_some_iff.1 he).1
    · cases h0
  · have hj := (List.getElem?_eq_some_iff.1 hv).1
    have := hg j (by omega)
    rw [hv] at this
    rw [← cell_w]
    obtain ⟨b, o, sp⟩ := a
    simp only at hsp
    subst hsp
    rw [Addr.add_mid] at this
    exact this
theorem opens_slice {α : Type} {T : Ty α} {sz : α → Nat} (ht : P.underlying t = some (.slice e)) (hc : P.cellsOf e = T.size) (h0 : 0 < T.size) (he : Opens enc P W T sz e) : Opens enc P W (tSl T) (szL sz) t := by
  intro fuel cs d ps h
  rcases DataW.trod_slice ht h with ⟨rfl, hd⟩ | ⟨a, len, cap, elems, rest, n, rfl, rfl, hd, -, hl, hm, hel, hget, hsp, -⟩
  · cases hd
    exact ⟨[], ⟨none, 0, rfl, rfl, rfl⟩, by simp [szL, uptoBulk]⟩
  · cases hd
    obtain ⟨hrl, hrest⟩ := hsp rfl
    rw [hc] at hget hrest
    by_cases hcap : cap = 0
    · obtain rfl : len = 0 := by omega
      exact ⟨[], ⟨some a, cap, rfl, by simp, hm, .inl hcap⟩, by simp [szL, uptoBulk]⟩
    · have hsb : a.spot = none ∧ a.block < W.heap.size := by
        have key : ∀ y, (W.cells? 0 (a.add (0 * T.size)) T.size).bind (DataW.trod enc P W 0 (fun _ => true) true n e) = some y → a.spot = none ∧ a.block < W.heap.size := by
          intro y hy
          obtain ⟨c, hc1, hc2⟩ := Option.bind_eq_some_iff.1 hy
          obtain ⟨g1, g2, g3, g4⟩ := cells_get hc1 h0
          rw [Nat.zero_mul] at g2 g3
          unfold Addr.add at g2 g3
          split at g2 <;> simp_all
        by_cases hil : 0 < len
        · exact key _ ((hget 0 hil).trans (List.getElem?_eq_getElem (by omega)))
        · have := hrest 0 (by omega)
          rw [show len + 0 = 0 by omega] at this
          exact key _ (this.trans (List.getElem?_eq_getElem (by omega)))
      obtain ⟨b, o, sp⟩ := a
      obtain ⟨rfl, hb⟩ := hsb
      have build : ∀ m, m ≤ len → ∃ ec xs, xs.length = m ∧ Cells W.heap b o ec ∧ T.reps (InW W) W.heap ec xs ∧ szL sz xs ≤ uptoBulkAll ((elems.take m).map (·.1)) + 1 := by
        intro m
        induction m with
        | zero => exact fun _ => ⟨[], [], rfl, (fun j v hv => by simp at hv), rfl, by simp [szL]⟩
        | succ m ih =>
          intro hm'
          obtain ⟨ec, xs, h1, h2, h3, hz⟩ := ih (by omega)
          have hy : elems[m]? = some (elems[m]'(by omega)) := List.getElem?_eq_getElem (by omega)
          obtain ⟨c, h4, hc2⟩ := Option.bind_eq_some_iff.1 ((hget m (by omega)).trans hy)
          obtain ⟨x, h5, hzx⟩ := he n c _ _ hc2
          obtain ⟨g1, g2, g3, g4⟩ := cells_get h4 h0
          rw [Addr.add_mid] at g4
          have hel := Ty.reps_len h3
          refine ⟨ec ++ c, xs ++ [x], by simp [h1], fun j v hv => ?_, Ty.reps_snoc h3 h5, ?_⟩
          · by_cases hj : j < ec.length
            · rw [List.getElem?_append_left hj] at hv
              exact h2 j v hv
            · rw [List.getElem?_append_right (by omega)] at hv
              have := g4 _ v hv
              simp only at this
              rw [show o + m * T.size + (j - ec.length) = o + j by rw [hel, h1] at *; omega] at this
              exact this
          · rw [szL_snoc, List.take_add_one, hy, Option.toList_some, List.map_append, List.map_singleton, bulkAll_snoc]
            refine Nat.le_trans (Nat.add_le_add hz hzx) ?_
            rw [Nat.add_right_comm]
            exact Nat.le_refl _
      obtain ⟨ec, xs, h1, h2, h3, hz⟩ := build len (Nat.le_refl _)
      rw [List.take_of_length_le (by omega)] at hz
      refine ⟨xs, ⟨_, cap, by rw [h1], SlD.intro hb (by omega) hm h2 h3⟩, ?_⟩
      simp only [uptoBulk]
      omega
end

end Go.VC
/- Sets as arguments. -/
set_option linter.unusedVariables false
set_option linter.unusedSimpArgs false
set_option maxRecDepth 100000
namespace Go.Proofs.YtfbghcpdinlmcaaGreatDoor
open Go.VC Go
def ofWd (a b c d : Nat) : BitVec 256 := BitVec.ofNat 256 (a + 2 ^ 64 * (b + 2 ^ 64 * (c + 2 ^ 64 * d)))
theorem wd_of {a b c d : Nat} (ha : a < 2 ^ 64) (hb : b < 2 ^ 64) (hc : c < 2 ^ 64) (hd : d < 2 ^ 64) : wd (ofWd a b c d) 0 = a ∧ wd (ofWd a b c d) 1 = b ∧ wd (ofWd a b c d) 2 = c ∧ wd (ofWd a b c d) 3 = d := by
  have h : (ofWd a b c d).toNat = a + 2 ^ 64 * (b + 2 ^ 64 * (c + 2 ^ 64 * d)) := by
    unfold ofWd
    rw [BitVec.toNat_ofNat]
    exact Nat.mod_eq_of_lt (by omega)
  unfold wd
  simp only [h, Nat.shiftRight_eq_div_pow]
  refine ⟨?_, ?_, ?_, ?_⟩ <;> omega

theorem opens_set {H : Type} {enc : TypeId × Value → H} {P : Program} {W : World} {t e : TypeId} (ht : P.underlying t = some (.array 4 e)) (he : P.underlying e = some (.int .u64)) (hc : P.cellsOf e = 1) (h4 : P.cellsOf t = 4) : Opens enc P W tSet (fun _ => 1) t := by
  intro fuel cs d ps h
  obtain ⟨xs, m, rfl, hd, hl, hx, hg⟩ := DataW.trod_array ht h
  cases hd
  rw [h4] at hl
  rw [hc] at hg
  match cs, hl with
  | [c0, c1, c2, c3], _ =>
    have one : ∀ (i : Nat) (c : Value), i < 4 → ([c0, c1, c2, c3].drop (i * 1)).take 1 = [c] → ∃ n : Nat, c = .int .u64 (n : Int) ∧ n < 2 ^ 64 := by
      intro i c hi hd
      have := hg i hi
      rw [hd, List.getElem?_eq_getElem (by omega)] at this
      obtain ⟨n, h1, -, hw⟩ := DataW.trod_int he this
      cases h1
      simp only [Lit.wf, Bool.and_eq_true, decide_eq_true_eq] at hw
      have m0 : IntKind.u64.min = 0 := rfl
      have m1 : IntKind.u64.max = 18446744073709551615 := rfl
      obtain ⟨k, rfl⟩ := Int.eq_ofNat_of_zero_le (show 0 ≤ n by omega)
      exact ⟨k, rfl, by omega⟩
    obtain ⟨n0, rfl, b0⟩ := one 0 c0 (by decide) rfl
    obtain ⟨n1, rfl, b1⟩ := one 1 c1 (by decide) rfl
    obtain ⟨n2, rfl, b2⟩ := one 2 c2 (by decide) rfl
    obtain ⟨n3, rfl, b3⟩ := one 3 c3 (by decide) rfl
    obtain ⟨w0, w1, w2, w3⟩ := wd_of b0 b1 b2 b3
    refine ⟨ofWd n0 n1 n2 n3, ?_, by simp [Rows.uptoBulk]⟩
    show _ = setL _
    unfold setL
    rw [w0, w1, w2, w3]

end Go.Proofs.YtfbghcpdinlmcaaGreatDoor
/- Tables as arguments. -/
set_option linter.unusedVariables false
set_option linter.unusedSimpArgs false
set_option maxRecDepth 100000
namespace Go.Proofs.YtfbghcpdinlmcaaGreatDoor
open Go.VC Go
/-- A table, as it is handed in. -/
structure TableV (W : World) (v : Value) (cells : List (BitVec 256)) (next : List (List Int)) (final : List Bool) : Prop where
  rep : ∃ ca na fa cc nc fc, v = .agg #[.slice ca cells.length cc, .slice na next.length nc, .slice fa final.length fc] ∧ SlD tSet (InW W) W.heap ca cc cells ∧ SlD tRows (InW W) W.heap na nc next ∧ SlD tBool (InW W) W.heap fa fc final
theorem open_table {H : Type} {enc : TypeId × Value → H} {W : World} {base : Nat} {v : Value} {d : DataW H} {ps : List MemPlace} (hval : Value.okWide Tryz.prog W .any base 38 v) (h : DataW.Trod enc Tryz.prog W 0 (fun _ => true) true 38 v d ps) :
    ∃ cells next final, TableV W v cells next final ∧ szL (fun _ => 1) cells + szL (szL fun _ => 1) next + szL (fun _ => 1) final ≤ Rows.uptoBulk d := by
  obtain ⟨fuel, h⟩ := h
  have hu := Tryz.underlying38
  obtain ⟨xs, m, rfl, hd, hl, hx, hg⟩ := DataW.trod_struct hu h
  cases hd
  have h3 : Tryz.prog.cellsOf 38 = 3 := by kernel_rfl
  simp only [Value.okWide, hu] at hval
  obtain ⟨cs, rfl, hsz, -⟩ := hval
  rw [h3] at hsz
  obtain ⟨l⟩ := cs
  match l, hsz with
  | [c0, c1, c2], _ =>
    have k1 : Tryz.prog.cellsOf 34 = 1 := by kernel_rfl
    have k2 : Tryz.prog.cellsOf 35 = 1 := by kernel_rfl
    have k3 : Tryz.prog.cellsOf 36 = 1 := by kernel_rfl
    have hx3 : xs.length = 3 := hx
    match xs, hx3 with
    | [x0, x1, x2], _ =>
      have g0 : DataW.trod enc Tryz.prog W 0 (fun _ => true) true m 34 (List.take (Tryz.prog.cellsOf 34) [c0, c1, c2]) = some x0 := hg 0 _ rfl
      have g1 : DataW.trod enc Tryz.prog W 0 (fun _ => true) true m 35 (List.take (Tryz.prog.cellsOf 35) [c1, c2]) = some x1 := hg 1 _ rfl
      have g2 : DataW.trod enc Tryz.prog W 0 (fun _ => true) true m 36 (List.take (Tryz.prog.cellsOf 36) [c2]) = some x2 := hg 2 _ rfl
      rw [k1] at g0
      rw [k2] at g1
      rw [k3] at g2
      replace g0 : DataW.trod enc Tryz.prog W 0 (fun _ => true) true m 34 [c0] = some x0 := g0
      replace g1 : DataW.trod enc Tryz.prog W 0 (fun _ => true) true m 35 [c1] = some x1 := g1
      replace g2 : DataW.trod enc Tryz.prog W 0 (fun _ => true) true m 36 [c2] = some x2 := g2
      have s1 : Tryz.prog.cellsOf 100 = tSet.size := by kernel_rfl
      have s2 : Tryz.prog.cellsOf 41 = (tSl tI).size := by kernel_rfl
      have s3 : Tryz.prog.cellsOf 4 = tBool.size := by kernel_rfl
      have s4 : Tryz.prog.cellsOf 3 = tI.size := by kernel_rfl
      have s5 : Tryz.prog.cellsOf 99 = 1 := by kernel_rfl
      obtain ⟨cells, ⟨ca, cc, e0, hc⟩, z0⟩ := opens_slice Tryz.underlying34 s1 (by decide) (opens_set Tryz.underlying100 Tryz.underlying99 s5 s1) _ _ _ _ g0
      obtain ⟨next, ⟨na, nc, e1, hn⟩, z1⟩ := opens_slice Tryz.underlying35 s2 (by decide) (opens_slice Tryz.underlying41 s4 (by decide) (opens_int Tryz.underlying3)) _ _ _ _ g1
      obtain ⟨final, ⟨fa, fc, e2, hf⟩, z2⟩ := opens_slice Tryz.underlying36 s3 (by decide) (opens_bool Tryz.underlying4) _ _ _ _ g2
      cases e0; cases e1; cases e2
      refine ⟨cells, next, final, ⟨ca, na, fa, cc, nc, fc, rfl, hc, hn, hf⟩, ?_⟩
      simp only [List.map_cons, List.map_nil, Rows.uptoBulk, Rows.uptoBulkAll]
      omega

end Go.Proofs.YtfbghcpdinlmcaaGreatDoor
/- Closing: a law that returns true and leaves all that was there as it was. -/
set_option linter.unusedVariables false
namespace Go.VC
open Go.ChangeShapes Go.WideShapes Go.ChangeAt Go.RowKit

theorem kept_of_agr {W W' : World} {may : MemPlace → Prop} (he : Env W W') (h : Agr (Old W.heap) W.heap W'.heap) : W.keptBut W' may := by
  refine ⟨he.os, he.output, fun i hi => ?_⟩
  rw [h i hi]
  split <;> simp_all
theorem frozen_of_agr {W W' : World} (h : Agr (Old W.heap) W.heap W'.heap) (a : Addr) (ha : a.block < W.heap.size) : W'.frozen? a = W.frozen? a := by
  unfold World.frozen?
  rw [h a.block ha]
theorem sameAt_of_agr {W W' : World} (h : Agr (Old W.heap) W.heap W'.heap) : ∀ p : MemPlace, p.block < W.heap.size → W.sameAt W' p
  | .cell b o, hb => by
    show W'.cell? ⟨b, o, none⟩ = W.cell? ⟨b, o, none⟩
    rw [cell_w, cell_w]
    exact cell_eq (h b hb)
  | .map b, hb => h b hb
section
variable {H : Type} {enc : TypeId × Value → H} {P : Program}
theorem all_stay {W W' : World} {sp : Nat → Bool} (hl : laidOutB P = true) (ha : Agr (Old W.heap) W.heap W'.heap) : ∀ {ts : List TypeId} {vs : List Value} {ds : List (DataW H)} {ps : List MemPlace}, (∀ t ∈ ts, P.readableRec t = true ∧ t < P.types.size) →
    DataW.TrodAll enc P W 0 (fun _ => true) true ts vs ds ps → (∀ p ∈ ps, p.block < W.heap.size) → (∀ p ∈ ps, sp p.block = true) → DataW.TrodAll enc P W' 0 sp true ts vs ds ps
  | [], vs, ds, ps, _, h, _, _ => by
    obtain ⟨rfl, rfl, rfl⟩ := trodAll_nil h
    exact trodAll_mk0
  | t :: ts, vs, ds, ps, ht, h, hlt, hsp => by
    obtain ⟨v, vs', d, ds', p, q, rfl, rfl, rfl, h1, h2⟩ := trodAll_cons h
    have ht0 := ht t List.mem_cons_self
    exact trodAll_cons_mk (WideElems.Trod_stays hl ht0.1 ht0.2 h1 (fun x hx => sameAt_of_agr ha x (hlt x (List.mem_append_left _ hx))) fun x hx => hsp x (List.mem_append_left _ hx))
      (all_stay hl ha (fun x hx => ht x (List.mem_cons_of_mem _ hx)) h2 (fun x hx => hlt x (List.mem_append_right _ hx)) fun x hx => hsp x (List.mem_append_right _ hx))
theorem trod_b {w : World} {base : Nat} {sp : Nat → Bool} {hd : Bool} {t : TypeId} {b : Bool} (h : P.underlying t = some .bool) : DataW.Trod enc P w base sp hd t (.bool b) (.lit (.bool b)) [] := ⟨1, by simp [DataW.trod, Value.cells, h]⟩
/-- The law has returned true; what was there is as it was. -/
theorem post_true {f : Func} {s : ChangeSpec} {apart fresh handsOn again : Bool} {W W' : World} {args : Array Value} {ds gs : List (DataW H)} {before : List MemPlace} {bt : TypeId}
    (hW : DataW.Whole enc P f.params.toList s.vars apart W args.toList ds gs before) (hv : s.vars = []) (hfn : (s.fn H (ds ++ gs)).results = [.lit (.bool true)] ∧ (s.fn H (ds ++ gs)).args = ds ∧ (s.fn H (ds ++ gs)).vars = [])
    (hl : laidOutB P = true) (hp : f.params.toList.all (fun t => P.readableRec t && decide (t < P.types.size)) = true) (hr : f.resultTypes = #[bt]) (hu : P.underlying bt = some .bool)
    (he : Env W W') (ha : Agr (Old W.heap) W.heap W'.heap) : s.post enc P f apart fresh handsOn again W args (.bool true) W' := by
  have hlt := hW.lt
  have hW' := hW
  obtain ⟨pa, pv, hA, hV, hbe, hz, hn⟩ := hW
  rw [hv] at hV
  obtain ⟨rfl, rfl⟩ := trodVars_none hV
  rw [List.append_nil] at hbe
  subst hbe
  obtain ⟨hres, hargs, hvars⟩ := hfn
  have hk : W.keptBut W' (fun _ => False) := kept_of_agr he ha
  have hpp : ∀ t ∈ f.params.toList, P.readableRec t = true ∧ t < P.types.size := fun t ht => by
    have := List.all_eq_true.1 hp t ht
    simpa using this
  have hst : ∀ sp : Nat → Bool, (∀ p ∈ before, sp p.block = true) → DataW.TrodAll enc P W' 0 sp true f.params.toList args.toList (s.fn H (ds ++ [])).args before := fun sp hsp => by
    rw [hargs]; exact all_stay hl ha hpp hA hlt hsp
  have hrs : ∀ (b : Nat) (sp : Nat → Bool) (hd : Bool), DataW.TrodAll enc P W' b sp hd f.resultTypes.toList ((Value.bool true).resultList f.resultTypes.size) (s.fn H (ds ++ [])).results [] := fun b sp hd => by
    rw [hres, hr]; exact trodAll_mk1 (trod_b hu)
  have hvs : ∀ sp : Nat → Bool, DataW.TrodVars enc P W' sp s.vars (s.fn H (ds ++ [])).vars [] := fun sp => by
    rw [hvars, hv]; rfl
  have hok : ∀ (j : Nat) (t : TypeId) (r : Value), f.resultTypes[j]? = some t → ((Value.bool true).resultList f.resultTypes.size)[j]? = some r → Value.okWide P W' .any 0 t r := ok_one hr rfl (okWide_bool_mk hu true)
  refine ⟨ds, [], before, [], before, [], hW', hrs _ _ _, hst _ (fun p hp => decide_eq_true (hlt p hp)), hvs _, World.keptBut_mono (fun p hp => hp.elim) hk, fun _ => ?_⟩
  refine ⟨hok, _, _, ([] ++ before) ++ [], ⟨[] ++ before, [], trodAll_append (hst _ (fun _ _ => rfl)) (hrs _ _ _), hvs _, rfl, ?_, ?_⟩, ?_⟩
  · intro b off hp
    simp only [List.nil_append, List.append_nil] at hp
    rw [frozen_of_agr ha _ (hlt _ hp)]
    exact hz b off hp
  · intro hap
    have := hn hap
    simpa using this
  · intro p hp _
    simpa using hp
end

end Go.VC
/- A table that is handed in, small enough. -/
set_option linter.unusedVariables false
set_option maxRecDepth 100000
namespace Go.Proofs.YtfbghcpdinlmcaaGreatDoor
open Go.VC
theorem own_ : ownKnob Tryz.prog.godebug = none := by kernel_rfl
theorem laid_ : laidOutB Tryz.prog = true := by kernel_rfl
theorem tabIn_of {W : World} {v : Value} {cells : List (BitVec 256)} {next : List (List Int)} {final : List Bool} (h : TableV W v cells next final) (hb : szL (fun _ => 1) cells + szL (szL fun _ => 1) next + szL (fun _ => 1) final ≤ 1048576) : TabIn (InW W) W.heap v cells next final := by
  obtain ⟨ca, na, fa, cc, nc, fc, rfl, h1, h2, h3⟩ := h
  have b1 := szL_len (sz := fun _ : BitVec 256 => 1) (fun _ => Nat.le_refl _) cells
  have b2 := szL_len (sz := szL fun _ : Int => 1) (fun x => by have := szL_len (sz := fun _ : Int => 1) (fun _ => Nat.le_refl _) x; omega) next
  have b3 := szL_len (sz := fun _ : Bool => 1) (fun _ => Nat.le_refl _) final
  refine ⟨fun k hk => hk, ⟨ca, na, fa, cc, nc, fc, rfl, h1, h2, h3⟩, by omega, by omega, fun row hrow => ?_, by omega⟩
  have b4 := szL_mem (sz := szL fun _ : Int => 1) hrow
  have b5 := szL_len (sz := fun _ : Int => 1) (fun _ => Nat.le_refl _) row
  omega
theorem small_of {H : Type} {ds : List (DataW H)} (h : Rows.uptoSmall H ds = true) : Rows.uptoBulkAll ds ≤ 1048576 := by simpa [Rows.uptoSmall] using h
end Go.Proofs.YtfbghcpdinlmcaaGreatDoor
