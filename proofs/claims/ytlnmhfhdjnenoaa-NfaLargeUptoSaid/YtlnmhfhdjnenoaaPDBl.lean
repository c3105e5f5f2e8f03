/- The document's rules for nondeterministic automata: silent, part over trees without signs. -/
import Derived.Test.YtlnmhfhdjnenoaaPTre
set_option linter.unusedVariables false
set_option linter.unusedSimpArgs false
set_option maxRecDepth 100000
namespace Go.Proofs.Ytlnmhfhdjnenoaa
open Go.VC
theorem fill3 {place : Nat → Option (Nat × Nat)} {c0 c1 c2 v0 v1 v2 : Value} {zs : List Value} (p0 : place 0 = some (0, 1)) (p1 : place 1 = some (1, 1)) (p2 : place 2 = some (2, 1))
    (h0 : v0.cells = #[v0]) (h1 : v1.cells = #[v1]) (h2 : v2.cells = #[v2]) : Instr.fill place ([c0, c1, c2] ++ zs).toArray [(0, v0), (1, v1), (2, v2)] = some ([v0, v1, v2] ++ zs).toArray := by
  have e0 : splice ([c0, c1, c2] ++ zs) 0 [v0] = [v0, c1, c2] ++ zs := rfl
  have e1 : splice ([v0, c1, c2] ++ zs) 1 [v1] = [v0, v1, c2] ++ zs := rfl
  have e2 : splice ([v0, v1, c2] ++ zs) 2 [v2] = [v0, v1, v2] ++ zs := rfl
  rw [fill_cons p0 (by rw [h0]; rfl) (by simp), h0, List.toList_toArray, e0, fill_cons p1 (by rw [h1]; rfl) (by simp), h1, List.toList_toArray, e1, fill_cons p2 (by rw [h2]; rfl) (by simp), h2, List.toList_toArray, List.toList_toArray, e2]
  rfl
theorem fill3b {place : Nat → Option (Nat × Nat)} {c0 c1 c2 v0 v1 : Value} {zs bs : List Value} (hl : bs.length = zs.length) (p0 : place 0 = some (0, 1)) (p1 : place 1 = some (1, 1)) (p3 : place 3 = some (3, zs.length))
    (h0 : v0.cells = #[v0]) (h1 : v1.cells = #[v1]) : Instr.fill place ([c0, c1, c2] ++ zs).toArray [(0, v0), (1, v1), (3, .agg bs.toArray)] = some ([v0, v1, c2] ++ bs).toArray := by
  have e0 : splice ([c0, c1, c2] ++ zs) 0 [v0] = [v0, c1, c2] ++ zs := rfl
  have e1 : splice ([v0, c1, c2] ++ zs) 1 [v1] = [v0, v1, c2] ++ zs := rfl
  have e3 : splice ([v0, v1, c2] ++ zs) 3 bs = [v0, v1, c2] ++ bs := by
    unfold splice
    rw [show ([v0, v1, c2] ++ zs).take 3 = [v0, v1, c2] from rfl, List.drop_eq_nil_of_le (by simp; omega), List.append_nil]
  have ec : (Value.agg bs.toArray).cells = bs.toArray := rfl
  rw [fill_cons p0 (by rw [h0]; rfl) (by simp), h0, List.toList_toArray, e0, fill_cons p1 (by rw [h1]; rfl) (by simp), h1, List.toList_toArray, e1, fill_cons p3 (by rw [ec]; simpa using hl) (by simp; omega), ec, List.toList_toArray, List.toList_toArray, e3]
  rfl
theorem silD_build (p q : Nat) {S : Nat → Prop} {H : Heap} {K : Value → Prop} (k : K (.agg (edDL (silE p q)).toArray)) :
    VDet Try.prog (Instr.build 83 [(0, .int .i64 (p : Int)), (1, .int .i64 (q : Int)), (2, .bool true)].toArray) S H K := by
  refine vbuildS Try.underlying83 rfl edDZ edgeD_z (edDL (silE p q)) ?_ k
  unfold edDL
  rw [show (silE p q).set = 0#256 from rfl, bitsL_zero]
  exact fill3 (by kernel_rfl) (by kernel_rfl) (by kernel_rfl) rfl rfl rfl
theorem setD_build (p q : Nat) (s : BitVec 256) {S : Nat → Prop} {H : Heap} {K : Value → Prop} (k : K (.agg (edDL (setE p q s)).toArray)) :
    VDet Try.prog (Instr.build 83 [(0, .int .i64 (p : Int)), (1, .int .i64 (q : Int)), (3, .agg (bitsL s).toArray)].toArray) S H K :=
  vbuildS Try.underlying83 rfl edDZ edgeD_z (edDL (setE p q s)) (fill3b (zs := List.replicate 256 (Value.bool false)) (by rw [show (bitsL s).length = 256 from bitsTo_len _ _, List.length_replicate]) (by kernel_rfl) (by kernel_rfl) (by rw [List.length_replicate]; kernel_rfl) rfl rfl) k
def dbL (n : Nat) (v : Value) : List Value := [.int .i64 (n : Int), .int .i64 0, .int .i64 0, v]
abbrev tDb : TypeId := 34
section
variable {B : Nat → Prop} {H0 H : Heap} {rest : List Pc} {bb n : Nat} {v : Value}
theorem dsil_v {K : Value → Heap → Prop} {a : Option Addr} {c p q : Nat} {es : List EdM} (st : StB B H0 H (pB tDb bb (dbL n (.slice a es.length c)) :: pS tEdD 83 a es.length c es :: rest)) (hp : p ≤ 2000000) (hq : q ≤ 2000000) (hl : es.length + 1 ≤ 4194304)
    (k : ∀ a' c' H', StB B H0 H' (pB tDb bb (dbL n (.slice a' (es ++ [silE p q]).length c')) :: pS tEdD 83 a' (es ++ [silE p q]).length c' (es ++ [silE p q]) :: rest) → K (.tuple #[]) H') :
    VCall Try.prog 53 #[.pointer (some ⟨bb, 0, none⟩), .int .i64 (p : Int), .int .i64 (q : Int)] H K := by
  refine VCall.mk (R := fun r H' => r = .tuple #[] ∧ ∃ a' c', StB B H0 H' (pB tDb bb (dbL n (.slice a' (es ++ [silE p q]).length c')) :: pS tEdD 83 a' (es ++ [silE p q]).length c' (es ++ [silE p q]) :: rest)) ?_ fun r H' ⟨h1, a', c', h2⟩ => by rw [h1]; exact k a' c' H' h2
  refine FnOk.of_vc Try.func53 rfl (Try.call53 _) ?_
  (conv => whnf); refine fa fl34_3 ?_
  (conv => whnf); refine ld1 (v := .slice a es.length c) ct32 (by rw [(st.blk 0 rfl).cell]; rfl) trivial ?_
  (conv => whnf); refine silD_build p q ?_
  (conv => whnf); refine vbuild1 sl32 (edDL (silE p q)) rfl (edDL_len _) (by decide) (by decide) ?_
  intro y H1 hy hs1 hb1 ha1
  have st1 := st.skip hy ha1
  (conv => whnf); refine appO (ys := [silE p q]) st1 1 sl32 rfl (hb1.cells (o := 0) (cs := edDL (silE p q)) fun j v hv => by rw [Nat.zero_add]; exact hv) (Ty.reps_one ⟨rfl, edge_ok hp hq _ _⟩) rfl (fun u hu => List.all_eq_true.1 (edD_ones _) u hu) (by simpa using hl) (by decide) fun a9 c9 H9 st9 _ => ?_
  (conv => whnf); refine fa fl34_3 ?_
  (conv => whnf); refine st1B st9 0 ct32 rfl (show 3 < 4 by decide) rfl fun H10 st10 => ?_
  (conv => whnf)
  have el : es.length + [silE p q].length = (es ++ [silE p q]).length := by simp
  rw [el] at st10
  exact ⟨rfl, a9, c9, st10⟩
end
set_option maxHeartbeats 16000000 in
theorem partD_c {B : Nat → Prop} {H0 : Heap} {bb : Nat} {ns : List RnM} {root : Int} {v0 : Value} (hv0 : ReV B H0 v0 ns root) : ∀ (r : ReM), r.plain = true → ∀ {H : Heap} {rest : List Pc} {n i : Nat} {a : Option Addr} {c : Nat} {es : List EdM} {v : Value}, TreeAt ns r i → v = v0 →
    (st : StB B H0 H (pB tDb bb (dbL n (.slice a es.length c)) :: pS tEdD 83 a es.length c es :: rest)) → n + stM r ≤ 1000000 → es.length + 2 * stM r ≤ 4000000 →
    FnOk Try.prog 42 #[.pointer (some ⟨bb, 0, none⟩), v, .int .i64 (i : Int), .slice none 0 0] H fun u H' => u = .tuple #[.int .i64 ((bldM r n).1 : Nat), .int .i64 ((bldM r n).2.1 : Nat)] ∧ ∃ a' c', StB B H0 H' (pB tDb bb (dbL (n + stM r) (.slice a' (es ++ (bldM r n).2.2).length c')) :: pS tEdD 83 a' (es ++ (bldM r n).2.2).length c' (es ++ (bldM r n).2.2) :: rest) := fun r => by
  obtain ⟨hl, na, nc, rfl, h1⟩ := hv0
  have hlt : ∀ {H : Heap} {ps : List Pc}, StB B H0 H ps → ∀ k, B k → k < H0.size := fun st => st.lt0
  induction r with
  | eps =>
    intro hpl H rest n i a c es v ht hv st hn hl2
    subst hv
    simp only [stM] at hn hl2
    obtain ⟨d, hd, hop⟩ := ht
    refine FnOk.of_vc Try.func42 rfl (Try.call42 _) ?_
    (conv => whnf); refine vbox (reL (.slice na ns.length nc) root) rfl ?_
    intro p H1 hp hs1 hb1 ha1
    have st1 := (st.box hp hs1 hb1 ha1).perm (List.perm_append_singleton _ _)
    (conv => whnf); refine fa fl39_0 ?_
    (conv => whnf); refine ld1 (v := .slice na ns.length nc) ct37 (by rw [(st1.blk 0 rfl).cell]; rfl) trivial ?_
    (conv => whnf); refine ixr (i := i) sl37 (h1.frame st1.old) hd rfl ?_
    rintro b2 o2 c2 hS2 hc2 ⟨rfl, hok⟩
    (conv => whnf); refine ldN (cs := rnL d) (by rw [rnL_len]; exact ag77) hc2 trivial ?_
    (conv => whnf); refine valloc _ rnZ rn_z rfl ?_
    intro x H3 hx hs3 hb3 ha3
    have st3 := (st1.box hx hs3 hb3 ha3).perm (List.perm_append_singleton _ _)
    (conv => whnf); refine stNB (cs := rnL d) st3 0 (by rw [rnL_len]; rfl) rfl (by rw [rnL_len, rnZ_len]; decide) (rn_ones d) fun H4 st4 => ?_
    rw [splice_all (show (rnL d).length = rnZ.length by rw [rnL_len, rnZ_len])] at st4
    replace st4 : StB B H0 H4 (pB tDb bb (dbL n (.slice a es.length c)) :: pS tEdD 83 a es.length c es :: pB 77 x (rnL d) :: pB 39 p (reL (.slice na ns.length nc) root) :: rest) := st4.pickN 4 [2, 3, 0, 1] (by decide)
    (conv => whnf); refine fa fl34_0 ?_
    (conv => whnf); refine ld1 (v := .int .i64 (n : Int)) ct3 (by rw [(st4.blk 0 rfl).cell]; rfl) trivial ?_
    (conv => whnf); refine fa fl77_0 ?_
    (conv => whnf); refine ld1 (v := .int .i64 d.op) ct3 (by rw [(st4.blk 2 rfl).cell]; exact rn_op d) trivial ?_
    (conv => whnf); rw [hop]
    (conv => whnf); refine fa fl34_0 ?_
    (conv => whnf); refine ld1 (v := .int .i64 ((n : Nat) : Int)) ct3 (by rw [(st4.blk 0 rfl).cell]; rfl) trivial ?_
    (conv => whnf); rw [w64 (x := ((n : Nat) : Int) + 2) (by omega) (by omega), show ((n : Nat) : Int) + 2 = ((n + 2 : Nat) : Int) by omega]
    (conv => whnf); refine fa fl34_0 ?_
    (conv => whnf); refine st1B st4 0 ct3 rfl (show 0 < 4 by decide) rfl fun H5 st5 => ?_
    (conv => whnf); rw [w64 (x := (n : Int) + 1) (by omega) (by omega), show (n : Int) + 1 = ((n + 1 : Nat) : Int) by omega]
    (conv => whnf); refine dsil_v st5 (by omega) (by omega) (by first | omega | (simp only [List.length_append, List.length_cons, List.length_nil]; omega)) fun a6 c6 H6 st6 => ?_
    (conv => whnf); rw [w64 (x := (n : Int) + 1) (by omega) (by omega), show (n : Int) + 1 = ((n + 1 : Nat) : Int) by omega]
    (conv => whnf)
    exact ⟨rfl, a6, c6, st6.pickN 4 [0, 1] (by decide)⟩
  | cls s =>
    intro hpl H rest n i a c es v ht hv st hn hl2
    subst hv
    simp only [stM] at hn hl2
    obtain ⟨d, hd, hop, hset⟩ := ht
    refine FnOk.of_vc Try.func42 rfl (Try.call42 _) ?_
    (conv => whnf); refine vbox (reL (.slice na ns.length nc) root) rfl ?_
    intro p H1 hp hs1 hb1 ha1
    have st1 := (st.box hp hs1 hb1 ha1).perm (List.perm_append_singleton _ _)
    (conv => whnf); refine fa fl39_0 ?_
    (conv => whnf); refine ld1 (v := .slice na ns.length nc) ct37 (by rw [(st1.blk 0 rfl).cell]; rfl) trivial ?_
    (conv => whnf); refine ixr (i := i) sl37 (h1.frame st1.old) hd rfl ?_
    rintro b2 o2 c2 hS2 hc2 ⟨rfl, hok⟩
    (conv => whnf); refine ldN (cs := rnL d) (by rw [rnL_len]; exact ag77) hc2 trivial ?_
    (conv => whnf); refine valloc _ rnZ rn_z rfl ?_
    intro x H3 hx hs3 hb3 ha3
    have st3 := (st1.box hx hs3 hb3 ha3).perm (List.perm_append_singleton _ _)
    (conv => whnf); refine stNB (cs := rnL d) st3 0 (by rw [rnL_len]; rfl) rfl (by rw [rnL_len, rnZ_len]; decide) (rn_ones d) fun H4 st4 => ?_
    rw [splice_all (show (rnL d).length = rnZ.length by rw [rnL_len, rnZ_len])] at st4
    replace st4 : StB B H0 H4 (pB tDb bb (dbL n (.slice a es.length c)) :: pS tEdD 83 a es.length c es :: pB 77 x (rnL d) :: pB 39 p (reL (.slice na ns.length nc) root) :: rest) := st4.pickN 4 [2, 3, 0, 1] (by decide)
    (conv => whnf); refine fa fl34_0 ?_
    (conv => whnf); refine ld1 (v := .int .i64 (n : Int)) ct3 (by rw [(st4.blk 0 rfl).cell]; rfl) trivial ?_
    (conv => whnf); refine fa fl77_0 ?_
    (conv => whnf); refine ld1 (v := .int .i64 d.op) ct3 (by rw [(st4.blk 2 rfl).cell]; exact rn_op d) trivial ?_
    (conv => whnf); rw [hop]
    (conv => whnf); refine fa fl34_0 ?_
    (conv => whnf); refine ld1 (v := .int .i64 ((n : Nat) : Int)) ct3 (by rw [(st4.blk 0 rfl).cell]; rfl) trivial ?_
    (conv => whnf); rw [w64 (x := ((n : Nat) : Int) + 2) (by omega) (by omega), show ((n : Nat) : Int) + 2 = ((n + 2 : Nat) : Int) by omega]
    (conv => whnf); refine fa fl34_0 ?_
    (conv => whnf); refine st1B st4 0 ct3 rfl (show 0 < 4 by decide) rfl fun H5 st5 => ?_
    have hdis := st5.apart2 (i := 0) (j := 1) rfl rfl (by decide)
    have hdis2 := st5.apart2 (i := 2) (j := 1) rfl rfl (by decide)
    have hb5 : bb < H5.size ∧ ¬ slB (.slice a es.length c) bb := ⟨(st5.in_ 0 rfl rfl).2, fun h => hdis bb rfl (.inl h)⟩
    have hx5 : x < H5.size ∧ ¬ slB (.slice a es.length c) x := ⟨(st5.in_ 2 rfl rfl).2, fun h => hdis2 x rfl (.inl h)⟩
    (conv => whnf); refine VDraw.heldZ (fun k => k < H5.size ∧ ¬ slB (.slice a es.length c) k) [15] (sq [0,1,2,3,4,5,6,7,8,9,10] (.f 11 (.f 12 (sq [13,14] (.f 15 .e))))) rfl (by kernel_rfl) ?_
    (conv => whnf); refine fa fl34_3 ?_
    (conv => whnf); refine ld1 (v := .slice a es.length c) ct32 (by rw [(st5.blk 0 rfl).cell]; rfl) hb5 ?_
    (conv => whnf); rw [w64 (x := (n : Int) + 1) (by omega) (by omega), show (n : Int) + 1 = ((n + 1 : Nat) : Int) by omega]
    (conv => whnf); refine fa fl77_1 ?_
    (conv => whnf); refine ldN (cs := bitsL d.set) (by rw [bitsL_len]; exact ag75) ((st5.blk 2 rfl).cells fun j v hv => rn_set d j v hv) hx5 ?_
    (conv => whnf); rw [hset]
    refine setD_build n (n + 1) s ?_
    (conv => whnf); refine vbuild1 sl32 (edDL (setE n (n + 1) s)) rfl (edDL_len _) (by decide) (by decide) ?_
    intro y H6 hy hs6 hb6 ha6
    have st6 := st5.skip hy ha6
    refine ⟨ha6.mono fun k hk => by have := hk.1; omega, ?_⟩
    (conv => whnf); refine appO (ys := [setE n (n + 1) s]) st6 1 sl32 rfl (hb6.cells (o := 0) (cs := edDL (setE n (n + 1) s)) fun j v hv => by rw [Nat.zero_add]; exact hv) (Ty.reps_one ⟨rfl, edge_ok (by omega) (by omega) _ _⟩) rfl (fun u hu => List.all_eq_true.1 (edD_ones _) u hu) (by simp only [List.length_cons, List.length_nil]; omega) (by decide) fun a9 c9 H9 st9 ha9 => ?_
    refine ⟨(ha6.mono fun k hk => by have := hk.1; omega).trans (ha9.mono fun k hk => ⟨by have := hk.1; omega, hk.2⟩), ?_⟩
    (conv => whnf); refine fa fl34_3 ?_
    (conv => whnf); refine st1B st9 0 ct32 rfl (show 3 < 4 by decide) rfl fun H10 st10 => ?_
    (conv => whnf); rw [w64 (x := (n : Int) + 1) (by omega) (by omega), show (n : Int) + 1 = ((n + 1 : Nat) : Int) by omega]
    (conv => whnf)
    have el : es.length + [setE n (n + 1) s].length = (es ++ [setE n (n + 1) s]).length := by simp
    rw [el] at st10
    exact ⟨rfl, a9, c9, st10.pickN 4 [0, 1] (by decide)⟩
  | cat r1 r2 ih1 ih2 =>
    intro hpl H rest n i a c es v ht hv st hn hl2
    subst hv
    simp only [ReM.plain, Bool.and_eq_true] at hpl
    simp only [stM] at hn hl2
    obtain ⟨d, j, k, hd, hop, hl1, hl2', hta, htb⟩ := ht
    have hm1 := bldM_len r1 hpl.1 n
    have hm2 := bldM_len r2 hpl.2 (n + stM r1)
    have hi1 := bldM_in r1 hpl.1 n
    have hi2 := bldM_in r2 hpl.2 (n + stM r1)
    refine FnOk.of_vc Try.func42 rfl (Try.call42 _) ?_
    (conv => whnf); refine vbox (reL (.slice na ns.length nc) root) rfl ?_
    intro p H1 hp hs1 hb1 ha1
    have st1 := (st.box hp hs1 hb1 ha1).perm (List.perm_append_singleton _ _)
    (conv => whnf); refine fa fl39_0 ?_
    (conv => whnf); refine ld1 (v := .slice na ns.length nc) ct37 (by rw [(st1.blk 0 rfl).cell]; rfl) trivial ?_
    (conv => whnf); refine ixr (i := i) sl37 (h1.frame st1.old) hd rfl ?_
    rintro b2 o2 c2 hS2 hc2 ⟨rfl, hok⟩
    (conv => whnf); refine ldN (cs := rnL d) (by rw [rnL_len]; exact ag77) hc2 trivial ?_
    (conv => whnf); refine valloc _ rnZ rn_z rfl ?_
    intro x H3 hx hs3 hb3 ha3
    have st3 := (st1.box hx hs3 hb3 ha3).perm (List.perm_append_singleton _ _)
    (conv => whnf); refine stNB (cs := rnL d) st3 0 (by rw [rnL_len]; rfl) rfl (by rw [rnL_len, rnZ_len]; decide) (rn_ones d) fun H4 st4 => ?_
    rw [splice_all (show (rnL d).length = rnZ.length by rw [rnL_len, rnZ_len])] at st4
    replace st4 : StB B H0 H4 (pB tDb bb (dbL n (.slice a es.length c)) :: pS tEdD 83 a es.length c es :: pB 77 x (rnL d) :: pB 39 p (reL (.slice na ns.length nc) root) :: rest) := st4.pickN 4 [2, 3, 0, 1] (by decide)
    (conv => whnf); refine fa fl34_0 ?_
    (conv => whnf); refine ld1 (v := .int .i64 (n : Int)) ct3 (by rw [(st4.blk 0 rfl).cell]; rfl) trivial ?_
    (conv => whnf); refine fa fl77_0 ?_
    (conv => whnf); refine ld1 (v := .int .i64 d.op) ct3 (by rw [(st4.blk 2 rfl).cell]; exact rn_op d) trivial ?_
    (conv => whnf); rw [hop]
    (conv => whnf); refine ldN (cs := reL (.slice na ns.length nc) root) ag39 ((st4.blk 3 rfl).cells fun j v hv => by rw [Nat.zero_add]; exact hv) trivial ?_
    (conv => whnf); refine fa fl77_2 ?_
    (conv => whnf); refine ld1 (v := .int .i64 d.l) ct3 (by rw [(st4.blk 2 rfl).cell, Nat.zero_add]; exact rn_l d) trivial ?_
    (conv => whnf); rw [hl1]
    (conv => whnf); refine VCall.mk (ih1 hpl.1 hta rfl st4 (by omega) (by first | omega | (simp only [List.length_append]; omega))) ?_
    rintro _ H5 ⟨rfl, a5, c5, st5⟩
    (conv => whnf); refine ldN (cs := reL (.slice na ns.length nc) root) ag39 ((st5.blk 3 rfl).cells fun j v hv => by rw [Nat.zero_add]; exact hv) trivial ?_
    (conv => whnf); refine fa fl77_3 ?_
    (conv => whnf); refine ld1 (v := .int .i64 d.r) ct3 (by rw [(st5.blk 2 rfl).cell, Nat.zero_add]; exact rn_r d) trivial ?_
    (conv => whnf); rw [hl2']
    (conv => whnf); refine VCall.mk (ih2 hpl.2 htb rfl st5 (by omega) (by first | omega | (simp only [List.length_append]; omega))) ?_
    rintro _ H6 ⟨rfl, a6, c6, st6⟩
    (conv => whnf); refine dsil_v st6 (by omega) (by omega) (by first | omega | (simp only [List.length_append, List.length_cons, List.length_nil]; omega)) fun a7 c7 H7 st7 => ?_
    (conv => whnf)
    have e1 : es ++ (bldM r1 n).2.2 ++ (bldM r2 (n + stM r1)).2.2 ++ [silE (bldM r1 n).2.1 (bldM r2 (n + stM r1)).1] = es ++ (bldM (.cat r1 r2) n).2.2 := by simp [bldM]
    rw [e1, show n + stM r1 + stM r2 = n + stM (.cat r1 r2) by simp only [stM]; omega] at st7
    exact ⟨rfl, a7, c7, st7.pickN 4 [0, 1] (by decide)⟩
  | alt r1 r2 ih1 ih2 =>
    intro hpl H rest n i a c es v ht hv st hn hl2
    subst hv
    simp only [ReM.plain, Bool.and_eq_true] at hpl
    simp only [stM] at hn hl2
    obtain ⟨d, j, k, hd, hop, hl1, hl2', hta, htb⟩ := ht
    have hm1 := bldM_len r1 hpl.1 (n + 1)
    have hm2 := bldM_len r2 hpl.2 (n + 1 + stM r1)
    have hi1 := bldM_in r1 hpl.1 (n + 1)
    have hi2 := bldM_in r2 hpl.2 (n + 1 + stM r1)
    refine FnOk.of_vc Try.func42 rfl (Try.call42 _) ?_
    (conv => whnf); refine vbox (reL (.slice na ns.length nc) root) rfl ?_
    intro p H1 hp hs1 hb1 ha1
    have st1 := (st.box hp hs1 hb1 ha1).perm (List.perm_append_singleton _ _)
    (conv => whnf); refine fa fl39_0 ?_
    (conv => whnf); refine ld1 (v := .slice na ns.length nc) ct37 (by rw [(st1.blk 0 rfl).cell]; rfl) trivial ?_
    (conv => whnf); refine ixr (i := i) sl37 (h1.frame st1.old) hd rfl ?_
    rintro b2 o2 c2 hS2 hc2 ⟨rfl, hok⟩
    (conv => whnf); refine ldN (cs := rnL d) (by rw [rnL_len]; exact ag77) hc2 trivial ?_
    (conv => whnf); refine valloc _ rnZ rn_z rfl ?_
    intro x H3 hx hs3 hb3 ha3
    have st3 := (st1.box hx hs3 hb3 ha3).perm (List.perm_append_singleton _ _)
    (conv => whnf); refine stNB (cs := rnL d) st3 0 (by rw [rnL_len]; rfl) rfl (by rw [rnL_len, rnZ_len]; decide) (rn_ones d) fun H4 st4 => ?_
    rw [splice_all (show (rnL d).length = rnZ.length by rw [rnL_len, rnZ_len])] at st4
    replace st4 : StB B H0 H4 (pB tDb bb (dbL n (.slice a es.length c)) :: pS tEdD 83 a es.length c es :: pB 77 x (rnL d) :: pB 39 p (reL (.slice na ns.length nc) root) :: rest) := st4.pickN 4 [2, 3, 0, 1] (by decide)
    (conv => whnf); refine fa fl34_0 ?_
    (conv => whnf); refine ld1 (v := .int .i64 (n : Int)) ct3 (by rw [(st4.blk 0 rfl).cell]; rfl) trivial ?_
    (conv => whnf); refine fa fl77_0 ?_
    (conv => whnf); refine ld1 (v := .int .i64 d.op) ct3 (by rw [(st4.blk 2 rfl).cell]; exact rn_op d) trivial ?_
    (conv => whnf); rw [hop]
    (conv => whnf); refine fa fl34_0 ?_
    (conv => whnf); refine ld1 (v := .int .i64 ((n : Nat) : Int)) ct3 (by rw [(st4.blk 0 rfl).cell]; rfl) trivial ?_
    (conv => whnf); rw [w64 (x := ((n : Nat) : Int) + 1) (by omega) (by omega), show ((n : Nat) : Int) + 1 = ((n + 1 : Nat) : Int) by omega]
    (conv => whnf); refine fa fl34_0 ?_
    (conv => whnf); refine st1B st4 0 ct3 rfl (show 0 < 4 by decide) rfl fun H5 st5 => ?_
    replace st5 : StB B H0 H5 (pB tDb bb (dbL (n + 1) (.slice a es.length c)) :: pS tEdD 83 a es.length c es :: pB 77 x (rnL d) :: pB 39 p (reL (.slice na ns.length nc) root) :: rest) := st5
    (conv => whnf); refine ldN (cs := reL (.slice na ns.length nc) root) ag39 ((st5.blk 3 rfl).cells fun j v hv => by rw [Nat.zero_add]; exact hv) trivial ?_
    (conv => whnf); refine fa fl77_2 ?_
    (conv => whnf); refine ld1 (v := .int .i64 d.l) ct3 (by rw [(st5.blk 2 rfl).cell, Nat.zero_add]; exact rn_l d) trivial ?_
    (conv => whnf); rw [hl1]
    (conv => whnf); refine VCall.mk (ih1 hpl.1 hta rfl st5 (by omega) (by first | omega | (simp only [List.length_append]; omega))) ?_
    rintro _ H6 ⟨rfl, a6, c6, st6⟩
    (conv => whnf); refine ldN (cs := reL (.slice na ns.length nc) root) ag39 ((st6.blk 3 rfl).cells fun j v hv => by rw [Nat.zero_add]; exact hv) trivial ?_
    (conv => whnf); refine fa fl77_3 ?_
    (conv => whnf); refine ld1 (v := .int .i64 d.r) ct3 (by rw [(st6.blk 2 rfl).cell, Nat.zero_add]; exact rn_r d) trivial ?_
    (conv => whnf); rw [hl2']
    (conv => whnf); refine VCall.mk (ih2 hpl.2 htb rfl st6 (by omega) (by first | omega | (simp only [List.length_append]; omega))) ?_
    rintro _ H7 ⟨rfl, a7, c7, st7⟩
    (conv => whnf); refine fa fl34_0 ?_
    (conv => whnf); refine ld1 (v := .int .i64 ((n + 1 + stM r1 + stM r2 : Nat) : Int)) ct3 (by rw [(st7.blk 0 rfl).cell]; rfl) trivial ?_
    (conv => whnf); refine fa fl34_0 ?_
    (conv => whnf); refine ld1 (v := .int .i64 ((n + 1 + stM r1 + stM r2 : Nat) : Int)) ct3 (by rw [(st7.blk 0 rfl).cell]; rfl) trivial ?_
    (conv => whnf); rw [w64 (x := ((n + 1 + stM r1 + stM r2 : Nat) : Int) + 1) (by omega) (by omega), show ((n + 1 + stM r1 + stM r2 : Nat) : Int) + 1 = ((n + 1 + stM r1 + stM r2 + 1 : Nat) : Int) by omega]
    (conv => whnf); refine fa fl34_0 ?_
    (conv => whnf); refine st1B st7 0 ct3 rfl (show 0 < 4 by decide) rfl fun H8 st8 => ?_
    replace st8 : StB B H0 H8 (pB tDb bb (dbL (n + 1 + stM r1 + stM r2 + 1) (.slice a7 (es ++ (bldM r1 (n + 1)).2.2 ++ (bldM r2 (n + 1 + stM r1)).2.2).length c7)) :: pS tEdD 83 a7 (es ++ (bldM r1 (n + 1)).2.2 ++ (bldM r2 (n + 1 + stM r1)).2.2).length c7 (es ++ (bldM r1 (n + 1)).2.2 ++ (bldM r2 (n + 1 + stM r1)).2.2) :: pB 77 x (rnL d) :: pB 39 p (reL (.slice na ns.length nc) root) :: rest) := st8
    (conv => whnf); refine dsil_v st8 (by omega) (by omega) (by first | omega | (simp only [List.length_append, List.length_cons, List.length_nil]; omega)) fun a9 c9 H9 st9 => ?_
    (conv => whnf); refine dsil_v st9 (by omega) (by omega) (by first | omega | (simp only [List.length_append, List.length_cons, List.length_nil]; omega)) fun a10 c10 H10 st10 => ?_
    (conv => whnf); refine dsil_v st10 (by omega) (by omega) (by first | omega | (simp only [List.length_append, List.length_cons, List.length_nil]; omega)) fun a11 c11 H11 st11 => ?_
    (conv => whnf); refine dsil_v st11 (by omega) (by omega) (by first | omega | (simp only [List.length_append, List.length_cons, List.length_nil]; omega)) fun a12 c12 H12 st12 => ?_
    (conv => whnf)
    have e1 : es ++ (bldM r1 (n + 1)).2.2 ++ (bldM r2 (n + 1 + stM r1)).2.2 ++ [silE n (bldM r1 (n + 1)).1] ++ [silE n (bldM r2 (n + 1 + stM r1)).1] ++ [silE (bldM r1 (n + 1)).2.1 (n + 1 + stM r1 + stM r2)] ++ [silE (bldM r2 (n + 1 + stM r1)).2.1 (n + 1 + stM r1 + stM r2)] = es ++ (bldM (.alt r1 r2) n).2.2 := by simp [bldM]
    rw [e1, show n + 1 + stM r1 + stM r2 + 1 = n + stM (.alt r1 r2) by simp only [stM]; omega] at st12
    exact ⟨rfl, a12, c12, st12.pickN 4 [0, 1] (by decide)⟩
  | star r1 ih1 =>
    intro hpl H rest n i a c es v ht hv st hn hl2
    subst hv
    simp only [ReM.plain] at hpl
    simp only [stM] at hn hl2
    obtain ⟨d, j, hd, hop, hl1, hta⟩ := ht
    have hm1 := bldM_len r1 hpl (n + 1)
    have hi1 := bldM_in r1 hpl (n + 1)
    refine FnOk.of_vc Try.func42 rfl (Try.call42 _) ?_
    (conv => whnf); refine vbox (reL (.slice na ns.length nc) root) rfl ?_
    intro p H1 hp hs1 hb1 ha1
    have st1 := (st.box hp hs1 hb1 ha1).perm (List.perm_append_singleton _ _)
    (conv => whnf); refine fa fl39_0 ?_
    (conv => whnf); refine ld1 (v := .slice na ns.length nc) ct37 (by rw [(st1.blk 0 rfl).cell]; rfl) trivial ?_
    (conv => whnf); refine ixr (i := i) sl37 (h1.frame st1.old) hd rfl ?_
    rintro b2 o2 c2 hS2 hc2 ⟨rfl, hok⟩
    (conv => whnf); refine ldN (cs := rnL d) (by rw [rnL_len]; exact ag77) hc2 trivial ?_
    (conv => whnf); refine valloc _ rnZ rn_z rfl ?_
    intro x H3 hx hs3 hb3 ha3
    have st3 := (st1.box hx hs3 hb3 ha3).perm (List.perm_append_singleton _ _)
    (conv => whnf); refine stNB (cs := rnL d) st3 0 (by rw [rnL_len]; rfl) rfl (by rw [rnL_len, rnZ_len]; decide) (rn_ones d) fun H4 st4 => ?_
    rw [splice_all (show (rnL d).length = rnZ.length by rw [rnL_len, rnZ_len])] at st4
    replace st4 : StB B H0 H4 (pB tDb bb (dbL n (.slice a es.length c)) :: pS tEdD 83 a es.length c es :: pB 77 x (rnL d) :: pB 39 p (reL (.slice na ns.length nc) root) :: rest) := st4.pickN 4 [2, 3, 0, 1] (by decide)
    (conv => whnf); refine fa fl34_0 ?_
    (conv => whnf); refine ld1 (v := .int .i64 (n : Int)) ct3 (by rw [(st4.blk 0 rfl).cell]; rfl) trivial ?_
    (conv => whnf); refine fa fl77_0 ?_
    (conv => whnf); refine ld1 (v := .int .i64 d.op) ct3 (by rw [(st4.blk 2 rfl).cell]; exact rn_op d) trivial ?_
    (conv => whnf); rw [hop]
    (conv => whnf); refine fa fl34_0 ?_
    (conv => whnf); refine ld1 (v := .int .i64 ((n : Nat) : Int)) ct3 (by rw [(st4.blk 0 rfl).cell]; rfl) trivial ?_
    (conv => whnf); rw [w64 (x := ((n : Nat) : Int) + 1) (by omega) (by omega), show ((n : Nat) : Int) + 1 = ((n + 1 : Nat) : Int) by omega]
    (conv => whnf); refine fa fl34_0 ?_
    (conv => whnf); refine st1B st4 0 ct3 rfl (show 0 < 4 by decide) rfl fun H5 st5 => ?_
    replace st5 : StB B H0 H5 (pB tDb bb (dbL (n + 1) (.slice a es.length c)) :: pS tEdD 83 a es.length c es :: pB 77 x (rnL d) :: pB 39 p (reL (.slice na ns.length nc) root) :: rest) := st5
    (conv => whnf); refine ldN (cs := reL (.slice na ns.length nc) root) ag39 ((st5.blk 3 rfl).cells fun j v hv => by rw [Nat.zero_add]; exact hv) trivial ?_
    (conv => whnf); refine fa fl77_2 ?_
    (conv => whnf); refine ld1 (v := .int .i64 d.l) ct3 (by rw [(st5.blk 2 rfl).cell, Nat.zero_add]; exact rn_l d) trivial ?_
    (conv => whnf); rw [hl1]
    (conv => whnf); refine VCall.mk (ih1 hpl hta rfl st5 (by omega) (by first | omega | (simp only [List.length_append]; omega))) ?_
    rintro _ H6 ⟨rfl, a6, c6, st6⟩
    (conv => whnf); refine fa fl34_0 ?_
    (conv => whnf); refine ld1 (v := .int .i64 ((n + 1 + stM r1 : Nat) : Int)) ct3 (by rw [(st6.blk 0 rfl).cell]; rfl) trivial ?_
    (conv => whnf); refine fa fl34_0 ?_
    (conv => whnf); refine ld1 (v := .int .i64 ((n + 1 + stM r1 : Nat) : Int)) ct3 (by rw [(st6.blk 0 rfl).cell]; rfl) trivial ?_
    (conv => whnf); rw [w64 (x := ((n + 1 + stM r1 : Nat) : Int) + 1) (by omega) (by omega), show ((n + 1 + stM r1 : Nat) : Int) + 1 = ((n + 1 + stM r1 + 1 : Nat) : Int) by omega]
    (conv => whnf); refine fa fl34_0 ?_
    (conv => whnf); refine st1B st6 0 ct3 rfl (show 0 < 4 by decide) rfl fun H8 st8 => ?_
    replace st8 : StB B H0 H8 (pB tDb bb (dbL (n + 1 + stM r1 + 1) (.slice a6 (es ++ (bldM r1 (n + 1)).2.2).length c6)) :: pS tEdD 83 a6 (es ++ (bldM r1 (n + 1)).2.2).length c6 (es ++ (bldM r1 (n + 1)).2.2) :: pB 77 x (rnL d) :: pB 39 p (reL (.slice na ns.length nc) root) :: rest) := st8
    (conv => whnf); refine dsil_v st8 (by omega) (by omega) (by first | omega | (simp only [List.length_append, List.length_cons, List.length_nil]; omega)) fun a9 c9 H9 st9 => ?_
    (conv => whnf); refine dsil_v st9 (by omega) (by omega) (by first | omega | (simp only [List.length_append, List.length_cons, List.length_nil]; omega)) fun a10 c10 H10 st10 => ?_
    (conv => whnf); refine dsil_v st10 (by omega) (by omega) (by first | omega | (simp only [List.length_append, List.length_cons, List.length_nil]; omega)) fun a11 c11 H11 st11 => ?_
    (conv => whnf); refine dsil_v st11 (by omega) (by omega) (by first | omega | (simp only [List.length_append, List.length_cons, List.length_nil]; omega)) fun a12 c12 H12 st12 => ?_
    (conv => whnf)
    have e1 : es ++ (bldM r1 (n + 1)).2.2 ++ [silE n (bldM r1 (n + 1)).1] ++ [silE n (n + 1 + stM r1)] ++ [silE (bldM r1 (n + 1)).2.1 (bldM r1 (n + 1)).1] ++ [silE (bldM r1 (n + 1)).2.1 (n + 1 + stM r1)] = es ++ (bldM (.star r1) n).2.2 := by simp [bldM]
    rw [e1, show n + 1 + stM r1 + 1 = n + stM (.star r1) by simp only [stM]; omega] at st12
    exact ⟨rfl, a12, c12, st12.pickN 4 [0, 1] (by decide)⟩
  | and_ => intro h; cases h
  | minus => intro h; cases h
end Go.Proofs.Ytlnmhfhdjnenoaa
