/- row.put: the walk. -/
import Derived.Test.YtkgmhkcncemmkaaPGam2
import Derived.Test.YtkgmhkcncemmkaaPSpk
set_option linter.unusedVariables false
set_option linter.unusedSimpArgs false
set_option maxRecDepth 100000
namespace Go.Proofs.Ytkgmhkcncemmkaa
open Go.VC
attribute [local irreducible] oneM mRun gRun atRun
theorem ndL_inj {a b : Nd} (h : ndL a = ndL b) : a = b := ndV_inj a b (by unfold ndV; unfold ndL at h; rw [show #[Value.int .i64 a.s, .int .i64 a.x, .int .i64 a.y] = [Value.int .i64 a.s, .int .i64 a.x, .int .i64 a.y].toArray from rfl, h])
def ndLits (n : Nd) : List Lit := [.int .i64 n.s, .int .i64 n.x, .int .i64 n.y]
theorem ndLits_inj {a b : Nd} : decide (a = b) = true ↔ ndLits a = ndLits b := by
  rw [decide_eq_true_eq]
  constructor
  · rintro rfl; rfl
  · intro h
    obtain ⟨s, x, y⟩ := a
    obtain ⟨s', x', y'⟩ := b
    simp only [ndLits, List.cons.injEq, Lit.int.injEq, true_and, and_true] at h
    obtain ⟨rfl, rfl, rfl⟩ := h
    rfl
theorem spot_lits {n : Nd} (h : n.Ok) : Try.prog.keyLits 2 159 (ndL n) = some (ndLits n) := by
  have c1 : Try.prog.cellsOf 159 = 3 := by kernel_rfl
  have c2 : Try.prog.cellsOf 3 = 1 := by kernel_rfl
  simp [Program.keyLits, Try.underlying159, Try.underlying3, c1, c2, ndL, ndLits, int_wf h.1, int_wf h.2.1, int_wf h.2.2]
theorem spot_eq {a b : Nd} (ha : a.Ok) (hb : b.Ok) {x y : Operand} {S : Nat → Prop} {H : Heap} {K : Value → Prop} (k : K (.bool (decide (a = b)))) :
    VDet Try.prog (do eqGuard .eql 159 x y (.agg (ndL a).toArray) (.agg (ndL b).toArray); binOp .eql 159 (.agg (ndL a).toArray) (.agg (ndL b).toArray)) S H K :=
  veq (m := 2) (la := ndLits a) (lb := ndLits b) (by kernel_rfl) (by decide) (Try.eqGuardType159) rfl rfl (spot_lits ha) (spot_lits hb) ndLits_inj k
theorem row_set {F : List NW} {i : Nat} {n : Nd} {u w : List Nat} (hi : F[i]? = some (n, u)) : updS (rowS F) 1 (slot tW 9 ((F.map (·.2)).set i w)) = rowS (F.set i (n, w)) := by
  funext j
  match j with
  | 0 =>
    rw [updS_ne (by decide)]
    show slot _ _ _ = slot _ _ _
    congr 1
    rw [List.map_set]
    apply List.ext_getElem?
    intro k
    by_cases hk : i = k
    · subst hk
      rw [List.getElem?_set_self (by rw [List.length_map]; exact (List.getElem?_eq_some_iff.1 hi).1), List.getElem?_map, hi]; rfl
    · rw [List.getElem?_set_ne hk]
  | 1 =>
    rw [updS_self]
    show slot _ _ _ = slot _ _ _
    congr 1
    rw [List.map_set]
  | h + 2 =>
    rw [updS_ne (by omega)]
    show slot _ _ _ = slot _ _ _
    rw [idxs_set hi]
theorem row_add (F : List NW) (n : Nd) (w : List Nat) : updS (updS (updS (rowS F) (hashN n + 2) (slot tI 3 ((idxs F (hashN n)).map (fun (i : Nat) => (i : Int)) ++ [(F.length : Int)]))) 0 (slot tNd 159 (F.map (·.1) ++ [n]))) 1 (slot tW 9 (F.map (·.2) ++ [w])) = rowS (F ++ [(n, w)]) := by
  funext j
  match j with
  | 0 =>
    rw [updS_ne (by decide), updS_self]
    show slot _ _ _ = slot _ _ _
    rw [List.map_append]; rfl
  | 1 =>
    rw [updS_self]
    show slot _ _ _ = slot _ _ _
    rw [List.map_append]; rfl
  | h + 2 =>
    rw [updS_ne (by omega), updS_ne (by omega)]
    by_cases hh : h + 2 = hashN n + 2
    · rw [hh, updS_self]
      obtain rfl : h = hashN n := by omega
      show slot _ _ _ = slot _ _ _
      rw [idxs_snoc, if_pos rfl, List.map_append]; rfl
    · rw [updS_ne hh]
      show slot _ _ _ = slot _ _ _
      rw [idxs_snoc, if_neg (by simp only; omega)]
theorem hash_lt (n : Nd) : hashN n < 256 := Nat.mod_lt _ (by decide)
set_option maxHeartbeats 16000000 in
theorem put_c {H : Heap} {b : Nat} {vs : List Value} {F : List NW} {n : Nd} {w : List Nat} {B : Nat → Prop} (st : StB B H H [pRow b vs F]) (hr : RowP vs F) (hn : InR 2 n) (hF : ∀ x ∈ F, x.1.Ok ∧ x.2.length = w.length ∧ bytes_ x.2) (hw : bytes_ w) (hlen : F.length + 1 ≤ 5864062014805) :
    FnOk Try.prog 86 #[.pointer (some ⟨b, 0, none⟩), ndV n, .string (bA w)] H fun v H' => ∃ vs' F' r, v = .bool r ∧ StB B H H' [pRow b vs' F'] ∧ RowP vs' F' ∧ Put F n w F' r := by
  have hnok := hn.ok (by decide)
  obtain ⟨hvl, hnd⟩ := hr
  have hh := hash_lt n
  refine FnOk.of_vc Try.func86 rfl (Try.call86 _) ?_
  (conv => whnf); refine vbox (ndL n) rfl ?_
  intro p1 H1 hp1 hs1 hb1 ha1
  have st1 := st.box hp1 hs1 hb1 ha1
  have q1 := st1.blk 1 rfl
  (conv => whnf); refine fa fl159_1 ?_
  (conv => whnf); refine ld1 ct3 (sdx1 q1) trivial ?_
  (conv => whnf); rw [w64 (x := n.x * 37) (by have := hn.x0; have := hn.x1; omega) (by have := hn.x0; have := hn.x1; omega)]
  (conv => whnf); refine fa fl159_2 ?_
  (conv => whnf); refine ld1 ct3 (sdx2 q1) trivial ?_
  (conv => whnf); rw [w64 (x := n.y * 3) (by have := hn.y0; have := hn.y1; omega) (by have := hn.y0; have := hn.y1; omega)]
  (conv => whnf); rw [w64 (x := n.x * 37 + n.y * 3) (by have := hn.x0; have := hn.x1; have := hn.y0; have := hn.y1; omega) (by have := hn.x0; have := hn.x1; have := hn.y0; have := hn.y1; omega)]
  (conv => whnf); refine fa fl159_0 ?_
  (conv => whnf); refine ld1 ct3 (sdx0 q1) trivial ?_
  (conv => whnf); rw [w64 (x := n.x * 37 + n.y * 3 + n.s) (by have := hn.x0; have := hn.x1; have := hn.y0; have := hn.y1; have := hn.s0; have := hn.s1; omega) (by have := hn.x0; have := hn.x1; have := hn.y0; have := hn.y1; have := hn.s0; have := hn.s1; omega)]
  rw [show n.x * 37 + n.y * 3 + n.s = ((n.x.toNat * 37 + n.y.toNat * 3 + n.s.toNat : Nat) : Int) by have := hn.x0; have := hn.y0; have := hn.s0; omega]
  (conv => whnf); refine vrem (b := 256) (by decide) ?_
  rw [show (n.x.toNat * 37 + n.y.toNat * 3 + n.s.toNat) % 256 = hashN n from rfl]
  obtain ⟨vh, hvh⟩ := get_some (l := vs) (k := hashN n + 2) (by omega)
  obtain ⟨v0, hv0⟩ := get_some (l := vs) (k := 0) (by omega)
  obtain ⟨v1, hv1⟩ := get_some (l := vs) (k := 1) (by omega)
  -- what the cells hold
  have hcell : ∀ {H' : Heap} {ps : List Pc} (st : StB B H H' ps), ps[0]? = some (pRow b vs F) → ∀ (j : Nat) (v : Value), vs[j]? = some v → VC.cell H' b (0 + j) = some v := by
    intro H' ps st hp j v hv
    have hbk : Blk H' b 156 vs := st.fblk 0 hp
    rw [hbk.cell, Nat.zero_add]; exact hv
  obtain ⟨ah, ch, rfl, -⟩ := st1.fview 0 rfl hvh (xs := (idxs F (hashN n)).map fun (i : Nat) => (i : Int)) (T := tI) (e := 3) rfl
  rw [List.length_map] at hvh
  have hmaxi : (idxs F (hashN n)).length ≤ F.length := by
    unfold idxs
    exact Nat.le_trans (List.length_filter_le _ _) (by simp)
  (conv => whnf)
  refine VLoop.mk [8] (fun k : Nat => [.int .i64 (k : Int)]) (fun k H2 => k ≤ (idxs F (hashN n)).length ∧ (∀ i ∈ (idxs F (hashN n)).take k, ∀ x, F[i]? = some x → x.1 ≠ n) ∧ StB B H H2 [pRow b vs F, pB 159 p1 (ndL n)]) (fun k _ => (idxs F (hashN n)).length - k) ?_ ?_
  · (conv => whnf)
    exact ⟨0, rfl, Nat.zero_le _, by simp, st1⟩
  · rintro k H2 junk2 ⟨hk, hno, st2⟩
    have hc2 := hcell st2 rfl
    have q2 := st2.blk 1 rfl
    have hib : ∀ (S0 : Nat → Prop) (K : Value → Prop), K (.pointer (some ⟨b, 0 + 2 + hashN n, none⟩)) → VDet Try.prog (Instr.indexAt 154 (.pointer (some ⟨b, 0 + 2, none⟩)) (.int .i64 (hashN n : Int))) S0 H2 K := fun S0 K hK => by
      refine ixa ar154 (by omega) (by omega) ?_
      rw [show 0 + 2 + ((hashN n : Nat) : Int).toNat * 1 = 0 + 2 + hashN n by omega]
      exact hK
    have hlb : ∀ (S0 : Nat → Prop), S0 b → ∀ (K : Value → Prop), K (.slice ah (idxs F (hashN n)).length ch) → VDet Try.prog (Instr.loadAt 36 (.pointer (some ⟨b, 0 + 2 + hashN n, none⟩))) S0 H2 K := fun S0 hS0 K hK => by
      refine ld1 ct36 ?_ hS0 hK
      rw [show 0 + 2 + hashN n = 0 + (hashN n + 2) by omega]
      exact hc2 _ _ hvh
    (conv => whnf); refine fa fl156_2 ?_
    (conv => whnf); refine hib _ _ ?_
    (conv => whnf); refine hlb _ trivial _ ?_
    (conv => whnf); refine VIte.mk (fun hz => ?_) (fun hz => ?_) <;> simp only [decide_eq_true_eq, decide_eq_false_iff_not] at hz
    · obtain ⟨i, hi⟩ := get_some (l := idxs F (hashN n)) (k := k) (by omega)
      obtain ⟨x, hx, hxh⟩ := idxs_mem.1 (List.mem_of_getElem? hi)
      obtain ⟨x1, u⟩ := x
      have hxF := hF _ (List.mem_of_getElem? hx)
      have hil := (List.getElem?_eq_some_iff.1 hx).1
      obtain ⟨ah', ch', e1, hvi⟩ := st2.fview 0 rfl hvh (xs := (idxs F (hashN n)).map fun (i : Nat) => (i : Int)) (T := tI) (e := 3) rfl
      injection e1 with e2 e3 e4
      subst e2; subst e4
      obtain ⟨a0, c0, e0, hvs⟩ := st2.fview 0 rfl hv0 (xs := F.map (·.1)) (T := tNd) (e := 159) rfl
      obtain ⟨a1, c1, e5, hvw⟩ := st2.fview 0 rfl hv1 (xs := F.map (·.2)) (T := tW) (e := 9) rfl
      rw [List.length_map] at e0 e5
      subst e0; subst e5
      (conv => whnf); refine fa fl156_2 ?_
      (conv => whnf); refine hib _ _ ?_
      (conv => whnf); refine hlb _ trivial _ ?_
      (conv => whnf); refine ixrn (i := k) (x := (i : Int)) sl36 hvi (by simp) (by rw [List.getElem?_map, hi]; rfl) rfl ?_
      rintro b3 o3 cs3 hS3 hc3 ⟨rfl, -⟩
      (conv => whnf); refine ld1 ct3 hc3.one trivial ?_
      (conv => whnf); refine VDraw.lex rfl (by kernel_rfl) ?_
      (conv => whnf); refine fa fl156_0 ?_
      (conv => whnf); refine ld1 ct153 (hc2 _ _ hv0) trivial ?_
      (conv => whnf); refine ixrn (i := i) (x := x1) sl153 hvs (by simp) (by rw [List.getElem?_map, hx]; rfl) rfl ?_
      rintro b4 o4 cs4 hS4 hc4 rfl
      (conv => whnf); refine ldN (cs := ndL x1) ag159 hc4 trivial ?_
      (conv => whnf); refine ldN (cs := ndL n) ag159 (q2.cells fun j v hv => by rw [Nat.zero_add]; exact hv) trivial ?_
      (conv => whnf); refine spot_eq hxF.1 hnok ?_
      by_cases he : x1 = n
      · subst he
        rw [decide_eq_true rfl]
        have hless := less_lex (u := w) (v := u) hxF.2.1.symm hw hxF.2.2
        have hless2 : ∀ r : Bool, (r = true ↔ ¬ lexL u w) → Op.bytesLess (bA w).toList (bA u).toList = r := fun r hr => by
          rw [ByteArray.toList_eq, ByteArray.toList_eq, bA_data, bA_data, Bool.eq_iff_iff, hless, hr]
        (conv => whnf); refine VSeq.run ?_
        (conv => whnf); refine fa fl156_1 ?_
        (conv => whnf); refine ld1 ct57 (hc2 _ _ hv1) trivial ?_
        (conv => whnf); refine ixrn (i := i) (x := u) sl57 hvw (by simp) (by rw [List.getElem?_map, hx]; rfl) rfl ?_
        rintro b5 o5 cs5 hS5 hc5 rfl
        (conv => whnf); refine ld1 ct9 hc5.one trivial ?_
        (conv => whnf); refine vlsss ?_
        by_cases hl : lexL u w
        · rw [hless2 false (by simp [hl])]
          (conv => whnf)
          exact ⟨vs, F, false, rfl, st2.pick [0] (by decide), ⟨hvl, hnd⟩, .inl ⟨i, u, hx, rfl, .inl ⟨hl, rfl⟩⟩⟩
        · rw [hless2 true (by simp [hl])]
          obtain ⟨c6, cap6, e6⟩ := st2.fadr 0 rfl hv1 (xs := F.map (·.2)) (T := tW) (e := 9) rfl (by rw [List.length_map]; omega)
          rw [List.length_map] at e6
          injection e6 with e7 e8 e9
          subst e7; subst e9
          (conv => whnf); refine fa fl156_1 ?_
          (conv => whnf); refine ld1 ct57 (hc2 _ _ hv1) trivial ?_
          (conv => whnf); refine ix sl57 (by omega) (by omega) ?_
          rw [show 0 + ((i : Nat) : Int).toNat * 1 = i by omega]
          (conv => whnf); refine stFE (o := i) (y := w) st2 0 ct9 rfl hv1 (xs := F.map (·.2)) (T := tW) rfl rfl (by rw [List.length_map]; omega) rfl (fun _ => rfl) fun H7 st7 => ?_
          rw [row_set hx] at st7
          (conv => whnf)
          refine ⟨vs, F.set i (x1, w), false, rfl, st7.pick [0] (by decide), ⟨hvl, ?_⟩, .inl ⟨i, u, hx, rfl, .inr ⟨hl, rfl⟩⟩⟩
          have := Put.fst (F := F) (F' := F.set i (x1, w)) (n := x1) (w := w) (r := false) (.inl ⟨i, u, hx, rfl, .inr ⟨hl, rfl⟩⟩)
          rw [this]
          exact hnd
      · rw [decide_eq_false he]
        (conv => whnf); rw [w64 (x := (k : Int) + 1) (by omega) (by omega)]
        refine ⟨rfl, k + 1, rfl, ⟨by omega, fun i' hi' x' hx' => ?_, st2⟩, by omega⟩
        rw [take_succ_snoc hi, List.mem_append, List.mem_singleton] at hi'
        rcases hi' with hi' | rfl
        · exact hno i' hi' x' hx'
        · rw [hx] at hx'
          cases hx'
          exact he
    · obtain rfl : k = (idxs F (hashN n)).length := by omega
      rw [List.take_length] at hno
      have hnew : ∀ x ∈ F, x.1 ≠ n := fun x hx e => by
        obtain ⟨i, hi⟩ := List.getElem?_of_mem hx
        exact hno i (idxs_mem.2 ⟨x, hi, by rw [e]⟩) x hi e
      obtain ⟨a0, c0, e0, -⟩ := st2.fview 0 rfl hv0 (xs := F.map (·.1)) (T := tNd) (e := 159) rfl
      obtain ⟨a1, c1, e5, -⟩ := st2.fview 0 rfl hv1 (xs := F.map (·.2)) (T := tW) (e := 9) rfl
      rw [List.length_map] at e0 e5
      subst e0; subst e5
      have hbb := (st2.in_ 0 rfl (.inl rfl) : _ ∧ b < H2.size).2
      have hself : ∀ (j : Nat) (v : Value), vs[j]? = some v → ¬ slB v b := (st2.at_ 0 rfl).2.2.2
      (conv => whnf); refine VDraw.heldZ (fun k => k < H2.size ∧ ¬ slB (.slice ah (idxs F (hashN n)).length ch) k) [18] (sq [0,1,2,3,4,5,6,7,8,9,10,11,12,15,16] (.f 13 (.f 14 (sq [17] (.f 18 .e))))) rfl (by kernel_rfl) ?_
      (conv => whnf); refine fa fl156_2 ?_
      (conv => whnf); refine hib _ _ ?_
      (conv => whnf); refine hlb _ ⟨hbb, hself _ _ hvh⟩ _ ?_
      (conv => whnf); refine fa fl156_0 ?_
      (conv => whnf); refine ld1 ct153 (hc2 _ _ hv0) ⟨hbb, hself _ _ hvh⟩ ?_
      (conv => whnf); refine fa fl156_2 ?_
      (conv => whnf); refine vbuild1 sl36 [.int .i64 (F.length : Int)] rfl rfl (by decide) (by decide) ?_
      intro q3 H3 hq3 hs3 hb3 ha3
      have st3 := st2.skip hq3 ha3
      refine ⟨ha3.mono fun k hk => by have := hk.1; omega, ?_⟩
      (conv => whnf); refine appF (ys := [(F.length : Int)]) (ds := [.int .i64 (F.length : Int)]) st3 0 sl36 rfl hvh (xs := (idxs F (hashN n)).map fun (i : Nat) => (i : Int)) (T := tI) (e := 3) rfl (hb3.cells fun j v hv => by rw [Nat.zero_add]; exact hv) (Ty.reps_one ⟨rfl, inI64 (by omega)⟩) rfl (by simp [Value.oneCell']) (by simp only [List.length_map, List.length_singleton, maxLen]; omega) (by simp only [List.length_map, List.length_singleton]; omega) fun v4 H4 st4 ha4 h14 => ?_
      refine ⟨(ha3.mono fun k hk => by have := hk.1; omega).trans (ha4.mono fun k hk => ⟨by have := hk.1; omega, hk.2⟩), ?_⟩
      (conv => whnf); refine ixa ar154 (by omega) (by omega) ?_
      (conv => whnf); refine stF (o := 0 + 2 + ((hashN n : Nat) : Int).toNat * 1) (j := hashN n + 2) st4 0 ct36 rfl (by omega) h14 fun H5 st5 => ?_
      have hw0 : (vs.set (hashN n + 2) v4)[0]? = some (.slice a0 F.length c0) := by rw [List.getElem?_set_ne (by omega)]; exact hv0
      have hw1 : (vs.set (hashN n + 2) v4)[1]? = some (.slice a1 F.length c1) := by rw [List.getElem?_set_ne (by omega)]; exact hv1
      have hwl : (vs.set (hashN n + 2) v4).length = 258 := by rw [List.length_set]; exact hvl
      generalize vs.set (hashN n + 2) v4 = ws at *
      have hk5 : Blk H5 b 156 ws := st5.fblk 0 rfl
      have hself5 : ∀ (j : Nat) (v : Value), ws[j]? = some v → ¬ slB v b := (st5.at_ 0 rfl).2.2.2
      have q5 := st5.blk 1 rfl
      have d01 := st5.apart (i := 0) (j := 1) (by decide) rfl rfl
      (conv => whnf); refine VDraw.heldZ (fun k => k < H5.size ∧ ¬ slB (.slice a0 F.length c0) k) [10] (sq [0,1,2,3,4,5] (.f 6 (.f 7 (sq [8,9] (.f 10 .e))))) rfl (by kernel_rfl) ?_
      (conv => whnf); refine fa fl156_0 ?_
      (conv => whnf); refine ld1 (v := .slice a0 F.length c0) ct153 (by rw [hk5.cell]; exact hw0) ⟨hk5.lt, hself5 _ _ hw0⟩ ?_
      (conv => whnf); refine ldN (cs := ndL n) ag159 (q5.cells fun j v hv => by rw [Nat.zero_add]; exact hv) ⟨q5.lt, fun hf => d01 _ (.inr ⟨0, _, hw0, hf⟩) rfl⟩ ?_
      (conv => whnf); refine vbuild1 sl153 (ndL n) rfl rfl (by decide) (by decide) ?_
      intro q6 H6 hq6 hs6 hb6 ha6
      have st6 := st5.skip hq6 ha6
      refine ⟨ha6.mono fun k hk => by have := hk.1; omega, ?_⟩
      (conv => whnf); refine appF (ys := [n]) (ds := ndL n) st6 0 sl153 rfl hw0 (xs := F.map (·.1)) (T := tNd) (e := 159) (by rw [updS_ne (by omega)]; rfl) (hb6.cells fun j v hv => by rw [Nat.zero_add]; exact hv) (nodesR _ _) rfl (by simp [ndL, Value.oneCell']) (by simp only [List.length_map, List.length_singleton, maxLen]; omega) (by simp only [List.length_map, List.length_singleton]; omega) fun v7 H7 st7 ha7 h17 => ?_
      refine ⟨(ha6.mono fun k hk => by have := hk.1; omega).trans (ha7.mono fun k hk => ⟨by have := hk.1; omega, hk.2⟩), ?_⟩
      (conv => whnf); refine fa fl156_0 ?_
      (conv => whnf); refine stF (o := 0 + 0) (j := 0) st7 0 ct153 rfl rfl h17 fun H8 st8 => ?_
      have hx1 : (ws.set 0 v7)[1]? = some (.slice a1 F.length c1) := by rw [List.getElem?_set_ne (by omega)]; exact hw1
      have hxl : (ws.set 0 v7).length = 258 := by rw [List.length_set]; exact hwl
      generalize ws.set 0 v7 = xs8 at *
      have hk8 : Blk H8 b 156 xs8 := st8.fblk 0 rfl
      (conv => whnf); refine fa fl156_1 ?_
      (conv => whnf); refine ld1 (v := .slice a1 F.length c1) ct57 (by rw [hk8.cell]; exact hx1) trivial ?_
      (conv => whnf); refine vbuild1 sl57 [.string (bA w)] rfl rfl (by decide) (by decide) ?_
      intro q9 H9 hq9 hs9 hb9 ha9
      have st9 := st8.skip hq9 ha9
      (conv => whnf); refine appF (ys := [w]) (ds := [.string (bA w)]) st9 0 sl57 rfl hx1 (xs := F.map (·.2)) (T := tW) (e := 9) (by rw [updS_ne (by omega), updS_ne (by omega)]; rfl) (hb9.cells fun j v hv => by rw [Nat.zero_add]; exact hv) (Ty.reps_one rfl) rfl (by simp [Value.oneCell']) (by simp only [List.length_map, List.length_singleton, maxLen]; omega) (by simp only [List.length_map, List.length_singleton]; omega) fun v10 H10 st10 ha10 h110 => ?_
      (conv => whnf); refine fa fl156_1 ?_
      (conv => whnf); refine stF (o := 0 + 1) (j := 1) st10 0 ct57 rfl rfl h110 fun H11 st11 => ?_
      (conv => whnf)
      have hput : Put F n w (F ++ [(n, w)]) true := .inr ⟨hnew, rfl, rfl⟩
      refine ⟨xs8.set 1 v10, F ++ [(n, w)], true, rfl, ?_, ⟨by rw [List.length_set]; exact hxl, ?_⟩, hput⟩
      · have := st11.pick [0] (by decide)
        unfold pRow
        rw [← row_add]
        exact this
      · rw [hput.fst, if_pos rfl]
        refine List.nodup_append.2 ⟨hnd, by simp, fun x hx y hy => ?_⟩
        rw [List.mem_singleton] at hy
        subst hy
        obtain ⟨z, hz, rfl⟩ := List.mem_map.1 hx
        exact hnew z hz
end Go.Proofs.Ytkgmhkcncemmkaa
