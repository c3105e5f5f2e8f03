/- Parts of the proof: PMin8, PCan7, PSame7, PCan8, PCan9, PMet1, PBfsG, PAut09, PSpk, PMet2, PTab1, PDec, PMin9, PMin10, PMin11, PCan10, POdd7, PNews, PCel3, PCan11, PTab2, PAut07, PMl1, PPow5, PLaid5, PPow7 -/
import Derived.Test.YthomdogheamfpaaDoorKM5
import Derived.Test.YthomdogheamfpaaDoorKM3
import Derived.Test.YthomdogheamfpaaDoorKM4
import Derived.Test.YthomdogheamfpaaDoorRows
import Derived.Test.YthomdogheamfpaaDoorKM2
import Derived.Lib.LaidTab
import Derived.OpenShut
import Derived.ChangeSame
import Derived.Deep.DeepHandedRow
/- louperef07.Canon: the walk. -/
set_option linter.unusedVariables false
set_option linter.unusedSimpArgs false
set_option maxRecDepth 100000
namespace Go.VC
/-- An own slice, read where another piece may change. -/
theorem StB.viewA {α : Type} {T : Ty α} {e : TypeId} {a : Option Addr} {n cap : Nat} {xs : List α} {B : Nat → Prop} {H0 H : Heap} {ps : List Pc} {q : Pc} (st : StB B H0 H ps) (i j : Nat) (hp : ps[i]? = some (pS T e a n cap xs)) (hq : ps[j]? = some q) (hij : i ≠ j) : SlD T (fun k => k < H.size ∧ ¬ q.foot k) H a cap xs := by
  have d := st.apart2 hp hq hij
  obtain ⟨a', cap', e1, h, -⟩ := (st.at_ i hp).1.view (S' := fun k => k < H.size ∧ ¬ q.foot k) (fun b hb => ⟨(st.in_ i hp (.inl hb)).2, fun h => d b (.inl hb) h⟩) (fun b hb => hb.elim)
  injection e1 with e1 e2 e3
  subst e1; subst e3; exact h
end Go.VC
namespace Go.Proofs.YthomdogheamfpaaDoor
open Go.VC
attribute [local irreducible] mRun gRun atRun
def numT (K : List Nat) (m : Nat) : List Int := (List.range m).map fun k => if k ∈ K then ((ixF K k + 1 : Nat) : Int) else 0
theorem numT_len (K : List Nat) (m : Nat) : (numT K m).length = m := by simp [numT]
theorem numT_get {K : List Nat} {m k : Nat} (h : k < m) : (numT K m)[k]? = some (if k ∈ K then ((ixF K k + 1 : Nat) : Int) else 0) := by
  unfold numT
  rw [List.getElem?_map, List.getElem?_range h]
  rfl
theorem numT_nil (m : Nat) : numT [] m = List.replicate m 0 := by
  unfold numT
  simp [List.map_const']
theorem numT_set {K : List Nat} {m k : Nat} (h : k < m) (hk : k ∉ K) : (numT K m).set k ((K.length + 1 : Nat) : Int) = numT (K ++ [k]) m := by
  apply List.ext_getElem?
  intro j
  by_cases hj : j < m
  · rw [numT_get hj, List.getElem?_set, numT_len]
    by_cases hjk : k = j
    · subst hjk
      rw [if_pos rfl, if_pos hj, if_pos (by simp), ixF_new hk]
    · rw [if_neg hjk, numT_get hj]
      by_cases h1 : j ∈ K
      · rw [if_pos h1, if_pos (List.mem_append_left _ h1), ixF_pre (List.prefix_append _ _) h1]
      · rw [if_neg h1, if_neg fun h => by
          rcases List.mem_append.1 h with h | h
          · exact h1 h
          · rw [List.mem_singleton] at h; exact hjk h.symm]
  · rw [List.getElem?_eq_none (by rw [List.length_set, numT_len]; omega), List.getElem?_eq_none (by rw [numT_len]; omega)]
theorem RepD.same {D : DM} {M : PA} {by_ : List Nat} (h : RepD D by_) (hok : D.Ok) (hD : DocM D M) {q b c g : Nat} (hq : q < M.n) (hb : b < 256) (hc : D.cell[b]? = some (c : Int)) (hg : by_[c]? = some g) : M.st q g = M.st q b := by
  obtain ⟨row, k1, k2⟩ := h.get hok hD hq hg
  have e := hD.st q b hq hb
  rw [stepD_at k1 hc k2] at e
  omega
/-- Rows of classes. -/
def rowsC (M : PA) (by_ : List Nat) (P : Nat → Nat) (C X : List Nat) : List (List Int) := X.map fun x => by_.map fun b => ((ixF (C.map P) (P (M.st x b)) : Nat) : Int)
theorem fill_dfa {place : Nat → Option (Nat × Nat)} {cell : List Int} {v : Value} (hl : cell.length = 256) (p0 : place 0 = some (0, 256)) (p1 : place 1 = some (256, 1)) (hv : v.cells = #[v]) :
    Instr.fill place zD.toArray [(0, .agg (cell.map (Value.int .i64)).toArray), (1, v)] = some (dfaL cell v (.slice none 0 0) (.slice none 0 0)).toArray := by
  have hz : zD.length = 259 := by simp [zD, dfaL]
  have ec : (Value.agg (cell.map (Value.int .i64)).toArray).cells = (cell.map (Value.int .i64)).toArray := rfl
  have e0 : splice zD 0 (cell.map (Value.int .i64)) = dfaL cell (.slice none 0 0) (.slice none 0 0) (.slice none 0 0) := by
    unfold splice zD dfaL
    rw [List.take_zero, List.nil_append, List.length_map, hl, List.drop_left' (by simp)]
  have e1 : splice (dfaL cell (.slice none 0 0) (.slice none 0 0) (.slice none 0 0)) 256 [v] = dfaL cell v (.slice none 0 0) (.slice none 0 0) := by
    rw [splice_one (by rw [dfaL_len hl]; decide), dfaL_put256 hl]
  rw [fill_cons p0 (by rw [ec]; simpa using hl) (by simp [zD, dfaL]), ec, List.toList_toArray, e0, fill_cons p1 (by rw [hv]; rfl) (by rw [List.size_toArray, dfaL_len hl]; decide), hv, List.toList_toArray, e1]
  rfl
def DocC (D : DM) (M : PA) (by_ : List Nat) (D' : DM) : Prop := ∃ C, (∀ P, IsCls M (allS M) P → detW 65537 (cst M P) (P 0) = some (C.map P)) ∧ LeadsC M C (stepD D') (finD D') ∧ D'.next.length = C.length ∧ D'.Ok ∧ RepD D' by_
theorem sub_cls {M : PA} {L : List Nat} {P : Nat → Nat} (hL : Closed M L) (h : IsCls M (allS M) P) : IsCls M L P := fun p hp q hq => h p (List.mem_range.2 (hL.lt p hp)) q (List.mem_range.2 (hL.lt q hq))
theorem docC_of {D D' : DM} {M : PA} {by_ L C : List Nat} {P : Nat → Nat} (hM : M.Ok) (hok : D.Ok) (hD : DocM D M) (hR : RepD D by_) (hW : IsWalk M L) (hP : IsCls M L P) (hC : C = dr P L)
    (hD' : D' = ⟨D.cell, D.reps, rowsC M by_ P C C, C.map M.fi⟩) : DocC D M by_ D' := by
  obtain ⟨hLn, hL, hL0⟩ := walk_all hM hW
  obtain ⟨rows, hrun⟩ := hW
  have hCL := dr_sub P L
  rw [← hC] at hCL
  have hCd : C.map P = dd (L.map P) := by rw [hC, dr_dd]
  have hCn : (C.map P).Nodup := by rw [hCd]; exact dd_nd _
  have hCl := nodup_lt (nodup_map hCn) fun q hq => hL.lt q (hCL q hq)
  have hMn := hD.n
  have hn2 := hok.n2
  have hin : ∀ x ∈ C, ∀ b, b < 256 → P (M.st x b) ∈ C.map P := fun x hx b hb => by
    rw [hCd, dd_mem]
    exact List.mem_map.2 ⟨_, hL.st x (hCL x hx) b hb, rfl⟩
  have hC1 : 1 ≤ C.length := by
    have : P 0 ∈ C.map P := by rw [hCd, dd_mem]; exact List.mem_map.2 ⟨0, List.mem_of_getElem? hL0, rfl⟩
    have := List.length_pos_of_mem this
    rw [List.length_map] at this
    exact this
  have hrl : (rowsC M by_ P C C).length = C.length := by unfold rowsC; rw [List.length_map]
  have hrow : ∀ {i x : Nat}, C[i]? = some x → (rowsC M by_ P C C)[i]? = some (by_.map fun b => ((ixF (C.map P) (P (M.st x b)) : Nat) : Int)) := fun h => by
    unfold rowsC
    rw [List.getElem?_map, h]
    rfl
  subst hD'
  refine ⟨C, fun P' hP' => ?_, ⟨fun x hx => hL.lt x (hCL x hx), fun i b x hx hb => ?_, fun i x hx => ?_⟩, hrl, ⟨by simp only; omega, by simp only; omega, by simp only [List.length_map]; exact hrl.symm, hok.cell, fun r hr => ?_⟩, ⟨hR.reps, fun r hr => ?_, hR.le, hR.lt, hR.at_, hR.cov⟩⟩
  · rw [rows_done hM hP' (by decide) hrun rfl, hC, dr_ext L fun p hp q hq => (hP p hp q hq).trans (sub_cls hL hP' p hp q hq).symm, dr_dd]
  · obtain ⟨c, g, h1, h2, h3⟩ := hR.cov b hb
    have hxC := List.mem_of_getElem? hx
    have hxn := hL.lt x (hCL x hxC)
    have hg8 := hR.lt g (List.mem_of_getElem? h2)
    have hsame := hR.same hok hD hxn hb h1 h2
    have hm := hin x hxC g hg8
    have hget := ixF_get hm
    have hlt := ixF_lt hm
    rw [List.length_map] at hlt
    obtain ⟨y, hy⟩ := get_some (l := C) (k := ixF (C.map P) (P (M.st x g))) hlt
    rw [List.getElem?_map, hy] at hget
    have hPy : P y = P (M.st x g) := by simpa using hget
    refine ⟨ixF (C.map P) (P (M.st x g)), y, ?_, hy, ?_⟩
    · exact stepD_at (hrow hx) h1 (by rw [List.getElem?_map, h2]; rfl)
    · have := (hP y (hCL y (List.mem_of_getElem? hy)) _ (hL.st x (hCL x hxC) g hg8)).1 hPy
      rw [hsame] at this
      exact this
  · simp [finD, hx]
  · simp only at hr ⊢
    obtain ⟨x, hx, rfl⟩ := List.mem_map.1 hr
    have hble := hR.le
    refine ⟨by rw [List.length_map]; exact hble, fun c hc => ?_, fun t ht => ?_⟩
    · have h0 := hok.n1
      obtain ⟨row, hrow0⟩ := get_some (l := D.next) (k := 0) (by omega)
      have := (hok.rows row (List.mem_of_getElem? hrow0)).2.1 c hc
      rw [hR.rl row (List.mem_of_getElem? hrow0)] at this
      rw [List.length_map]; exact this
    · obtain ⟨b, hb, rfl⟩ := List.mem_map.1 ht
      have := ixF_lt (hin x hx b (hR.lt b hb))
      rw [List.length_map] at this
      rw [hrl]
      omega
  · obtain ⟨x, -, rfl⟩ := List.mem_map.1 hr
    rw [List.length_map]
set_option maxHeartbeats 32000000 in
theorem canon7_c {S : Nat → Prop} {H : Heap} {v : Value} {D : DM} {M : PA} {by_ : List Nat} (hS : ∀ k, S k → k < H.size) (hv : DfaV S H v D) (hok : D.Ok) (hD : DocM D M) (hM : M.Ok) (hR : RepD D by_) :
    FnOk Tryd.prog 17 #[v] H fun r H' => Agr (Old H) H H' ∧ ∃ D', DfaV (Old H') H' r D' ∧ DocC D M by_ D' := by
  have hn1 := hok.n1
  have hn2 := hok.n2
  have hMn := hD.n
  have hfl := hok.fl
  have hble := hR.le
  obtain ⟨n, hn⟩ : ∃ n, n = D.next.length := ⟨_, rfl⟩
  rw [← hn] at hn1 hn2 hMn hfl
  have hv0 := hv
  obtain ⟨hl, ra, rc, na, nc, fa', fc, e, h1, h2, h3⟩ := hv0
  subst e
  have hby : D.reps.length = by_.length := by rw [hR.reps]; exact List.length_map _
  refine FnOk.of_vc Tryd.func17 rfl (Tryd.call17 _) ?_
  (conv => whnf); refine vbox (dfaL D.cell (.slice ra D.reps.length rc) (.slice na D.next.length nc) (.slice fa' D.final.length fc)) rfl ?_
  intro p H1 hp hs1 hb1 ha1
  have st1 := (St.nil H).box hp hs1 hb1 ha1
  (conv => whnf); refine valloc _ zD rfl (by kernel_rfl) ?_
  intro p2 H2 hp2 hs2 hb2 ha2
  have st2 := st1.box hp2 hs2 hb2 ha2
  obtain ⟨dl, hdl⟩ : ∃ dl, dl = dfaL D.cell (.slice ra D.reps.length rc) (.slice na D.next.length nc) (.slice fa' D.final.length fc) := ⟨_, rfl⟩
  have hdll : dl.length = 259 := by rw [hdl]; exact dfaL_len hl
  have hd6 : dl[256]? = some (.slice ra by_.length rc) := by rw [hdl, ← hby]; exact dfaL_256 hl
  have hd7 : dl[257]? = some (.slice na n nc) := by rw [hdl, hn]; exact dfaL_257 hl
  have hd8 : dl[258]? = some (.slice fa' D.final.length fc) := by rw [hdl]; exact dfaL_258 hl
  have hdc : ∀ (j : Nat) (u : Value), (D.cell.map (Value.int .i64))[j]? = some u → dl[0 + j]? = some u := fun j u hu => by
    rw [hdl, Nat.zero_add]
    unfold dfaL
    rw [List.getElem?_append_left (List.getElem?_eq_some_iff.1 hu).1]
    exact hu
  have hdv : Value.agg dl.toArray = .agg (dfaL D.cell (.slice ra D.reps.length rc) (.slice na D.next.length nc) (.slice fa' D.final.length fc)).toArray := by rw [hdl]
  rw [← hdl] at st2
  have hVD : ∀ {G : Heap}, Agr (Old H) H G → DfaV (Old G) G (.agg dl.toArray) D := fun h => by rw [hdv]; exact (hv.frame (h.mono hS)).mono fun k hk => old_lt h (hS k hk)
  have hnx : ∀ {G : Heap}, Agr (Old H) H G → SlD tRows S G na nc D.next := fun h => h2.frame (h.mono hS)
  have hfn : ∀ {G : Heap}, Agr (Old H) H G → SlD tBool S G fa' fc D.final := fun h => h3.frame (h.mono hS)
  (conv => whnf); refine ldN (cs := dl) (by rw [hdll]; exact ag35) ((st2.blk 0 rfl).cells fun j v hv => by rw [Nat.zero_add]; exact hv) trivial ?_
  (conv => whnf); refine VCall.mk (reached_c (S := Old H2) (fun k hk => hk) (hVD st2.old) hok hD hM) ?_
  rintro _ H3 ⟨ha3, L, la, lc, hW, rfl, hw3⟩
  obtain ⟨la', lc', e3, st3⟩ := st2.got ha3 hw3
  injection e3 with e31 e32 e33
  subst e31; subst e33
  have hLI : (intsN L).length = L.length := by unfold intsN; rw [List.length_map]
  rw [hLI] at st3
  obtain ⟨hLn, hL, hL0⟩ := walk_all hM hW
  have hLlt : ∀ q ∈ L, q < n := fun q hq => by have := hL.lt q hq; rw [hMn] at this; exact this
  have hLlen := nodup_lt hLn hLlt
  have hgL : ∀ {i q : Nat}, L[i]? = some q → (intsN L)[i]? = some (q : Int) := fun h => by unfold intsN; rw [List.getElem?_map, h]; rfl
  (conv => whnf); refine ldN (cs := dl) (by rw [hdll]; exact ag35) ((st3.blk 0 rfl).cells fun j v hv => by rw [Nat.zero_add]; exact hv) trivial ?_
  (conv => whnf); refine VCall.mk (parts_c (S := Old H3) (fun k hk => hk) (hVD st3.old) hok hD hM hR hL hLn (List.getElem?_eq_some_iff.1 hL0).1 (st3.view 2 rfl)) ?_
  rintro _ H4 ⟨ha4, P, pa, pc, hP, hPlt, rfl, hw4⟩
  rw [← hn] at hw4
  rw [← hn]
  obtain ⟨pa', pc', e4, st4⟩ := st3.got ha4 hw4
  rw [tblS_len] at e4 st4
  injection e4 with e41 e42 e43
  subst e41; subst e43
  have hgP : ∀ q ∈ L, (tblS P L n)[q]? = some (P q : Int) := fun q hq => by rw [tblS_get (hLlt q hq), if_pos hq]
  (conv => whnf); refine VC.fa fl35_0 ?_
  (conv => whnf); refine ldN (cs := D.cell.map (Value.int .i64)) (by rw [List.length_map, hl]; exact ag32) ((st4.blk 0 rfl).cells fun j u hu => by simpa using hdc j u hu) trivial ?_
  (conv => whnf); refine VC.fa fl35_1 ?_
  (conv => whnf); refine ld1 (v := .slice ra by_.length rc) ct33 (by rw [(st4.blk 0 rfl).cell, Nat.zero_add]; exact hd6) trivial ?_
  (conv => whnf); refine vbuildS Tryd.underlying35 rfl (.agg zD.toArray) (by kernel_rfl) (dfaL D.cell (.slice ra by_.length rc) (.slice none 0 0) (.slice none 0 0)) (fill_dfa hl (by kernel_rfl) (by kernel_rfl) rfl) ?_
  (conv => whnf); refine valloc _ zD rfl (by kernel_rfl) ?_
  intro p5 H5 hp5 hs5 hb5 ha5
  have st5 := st4.box hp5 hs5 hb5 ha5
  have hl259 : ∀ nv fv, (dfaL D.cell (.slice ra by_.length rc) nv fv).length = 259 := fun nv fv => dfaL_len hl
  (conv => whnf); refine stNB (cs := dfaL D.cell (.slice ra by_.length rc) (.slice none 0 0) (.slice none 0 0)) st5 4 (by rw [hl259]; rfl) rfl (by rw [hl259]; decide) (dfaL_ones rfl rfl rfl) fun H6 st6 => ?_
  rw [splice_whole (by rw [hl259]; rfl)] at st6
  (conv => whnf); refine VC.fa fl35_2 ?_
  (conv => whnf); refine ld1 (v := .slice na n nc) ct23 (by rw [(st6.blk 0 rfl).cell, Nat.zero_add]; exact hd7) trivial ?_
  (conv => whnf); rw [w64 (x := (n : Int) + 1) (by omega) (by omega), show (n : Int) + 1 = ((n + 1 : Nat) : Int) by omega]
  (conv => whnf); refine vmake1 sl33 rfl (by omega) (by omega) (by omega) (by omega) ?_
  intro nb H7 hnb hs7 hb7 ha7
  rw [Int.toNat_natCast] at hb7 ⊢
  have st7 := (st6.new (T := tIk) (n := n + 1) (xs := List.replicate (n + 1) (0 : Int)) hnb hs7 (by simpa using hb7) ha7 (zeros_reps (n + 1)) (by simp) (by unfold maxLen; omega)).nils tIk 3
  rw [← numT_nil (n + 1)] at st7
  (conv => whnf)
  refine VLoop.mk [7, 8] (fun x : Nat × List Nat × Option Addr × Nat => match x with | (i, C, ca, cc) => [.slice ca C.length cc, .int .i64 (i : Int)])
    (fun x H8 => match x with | (i, C, ca, cc) => i ≤ L.length ∧ C = dr P (L.take i) ∧ St H H8 [pB 35 p dl, pB 35 p2 zD, pS tIk 3 la L.length lc (intsN L), pS tIk 3 pa n pc (tblS P L n), pB 35 p5 (dfaL D.cell (.slice ra by_.length rc) (.slice none 0 0) (.slice none 0 0)), pS tIk 3 (some ⟨nb, 0, none⟩) (n + 1) (n + 1) (numT (C.map P) (n + 1)), pS tIk 3 ca C.length cc (intsN C)]) (fun x _ => L.length - x.1) ?_ ?_
  · (conv => whnf)
    exact ⟨(0, [], none, 0), rfl, Nat.zero_le _, rfl, st7⟩
  · clear st7 st6 st5 st4 st3 st2 st1 hb5 ha5 hb7 ha7
    rintro ⟨i, C, ca, cc⟩ H8 junk8 ⟨hi, hC, st8⟩
    have hCL : ∀ q ∈ C, q ∈ L := fun q hq => by rw [hC] at hq; exact List.mem_of_mem_take (dr_sub P _ q hq)
    have hCd : (C.map P).Nodup := by rw [hC, dr_dd]; exact dd_nd _
    have hCl := nodup_lt (nodup_map hCd) fun q hq => hLlt q (hCL q hq)
    have hCI : (intsN C).length = C.length := by unfold intsN; rw [List.length_map]
    have hgC : ∀ {k y : Nat}, C[k]? = some y → (intsN C)[k]? = some (y : Int) := fun h => by unfold intsN; rw [List.getElem?_map, h]; rfl
    (conv => whnf); refine VIte.mk (fun hz => ?_) (fun hz => ?_) <;> simp only [decide_eq_true_eq, decide_eq_false_iff_not] at hz
    · obtain ⟨q, hq⟩ := get_some (l := L) (k := i) (by omega)
      have hqL := List.mem_of_getElem? hq
      have htk := take_succ_snoc hq
      have hPn := hPlt q hqL
      have hsn := dr_snoc P (L.take i) q
      rw [← htk, ← hC] at hsn
      (conv => whnf); refine VSeq.run ?_
      (conv => whnf); refine ixO (j := i) sl33 st8 2 rfl (hgL hq) rfl ?_
      rintro b9 o9 c9 hS9 hc9 ⟨rfl, -⟩
      (conv => whnf); refine ld1 ct3 hc9.one trivial ?_
      (conv => whnf); refine ixO (j := q) sl33 st8 3 rfl (hgP q hqL) rfl ?_
      rintro b10 o10 c10 hS10 hc10 ⟨rfl, -⟩
      (conv => whnf); refine ld1 ct3 hc10.one trivial ?_
      (conv => whnf); refine ixO (j := P q) sl33 st8 5 rfl (numT_get (by omega)) rfl ?_
      rintro b11 o11 c11 hS11 hc11 ⟨rfl, -⟩
      (conv => whnf); refine ld1 ct3 hc11.one trivial ?_
      by_cases hm : P q ∈ C.map P
      · rw [if_pos hm] at hsn ⊢
        (conv => whnf); rw [w64 (x := (i : Int) + 1) (by omega) (by omega)]
        exact ⟨rfl, (i + 1, C, ca, cc), by simp, ⟨by omega, hsn.symm, st8⟩, by simp only; omega⟩
      · rw [if_neg hm] at hsn ⊢
        have hCl1 : (C ++ [q]).length ≤ n := by
          have hd2 : ((C ++ [q]).map P).Nodup := by rw [hsn.symm, dr_dd]; exact dd_nd _
          exact nodup_lt (nodup_map hd2) fun z hz => by
            rcases List.mem_append.1 hz with hz | hz
            · exact hLlt z (hCL z hz)
            · rw [List.mem_singleton] at hz; subst hz; exact hLlt _ hqL
        rw [List.length_append, List.length_singleton] at hCl1
        (conv => whnf); refine ixO (j := i) sl33 st8 2 rfl (hgL hq) rfl ?_
        rintro b12 o12 c12 hS12 hc12 ⟨rfl, -⟩
        (conv => whnf); refine ld1 ct3 hc12.one trivial ?_
        (conv => whnf); refine vbuild1 sl33 [.int .i64 (q : Int)] rfl rfl (by decide) (by decide) ?_
        intro q13 H13 hq13 hs13 hb13 ha13
        have hqn := hLlt q hqL
        (conv => whnf); refine app1 (x := (q : Int)) (st8.skip hq13 ha13) 6 sl33 rfl hb13 ⟨rfl, kint ⟨by omega, by omega⟩⟩ rfl (by rw [hCI]; omega) (by decide) fun a14 c14 H14 st14 _ => ?_
        have e1 : (intsN C).length + 1 = (C ++ [q]).length := by rw [hCI]; simp
        have e2 : intsN C ++ [(q : Int)] = intsN (C ++ [q]) := by unfold intsN; simp
        rw [e1, e2] at st14
        rw [e1]
        (conv => whnf); refine ixO (j := i) sl33 st14 2 rfl (hgL hq) rfl ?_
        rintro b15 o15 c15 hS15 hc15 ⟨rfl, -⟩
        (conv => whnf); refine ld1 ct3 hc15.one trivial ?_
        (conv => whnf); refine ixO (j := q) sl33 st14 3 rfl (hgP q hqL) rfl ?_
        rintro b16 o16 c16 hS16 hc16 ⟨rfl, -⟩
        (conv => whnf); refine ld1 ct3 hc16.one trivial ?_
        (conv => whnf); refine ix sl33 (by omega) (by omega) ?_
        (conv => whnf); refine st1O (j := P q) (x := (((C ++ [q]).length : Nat) : Int)) st14 5 ct3 rfl rfl (by omega) (by rw [numT_len]; omega) rfl (fun H' _ => ⟨rfl, by rw [List.length_append, List.length_singleton]; exact inI64 (by omega)⟩) fun H17 st17 => ?_
        have e3 : (numT (C.map P) (n + 1)).set (P q) (((C ++ [q]).length : Nat) : Int) = numT ((C ++ [q]).map P) (n + 1) := by
          have := numT_set (K := C.map P) (m := n + 1) (k := P q) (by omega) hm
          rw [List.length_map] at this
          rw [List.length_append, List.length_singleton, this, List.map_append]
          rfl
        rw [e3] at st17
        (conv => whnf); rw [w64 (x := (i : Int) + 1) (by omega) (by omega)]
        exact ⟨rfl, (i + 1, C ++ [q], a14, c14), by simp, ⟨by omega, hsn.symm, st17⟩, by simp only; omega⟩
    · obtain rfl : i = L.length := by omega
      rw [List.take_length] at hC
      have hinC : ∀ x ∈ C, ∀ b, b < 256 → P (M.st x b) ∈ C.map P := fun x hx b hb => by
        rw [hC, dr_dd, dd_mem]
        exact List.mem_map.2 ⟨_, hL.st x (hCL x hx) b hb, rfl⟩
      have st9 : St H H8 [pB 35 p dl, pB 35 p2 zD, pS tIk 3 la L.length lc (intsN L), pS tIk 3 pa n pc (tblS P L n), pB 35 p5 (dfaL D.cell (.slice ra by_.length rc) (.slice none 0 0) (.slice none 0 0)), pS tIk 3 (some ⟨nb, 0, none⟩) (n + 1) (n + 1) (numT (C.map P) (n + 1)), pS tIk 3 ca C.length cc (intsN C), pN (tSl tIk) none_ 33 none 0 0 [], pS tBool 4 none 0 0 []] := (st8.nils (tSl tIk) 33).nils tBool 4
      (conv => whnf)
      refine VLoop.mk [9] (fun i : Nat => [.int .i64 (i : Int)]) (fun i H9 => i ≤ C.length ∧ ∃ Sn xa xc ya yc, St H H9 [pB 35 p dl, pB 35 p2 zD, pS tIk 3 la L.length lc (intsN L), pS tIk 3 pa n pc (tblS P L n), pB 35 p5 (dfaL D.cell (.slice ra by_.length rc) (.slice xa i xc) (.slice ya i yc)), pS tIk 3 (some ⟨nb, 0, none⟩) (n + 1) (n + 1) (numT (C.map P) (n + 1)), pS tIk 3 ca C.length cc (intsN C), pN (tSl tIk) Sn 33 xa i xc (rowsC M by_ P C (C.take i)), pS tBool 4 ya i yc ((C.take i).map M.fi)]) (fun i _ => C.length - i) ?_ ?_
      · (conv => whnf)
        exact ⟨0, rfl, Nat.zero_le _, none_, none, 0, none, 0, st9⟩
      · clear st9 st8
        rintro i H9 junk9 ⟨hi, Sn, xa, xc, ya, yc, st9⟩
        (conv => whnf); refine VIte.mk (fun hz2 => ?_) (fun hz2 => ?_) <;> simp only [decide_eq_true_eq, decide_eq_false_iff_not] at hz2
        · obtain ⟨x, hx⟩ := get_some (l := C) (k := i) (by omega)
          have hxC := List.mem_of_getElem? hx
          have hxL := hCL x hxC
          have hxn := hLlt x hxL
          have st10 := st9.nils tIk 3
          (conv => whnf)
          refine VLoop.mk [10, 11] (fun y : Nat × Option Addr × Nat => match y with | (c, ra2, rc2) => [.slice ra2 c rc2, .int .i64 (c : Int)])
            (fun y H10 => match y with | (c, ra2, rc2) => c ≤ by_.length ∧ St H H10 [pB 35 p dl, pB 35 p2 zD, pS tIk 3 la L.length lc (intsN L), pS tIk 3 pa n pc (tblS P L n), pB 35 p5 (dfaL D.cell (.slice ra by_.length rc) (.slice xa i xc) (.slice ya i yc)), pS tIk 3 (some ⟨nb, 0, none⟩) (n + 1) (n + 1) (numT (C.map P) (n + 1)), pS tIk 3 ca C.length cc (intsN C), pN (tSl tIk) Sn 33 xa i xc (rowsC M by_ P C (C.take i)), pS tBool 4 ya i yc ((C.take i).map M.fi), pS tIk 3 ra2 c rc2 ((by_.take c).map fun b => ((ixF (C.map P) (P (M.st x b)) : Nat) : Int))]) (fun y _ => by_.length - y.1) ?_ ?_
          · (conv => whnf)
            exact ⟨(0, none, 0), rfl, Nat.zero_le _, st10⟩
          · clear st10 st9
            rintro ⟨c, ra2, rc2⟩ H10 junk10 ⟨hc, st10⟩
            (conv => whnf); refine VC.fa fl35_1 ?_
            (conv => whnf); refine ld1 (v := .slice ra by_.length rc) ct33 (by rw [(st10.blk 0 rfl).cell, Nat.zero_add]; exact hd6) trivial ?_
            (conv => whnf); refine VIte.mk (fun hz3 => ?_) (fun hz3 => ?_) <;> simp only [decide_eq_true_eq, decide_eq_false_iff_not] at hz3
            · obtain ⟨b, hb⟩ := get_some (l := by_) (k := c) (by omega)
              have hb8 := hR.lt b (List.mem_of_getElem? hb)
              obtain ⟨rx, hrx1, hrx2⟩ := hR.get hok hD (q := x) (by omega) hb
              have hsx := hL.st x hxL b hb8
              have hm := hinC x hxC b hb8
              have hlt := ixF_lt hm
              rw [List.length_map] at hlt
              have hPn := hPlt _ hsx
              have hq9 := fun (k : Nat) (hk : Old H k) => (⟨st10.up hk, fun h => (st10.in_ 9 rfl h).1 hk⟩ : k < H10.size ∧ ¬ (pS tIk 3 ra2 c rc2 ((by_.take c).map fun b => ((ixF (C.map P) (P (M.st x b)) : Nat) : Int)) : Pc).foot k)
              have d0 := st10.apart2 (i := 0) (j := 9) rfl rfl (by decide)
              have hp0 : p < H10.size ∧ ¬ (pS tIk 3 ra2 c rc2 ((by_.take c).map fun b => ((ixF (C.map P) (P (M.st x b)) : Nat) : Int)) : Pc).foot p := ⟨(st10.in_ 0 rfl rfl).2, fun h => d0 p rfl h⟩
              (conv => whnf); refine VDraw.held (fun k => k < H10.size ∧ ¬ (pS tIk 3 ra2 c rc2 ((by_.take c).map fun b => ((ixF (C.map P) (P (M.st x b)) : Nat) : Int)) : Pc).foot k) 21 (sq [0,1,2,3,4,5,6,7,8,9,10,11,12,13,14,15,16,17,18] (.f 19 (.f 20 (.f 21 .e)))) rfl (by kernel_rfl) ?_
              (conv => whnf); refine VC.fa fl35_2 ?_
              (conv => whnf); refine ld1 (v := .slice na n nc) ct23 (by rw [(st10.blk 0 rfl).cell, Nat.zero_add]; exact hd7) hp0 ?_
              (conv => whnf); refine ixrn (i := i) sl33 (st10.viewA 6 9 rfl rfl (by decide)) hCI.symm (hgC hx) rfl ?_
              rintro b11 o11 c11 hS11 hc11 ⟨rfl, -⟩
              (conv => whnf); refine ld1 ct3 hc11.one hS11 ?_
              (conv => whnf); refine ixrn (i := x) sl23 ((hnx st10.old).mono fun k hk => hq9 k (hS k hk)) hn hrx1 rfl ?_
              rintro b12 o12 c12 hS12 hc12 ⟨ra3, rc3, rfl, hx3⟩
              (conv => whnf); refine ld1 ct33 hc12.one hS12 ?_
              (conv => whnf); refine ixr (i := c) sl33 hx3 hrx2 rfl ?_
              rintro b13 o13 c13 hS13 hc13 ⟨rfl, -⟩
              (conv => whnf); refine ld1 ct3 hc13.one hS13 ?_
              (conv => whnf); refine ixrn (i := M.st x b) sl33 (st10.viewA 3 9 rfl rfl (by decide)) (tblS_len _ _ _).symm (hgP _ hsx) rfl ?_
              rintro b14 o14 c14 hS14 hc14 ⟨rfl, -⟩
              (conv => whnf); refine ld1 ct3 hc14.one hS14 ?_
              (conv => whnf); refine ixrn (i := P (M.st x b)) sl33 (st10.viewA 5 9 rfl rfl (by decide)) (numT_len _ _).symm (numT_get (by omega)) rfl ?_
              rintro b15 o15 c15 hS15 hc15 ⟨rfl, -⟩
              (conv => whnf); refine ld1 ct3 hc15.one hS15 ?_
              rw [if_pos hm]
              generalize ht : ixF (C.map P) (P (M.st x b)) = t at *
              (conv => whnf); rw [w64 (x := ((t + 1 : Nat) : Int) - 1) (by omega) (by omega), show ((t + 1 : Nat) : Int) - 1 = (t : Int) by omega]
              (conv => whnf); refine vbuild1 sl33 [.int .i64 (t : Int)] rfl rfl (by decide) (by decide) ?_
              intro q16 H16 hq16 hs16 hb16 ha16
              have st16 := st10.skip hq16 ha16
              refine ⟨ha16.mono fun k hk => by have := hk.1; omega, ?_⟩
              have hrl : ((by_.take c).map fun b => ((ixF (C.map P) (P (M.st x b)) : Nat) : Int)).length = c := by rw [List.length_map, List.length_take]; omega
              (conv => whnf); refine app1 (x := (t : Int)) st16 9 sl33 rfl hb16 ⟨rfl, kint ⟨by omega, by omega⟩⟩ rfl (by rw [hrl]; omega) (by decide) fun a17 c17 H17 st17 ha17 => ?_
              refine ⟨(ha16.mono fun k hk => by have := hk.1; omega).trans (ha17.mono fun k hk => ⟨by have := hk.1; omega, fun h => hk.2 (.inl h)⟩), ?_⟩
              have e2 : ((by_.take c).map fun b => ((ixF (C.map P) (P (M.st x b)) : Nat) : Int)) ++ [(t : Int)] = (by_.take (c + 1)).map fun b => ((ixF (C.map P) (P (M.st x b)) : Nat) : Int) := by
                rw [take_succ_snoc hb, List.map_append, ← ht]
                rfl
              rw [e2, hrl] at st17
              rw [hrl]
              (conv => whnf); rw [w64 (x := (c : Int) + 1) (by omega) (by omega)]
              exact ⟨rfl, (c + 1, a17, c17), by simp, ⟨by omega, st17⟩, by simp only; omega⟩
            · obtain rfl : c = by_.length := by omega
              rw [List.take_length] at st10
              have hri : (by_.map fun b => ((ixF (C.map P) (P (M.st x b)) : Nat) : Int)).length = by_.length := List.length_map _
              have hrl2 : (rowsC M by_ P C (C.take i)).length = i := by unfold rowsC; rw [List.length_map, List.length_take]; omega
              have hel7 : ((C.take i).map M.fi).length = i := by rw [List.length_map, List.length_take]; omega
              obtain ⟨ra', rc', er, hrow7, -⟩ := (st10.at_ 9 rfl).1.view (S' := slB (.slice ra2 by_.length rc2)) (fun b hb => hb) (fun b hb => hb.elim)
              rw [hri] at er
              injection er with er1 er2 er3
              subst er1; subst er3
              have st11 := StB.absorb (st10.pick [7, 9, 0, 1, 2, 3, 4, 5, 6, 8] (by decide))
              (conv => whnf); refine VC.fa fl35_2 ?_
              (conv => whnf); refine ld1 (v := .slice xa i xc) ct23 (by rw [(st11.blk 5 rfl).cell, Nat.zero_add]; exact dfaL_257 hl) trivial ?_
              (conv => whnf); refine vbuild1 sl23 [.slice ra2 by_.length rc2] rfl rfl (by decide) (by decide) ?_
              intro q12 H12 hq12 hs12 hb12 ha12
              have st12 := st11.skip hq12 ha12
              have hrow12 : SlD tIk (fun k => Sn k ∨ slB (.slice ra2 by_.length rc2) k) H12 ra2 rc2 (by_.map fun b => ((ixF (C.map P) (P (M.st x b)) : Nat) : Int)) := (hrow7.frame (ha12.mono fun k hk => by
                have := (st10.in_ 9 rfl (.inl hk)).2
                omega)).mono fun k hk => .inr hk
              (conv => whnf); refine appNO (row := by_.map fun b => ((ixF (C.map P) (P (M.st x b)) : Nat) : Int)) st12 sl23 (hb12.cells fun j v hv => by rw [Nat.zero_add]; exact hv) ⟨ra2, rc2, by rw [hri], hrow12⟩ rfl (fun u hu => by cases List.mem_singleton.1 hu; rfl) (by rw [hrl2]; omega) (by decide) fun a13 c13 H13 st13 => ?_
              have e5 : rowsC M by_ P C (C.take i) ++ [by_.map fun b => ((ixF (C.map P) (P (M.st x b)) : Nat) : Int)] = rowsC M by_ P C (C.take (i + 1)) := by
                unfold rowsC
                rw [take_succ_snoc hx, List.map_append]
                rfl
              rw [hrl2, e5] at st13
              rw [hrl2]
              (conv => whnf); refine VC.fa fl35_2 ?_
              (conv => whnf); refine st1B st13 5 ct23 rfl (by rw [hl259]; decide) rfl fun H14 st14 => ?_
              rw [Nat.zero_add, dfaL_put257 hl] at st14
              have d0 := st14.apart2 (i := 1) (j := 8) rfl rfl (by decide)
              have d5 := st14.apart2 (i := 5) (j := 8) rfl rfl (by decide)
              have hp0 : p < H14.size ∧ ¬ (pS tBool 4 ya i yc ((C.take i).map M.fi) : Pc).foot p := ⟨(st14.in_ 1 rfl rfl).2, fun h => d0 p rfl h⟩
              have hp5 : p5 < H14.size ∧ ¬ (pS tBool 4 ya i yc ((C.take i).map M.fi) : Pc).foot p5 := ⟨(st14.in_ 5 rfl rfl).2, fun h => d5 p5 rfl h⟩
              have hq14 := fun (k : Nat) (hk : Old H k) => (⟨st14.up hk, fun h => (st14.in_ 8 rfl h).1 hk⟩ : k < H14.size ∧ ¬ (pS tBool 4 ya i yc ((C.take i).map M.fi) : Pc).foot k)
              (conv => whnf); refine VDraw.held (fun k => k < H14.size ∧ ¬ (pS tBool 4 ya i yc ((C.take i).map M.fi) : Pc).foot k) 13 (sq [0,1,2,3,4,5,6,7,8,9] (.f 10 (.f 11 (sq [12] (.f 13 .e))))) rfl (by kernel_rfl) ?_
              (conv => whnf); refine VC.fa fl35_3 ?_
              (conv => whnf); refine ld1 (v := .slice ya i yc) ct24 (by rw [(st14.blk 5 rfl).cell, Nat.zero_add]; exact dfaL_258 hl) hp5 ?_
              (conv => whnf); refine VC.fa fl35_3 ?_
              (conv => whnf); refine ld1 (v := .slice fa' D.final.length fc) ct24 (by rw [(st14.blk 1 rfl).cell, Nat.zero_add]; exact hd8) hp0 ?_
              (conv => whnf); refine ixrn (i := i) sl33 (st14.viewA 7 8 rfl rfl (by decide)) hCI.symm (hgC hx) rfl ?_
              rintro b15 o15 c15 hS15 hc15 ⟨rfl, -⟩
              (conv => whnf); refine ld1 ct3 hc15.one hS15 ?_
              (conv => whnf); refine fin_ix ((hfn st14.old).mono fun k hk => hq14 k (hS k hk)) (by omega) (by omega) fun b16 o16 hS16 hc16 => ?_
              (conv => whnf); refine ld1 ct4 hc16 hS16 ?_
              rw [hD.fi x (by omega)]
              (conv => whnf); refine vbuild1 sl24 [.bool (M.fi x)] rfl rfl (by decide) (by decide) ?_
              intro q17 H17 hq17 hs17 hb17 ha17
              have st17 := st14.skip hq17 ha17
              refine ⟨ha17.mono fun k hk => by have := hk.1; omega, ?_⟩
              (conv => whnf); refine app1 (x := M.fi x) st17 8 sl24 rfl hb17 rfl rfl (by rw [hel7]; omega) (by decide) fun a18 c18 H18 st18 ha18 => ?_
              refine ⟨(ha17.mono fun k hk => by have := hk.1; omega).trans (ha18.mono fun k hk => ⟨by have := hk.1; omega, fun h => hk.2 (.inl h)⟩), ?_⟩
              have hend : ((C.take i).map M.fi) ++ [M.fi x] = (C.take (i + 1)).map M.fi := by rw [take_succ_snoc hx, List.map_append]; rfl
              rw [hel7, hend] at st18
              rw [hel7]
              (conv => whnf); refine VC.fa fl35_3 ?_
              (conv => whnf); refine st1B st18 5 ct24 rfl (by rw [hl259]; decide) rfl fun H19 st19 => ?_
              rw [Nat.zero_add, dfaL_put258 hl] at st19
              (conv => whnf); rw [w64 (x := (i : Int) + 1) (by omega) (by omega)]
              exact ⟨rfl, i + 1, by simp, ⟨by omega, _, a13, c13, a18, c18, st19.pick [1, 2, 3, 4, 5, 6, 7, 0, 8] (by decide)⟩, by omega⟩
        · obtain rfl : i = C.length := by omega
          rw [List.take_length] at st9
          have hrl2 : (rowsC M by_ P C C).length = C.length := by unfold rowsC; rw [List.length_map]
          have hel7 : (C.map M.fi).length = C.length := List.length_map _
          (conv => whnf); refine ldN (cs := dfaL D.cell (.slice ra by_.length rc) (.slice xa C.length xc) (.slice ya C.length yc)) (by rw [hl259]; exact ag35) ((st9.blk 4 rfl).cells fun j v hv => by rw [Nat.zero_add]; exact hv) trivial ?_
          (conv => whnf); refine stNB (cs := dfaL D.cell (.slice ra by_.length rc) (.slice xa C.length xc) (.slice ya C.length yc)) st9 1 (by rw [hl259]; rfl) rfl (by rw [hl259]; decide) (dfaL_ones rfl rfl rfl) fun H13 st13 => ?_
          rw [splice_whole (by rw [hl259]; rfl)] at st13
          (conv => whnf); refine ldN (cs := dfaL D.cell (.slice ra by_.length rc) (.slice xa C.length xc) (.slice ya C.length yc)) (by rw [hl259]; exact ag35) ((st13.blk 1 rfl).cells fun j v hv => by rw [Nat.zero_add]; exact hv) trivial ?_
          refine ⟨st13.old, ⟨D.cell, D.reps, rowsC M by_ P C C, C.map M.fi⟩, ⟨hl, ra, rc, xa, xc, ya, yc, ?_, ?_, st13.view 7 rfl, st13.view 8 rfl⟩, docC_of hM hok hD hR hW hP hC rfl⟩
          · rw [hby, hrl2, hel7]
          · exact (h1.frame (st13.old.mono hS)).mono fun k hk => st13.up (hS k hk)
end Go.Proofs.YthomdogheamfpaaDoor
/- Two automata whose states are the classes in the order in which they are found are alike; plain law. -/
set_option linter.unusedVariables false
set_option linter.unusedSimpArgs false
namespace Go.Proofs.YthomdogheamfpaaDoor
theorem eqv_step {M : PA} {x y b : Nat} (h : M.Eqv x y) (hb : b < 256) : M.Eqv (M.st x b) (M.st y b) := fun w hw => h (b :: w) fun c hc => by
  rcases List.mem_cons.1 hc with rfl | hc
  · exact hb
  · exact hw c hc
theorem canon_alike {M : PA} {O C : List Nat} {st st' : Int → Nat → Int} {fi fi' : Int → Bool} {P : Nat → Nat} (hM : M.Ok) (hP : IsCls M (allS M) P) (he : O.map P = C.map P) (hnd : (O.map P).Nodup) (lO : LeadsC M O st fi) (lC : LeadsC M C st' fi') :
    O.length = C.length ∧ (∀ i : Nat, i < O.length → fi (i : Int) = fi' (i : Int)) ∧ ∀ i b : Nat, i < O.length → b < 256 → st (i : Int) b = st' (i : Int) b := by
  have hall : ∀ {x : Nat}, x < M.n → x ∈ allS M := fun h => List.mem_range.2 h
  have hlen : O.length = C.length := by have := congrArg List.length he; simpa using this
  have pair : ∀ i : Nat, i < O.length → ∃ x y, O[i]? = some x ∧ C[i]? = some y ∧ P x = P y ∧ M.Eqv x y ∧ x < M.n ∧ y < M.n := fun i hi => by
    have h1 : O[i]? = some O[i] := List.getElem?_eq_getElem hi
    have h2 : C[i]? = some (C[i]'(by omega)) := List.getElem?_eq_getElem (by omega)
    have h3 : P O[i] = P (C[i]'(by omega)) := by
      have := congrArg (fun l => l[i]?) he
      simp only [List.getElem?_map, h1, h2, Option.map_some, Option.some.injEq] at this
      exact this
    have h4 := lO.lt _ (List.mem_of_getElem? h1)
    have h5 := lC.lt _ (List.mem_of_getElem? h2)
    exact ⟨_, _, h1, h2, h3, (hP _ (hall h4) _ (hall h5)).1 h3, h4, h5⟩
  refine ⟨hlen, fun i hi => ?_, fun i b hi hb => ?_⟩
  · obtain ⟨x, y, h1, h2, -, h4, -, -⟩ := pair i hi
    rw [lO.fi i x h1, lC.fi i y h2]
    exact h4.fi
  · obtain ⟨x, y, h1, h2, -, h4, h5, h6⟩ := pair i hi
    obtain ⟨t, z, e1, e2, e3⟩ := lO.st i b x h1 hb
    obtain ⟨t', z', g1, g2, g3⟩ := lC.st i b y h2 hb
    have hz := lO.lt z (List.mem_of_getElem? e2)
    have hz' := lC.lt z' (List.mem_of_getElem? g2)
    have k1 := (hP z (hall hz) _ (hall (hM.cl x b h5 hb))).2 e3
    have k2 := (hP z' (hall hz') _ (hall (hM.cl y b h6 hb))).2 g3
    have k3 := (hP _ (hall (hM.cl x b h5 hb)) _ (hall (hM.cl y b h6 hb))).2 (eqv_step h4 hb)
    have m1 : (O.map P)[t]? = some (P z) := by rw [List.getElem?_map, e2]; rfl
    have m2 : (O.map P)[t']? = some (P z) := by rw [he, List.getElem?_map, g2]; simp [k1, k2, k3]
    have : t = t' := by
      obtain ⟨a1, a2⟩ := List.getElem?_eq_some_iff.1 m1
      obtain ⟨b1, b2⟩ := List.getElem?_eq_some_iff.1 m2
      exact (List.getElem_inj hnd).1 (a2.trans b2.symm)
    rw [e1, g1, this]
end Go.Proofs.YthomdogheamfpaaDoor
/- same of the laws of layer 7: the walk (loupelaw05's, with a question for nil ahead). -/
set_option linter.unusedVariables false
set_option linter.unusedSimpArgs false
set_option maxRecDepth 100000
namespace Go.Proofs.YthomdogheamfpaaDoor
open Go.VC
attribute [local irreducible] mRun atRun
set_option maxHeartbeats 4000000 in
theorem same7_p {S : Nat → Prop} {H : Heap} {v w : Value} {A0 : AM} {o : Option AM} {D : DM} (hoA : o = some A0) (hS : ∀ k, S k → k < H.size) (hv : AutoV S H v o) (hw : DfaV S H w D) (hok : D.Ok) (hn : stN o = D.next.length) (hst : ∀ (q b : Nat), q < D.next.length → b < 256 → stepM o (q : Int) b = stepD D (q : Int) b) (hfi : ∀ q : Nat, q < D.next.length → finM o (q : Int) = finD D (q : Int)) :
    Pure Tryd.prog 14 #[v, w] H (.bool true) := by
  have hlen := hw.len
  obtain ⟨pv, rfl⟩ : ∃ pv, v = .pointer (some pv) := by
    subst hoA
    obtain ⟨p, rfl, -⟩ := hv
    exact ⟨_, rfl⟩
  have hn1 := hok.n1
  have hn2 := hok.n2
  have hfl := hok.fl
  refine FnOk.of_vc Tryd.func14 rfl (Tryd.call14 _) ?_
  (conv => whnf); refine dfa_box hw fun ra rc na nc fa fc he h1 h2 h3 => ?_
  subst he
  intro pb H1 hpb hs1 hb1 ha1
  have hA1 : Agr (Old H) H H1 := ha1.mono fun j hj => by unfold Old at hj; omega
  have hF : ∀ {H' : Heap}, Agr (Old H) H H' → AutoV S H' (.pointer (some pv)) o := fun h => hv.frame (h.mono hS)
  have up : ∀ {H' : Heap}, Agr (Old H) H H' → ∀ k, S k → k < H'.size := fun h k hk => old_lt h (hS k hk)
  have tr : ∀ {H2 H' : Heap}, Agr (Old H) H H2 → Agr (Old H2) H2 H' → Agr (Old H) H H' := fun h k => h.trans (k.mono fun j hj => old_lt h hj)
  (conv => whnf)
  refine VDraw.quiet (Old H1) rfl (by kernel_rfl) ?_
  (conv => whnf); refine peqS Tryd.underlying29 ?_
  (conv => whnf); refine pureq (fun H' h' => states_p (hF (tr hA1 h'))) ?_
  (conv => whnf); refine VC.fa fl35_2 ?_
  (conv => whnf); refine ld1 ct23 (by rw [hb1.cell, Nat.zero_add]; exact dfaL_257 hlen) hb1.lt ?_
  have e0 : ((stN o : Int) != (D.next.length : Int)) = false := by rw [hn]; simp
  (conv => whnf); rw [e0]
  (conv => whnf)
  intro H2 ha2
  have hA2 := tr hA1 ha2
  (conv => whnf)
  refine VLoop.mk [5] (fun q : Nat => [.int .i64 q]) (fun q H3 => q ≤ D.next.length ∧ Agr (Old H1) H1 H3) (fun q _ => D.next.length - q) ?_ ?_
  · (conv => whnf); exact ⟨0, rfl, by omega, ha2⟩
  · rintro q H3 junk ⟨hq, ha3⟩
    have hA3 := tr hA1 ha3
    have hb3 := hb1.agr ha3 hb1.lt
    (conv => whnf); refine VC.fa fl35_2 ?_
    (conv => whnf); refine ld1 ct23 (by rw [hb3.cell, Nat.zero_add]; exact dfaL_257 hlen) trivial ?_
    (conv => whnf); refine VIte.mk (fun h => ?_) (fun h => ?_) <;> simp only [decide_eq_true_eq, decide_eq_false_iff_not] at h
    · obtain ⟨f, hf⟩ := get_some (l := D.final) (k := q) (by omega)
      have hfin : finM o (q : Int) = f := by rw [hfi q (by omega)]; simp [finD, hf]
      (conv => whnf)
      refine VDraw.quiet (Old H3) rfl (by kernel_rfl) ?_
      (conv => whnf); refine pureq (fun H' h' => final_p (hF (tr hA3 h'))) ?_
      (conv => whnf); refine VC.fa fl35_3 ?_
      (conv => whnf); refine ld1 ct24 (by rw [hb3.cell, Nat.zero_add]; exact dfaL_258 hlen) hb3.lt ?_
      (conv => whnf); refine ixr sl24 (h3.frame (hA3.mono hS)) hf rfl ?_
      rintro b4 o4 cs4 hSb4 hcells4 rfl
      (conv => whnf); refine ld1 ct4 hcells4.one (up hA3 _ hSb4) ?_
      (conv => whnf); refine bneq_b rfl ?_
      rw [hfin, show (!(f == f)) = false by simp]
      (conv => whnf)
      intro H4 ha4
      have ha14 := ha3.trans (ha4.mono fun k hk => old_lt ha3 hk)
      (conv => whnf)
      refine VLoop.mk [6] (fun b : Nat => [.int .i64 b]) (fun b H5 => b ≤ 256 ∧ Agr (Old H1) H1 H5) (fun b _ => 256 - b) ?_ ?_
      · (conv => whnf); exact ⟨0, rfl, by omega, ha14⟩
      · rintro b H5 junk5 ⟨hb, ha5⟩
        have hA5 := tr hA1 ha5
        have hb5 := hb1.agr ha5 hb1.lt
        (conv => whnf); refine VIte.mk (fun h => ?_) (fun h => ?_) <;> simp only [decide_eq_true_eq, decide_eq_false_iff_not] at h
        · obtain ⟨row, c, t, hr, hc, ht, hc256, _⟩ := hok.at (q := q) (b := b) (by omega) (by omega)
          have hstep : stepM o (q : Int) b = t := by rw [hst _ _ (by omega) (by omega), stepD_at hr hc ht]
          (conv => whnf)
          refine VDraw.quiet (Old H5) rfl (by kernel_rfl) ?_
          (conv => whnf); rw [w8 (x := (b : Int)) (by omega) (by omega)]
          (conv => whnf); refine pureq (fun H' h' => step_p (up (tr hA5 h')) (hF (tr hA5 h')) (show b < 256 by omega)) ?_
          (conv => whnf); refine VC.fa fl35_2 ?_
          (conv => whnf); refine ld1 ct23 (by rw [hb5.cell, Nat.zero_add]; exact dfaL_257 hlen) hb5.lt ?_
          (conv => whnf); refine ixr sl23 (h2.frame (hA5.mono hS)) hr rfl ?_
          rintro b6 o6 cs6 hSb6 hcells6 ⟨xa, xc, rfl, hx⟩
          (conv => whnf); refine ld1 ct33 hcells6.one (up hA5 _ hSb6) ?_
          (conv => whnf); refine VC.fa fl35_0 ?_
          (conv => whnf); refine ixa ar32 (by omega) (by omega) ?_
          (conv => whnf); refine ld1 (v := .int .i64 (c : Int)) ct3 (by rw [hb5.cell, show 0 + 0 + ((b : Nat) : Int).toNat * 1 = b by omega]; exact dfaL_at hc) hb5.lt ?_
          (conv => whnf); refine ixr sl33 hx ht rfl ?_
          rintro b7 o7 cs7 hSb7 hcells7 ⟨rfl, -⟩
          (conv => whnf); refine ld1 ct3 hcells7.one (up hA5 _ hSb7) ?_
          rw [hstep]
          have e1 : (t != t) = false := by simp
          (conv => whnf); rw [e1]
          (conv => whnf)
          intro H6 ha6
          (conv => whnf); rw [w64 (x := (b : Int) + 1) (by omega) (by omega)]
          exact ⟨rfl, b + 1, by simp, ⟨by omega, ha5.trans (ha6.mono fun k hk => old_lt ha5 hk)⟩, by omega⟩
        · (conv => whnf); rw [w64 (x := (q : Int) + 1) (by omega) (by omega)]
          exact ⟨rfl, q + 1, by simp, ⟨by omega, ha5⟩, by omega⟩
    · (conv => whnf)
      exact ⟨rfl, hA3⟩
end Go.Proofs.YthomdogheamfpaaDoor
/- MinimCanons: same holds of the two canonical automata. -/
set_option linter.unusedVariables false
set_option linter.unusedSimpArgs false
set_option maxRecDepth 100000
namespace Go.Proofs.YthomdogheamfpaaDoor
open Go.VC
attribute [local irreducible] mRun gRun atRun
theorem canons_p {S : Nat → Prop} {H0 H1 H : Heap} {v w : Value} {o : Option AM} {D D' : DM} {by_ : List Nat} (hM : (paO o).Ok) (hS : ∀ k, S k → k < H.size) (hc : CanP o H0 H1 v) (hag : Agr (fun k => H0.size ≤ k ∧ k < H1.size) H1 H) (hs : ∀ k, k < H1.size → k < H.size) (hw : DfaV S H w D') (hd : DocC D (paO o) by_ D') :
    Pure Tryd.prog 14 #[v, w] H (.bool true) := by
  obtain ⟨rows, O, hsd, hv, ⟨P, hP, hO⟩, lO, hrl⟩ := hc
  obtain ⟨C, hC, lC, hnl, hok, -⟩ := hd
  have hC := hC P hP
  rw [hO] at hC
  injection hC with hC
  obtain ⟨hlen, hfi, hst⟩ := canon_alike hM hP hC (detW_len (by decide) hO).2.2.1 lO lC
  have hn : stN (some (madeM (cellsM o) (rows.map rowI) (O.map fun (x : Nat) => finM o (x : Int)))) = D'.next.length := by
    rw [hnl, ← hlen]
    show (madeM (cellsM o) (rows.map rowI) (O.map fun (x : Nat) => finM o (x : Int))).next.length = _
    unfold madeM
    simp [hrl]
  have hv2 := hv.frame hag
  exact same7_p (S := fun k => S k ∨ (H0.size ≤ k ∧ k < H1.size)) rfl (fun k hk => hk.elim (hS k) fun h => hs k h.2) (hv2.mono fun k hk => .inr hk) (hw.mono fun k hk => .inl hk) hok hn (fun q b hq hb => hst q b (by omega) hb) fun q hq => hfi q (by omega)
end Go.Proofs.YthomdogheamfpaaDoor
/- The document's automaton against the program's: DocM. -/
set_option linter.unusedVariables false
set_option linter.unusedSimpArgs false
set_option maxRecDepth 100000
namespace Go.Proofs.YthomdogheamfpaaDoor
open Go.VC
attribute [local irreducible] mRun gRun atRun
theorem Both.stepOk {o : Option AM} {D : DM} (h : Both o D) : StepOk o :=
  ⟨by rw [h.n]; exact h.ok.n1, by rw [h.n]; exact h.ok.n2, fun q b hq hb => by
    have := stepD_range h.ok hq.1 (by have := hq.2; rw [h.n] at this; exact this) hb
    unfold inA
    rw [h.step q b hb, h.n]
    exact this⟩
theorem Both.docM {o : Option AM} {D : DM} (h : Both o D) : DocM D (paO o) := by
  have hst := h.stepOk
  refine ⟨h.n, fun q b hq hb => ?_, fun q hq => (h.fin _).symm⟩
  rw [← h.step _ b hb]
  exact paO_st hst (show q < stN o from hq) hb
theorem asI_at {l : List Nat} {k x : Nat} (h : l[k]? = some x) : (asI l)[k]? = some (x : Int) := by
  unfold asI
  rw [List.getElem?_map, h]
  rfl
theorem repD_made (cells : List (BitVec 256)) (next : List (List Int)) (final : List Bool) : RepD (madeD cells next final) (atRun cells 256).1 := by
  have h := atRun_ok cells 256
  refine ⟨rfl, fun row hr => ?_, h.flen, fun b hb => ?_, fun c b hc => ?_, fun b hb => ?_⟩
  · obtain ⟨r, -, rfl⟩ := List.mem_map.1 hr
    unfold rowR
    simp
  · obtain ⟨k, hk⟩ := List.getElem?_of_mem hb
    exact (h.first k b hk).1
  · exact asI_at (h.first c b hc).2
  · obtain ⟨p, hp⟩ := get_some (l := (atRun cells 256).2) (k := b) (by rw [h.plen]; exact hb)
    obtain ⟨g, hg⟩ := get_some (l := (atRun cells 256).1) (k := p) (h.lt p (List.mem_of_getElem? hp))
    exact ⟨p, g, asI_at hp, hg, (h.sig b p g hp hg).2⟩
theorem repD_none : RepD noneD [0] := by
  refine ⟨rfl, fun row hr => ?_, by decide, fun b hb => ?_, fun c b hc => ?_, fun b hb => ?_⟩
  · rw [List.mem_singleton.1 hr]; rfl
  · rw [List.mem_singleton] at hb; omega
  · cases c with
    | zero => cases hc; rfl
    | succ c => simp at hc
  · exact ⟨0, 0, by show (List.replicate 256 (0 : Int))[b]? = _; rw [List.getElem?_replicate, if_pos hb]; rfl, rfl, Nat.zero_le _⟩
theorem repD_of (cells : List (BitVec 256)) (next : List (List Int)) (final : List Bool) : ∃ by_, RepD (dfaOf cells next final) by_ := by
  unfold dfaOf
  split
  · exact ⟨_, repD_made cells next final⟩
  · exact ⟨_, repD_none⟩
end Go.Proofs.YthomdogheamfpaaDoor
/- ambig's Meets: the walks. -/
set_option linter.unusedVariables false
set_option linter.unusedSimpArgs false
set_option maxRecDepth 100000
namespace Go.Proofs.YthomdogheamfpaaDoor
open Go.VC
attribute [local irreducible] mRun gRun atRun
end Go.Proofs.YthomdogheamfpaaDoor
/- Search by breadth in a graph, bytes in ascending order: the first end that is found has the first word; plain law. -/
set_option linter.unusedVariables false
set_option linter.unusedSimpArgs false
namespace Go.Proofs.YthomdogheamfpaaDoor
/-- Shorter, or as long and no later in order. -/
def leL (u v : List Nat) : Prop := u.length < v.length ∨ (u.length = v.length ∧ lexL u v)
theorem leL_refl (u : List Nat) : leL u u := .inr ⟨rfl, lexL_refl u⟩
theorem leL_trans {u v w : List Nat} (h : leL u v) (k : leL v w) : leL u w := by
  rcases h with h | ⟨h1, h2⟩ <;> rcases k with k | ⟨k1, k2⟩
  · exact .inl (by omega)
  · exact .inl (by omega)
  · exact .inl (by omega)
  · exact .inr ⟨by omega, lexL_trans h1 k1 h2 k2⟩
theorem leL_snoc {u v : List Nat} (b : Nat) (h : leL u v) : leL (u ++ [b]) (v ++ [b]) := by
  rcases h with h | ⟨h1, h2⟩
  · exact .inl (by simpa using h)
  · exact .inr ⟨by simp [h1], lexL_snoc b h1 h2⟩
theorem lexL_last : ∀ (u : List Nat) {b c : Nat}, b ≤ c → lexL (u ++ [b]) (u ++ [c])
  | [], b, c, h => by
    show lexL [b] [c]
    unfold lexL
    rcases Nat.lt_or_eq_of_le h with h | h
    · exact .inl h
    · exact .inr ⟨h, lexL_refl _⟩
  | a :: u, b, c, h => by
    show lexL (a :: (u ++ [b])) (a :: (u ++ [c]))
    unfold lexL
    exact .inr ⟨rfl, lexL_last u h⟩
theorem lexL_wide : ∀ {u v : List Nat} (b c : Nat), u.length = v.length → lexL u v → u ≠ v → lexL (u ++ [b]) (v ++ [c])
  | [], [], _, _, _, _, h => absurd rfl h
  | [], _ :: _, _, _, h, _, _ => by simp at h
  | _ :: _, [], _, _, h, _, _ => by simp at h
  | a :: u, d :: v, b, c, h, h1, h2 => by
    unfold lexL at h1
    show lexL (a :: (u ++ [b])) (d :: (v ++ [c]))
    unfold lexL
    rcases h1 with h1 | ⟨rfl, h1⟩
    · exact .inl h1
    · exact .inr ⟨rfl, lexL_wide b c (by simpa using h) h1 fun e => h2 (by rw [e])⟩
theorem leL_wide {u v : List Nat} (b c : Nat) (h : leL u v) (hne : u ≠ v) : leL (u ++ [b]) (v ++ [c]) := by
  rcases h with h | ⟨h1, h2⟩
  · exact .inl (by simpa using h)
  · exact .inr ⟨by simp [h1], lexL_wide b c h1 h2 hne⟩
/-- i have been looked at whole; of the next one what holds of d. -/
structure BfsOk (g : Gr) (by_ : List Nat) (a : Nd) (F : List NW) (i : Nat) (k : Nat) : Prop where
  zero : F[0]? = some (a, [])
  nd : (F.map (·.1)).Nodup
  ok : ∀ x ∈ F, (∀ b ∈ x.2, b ∈ by_) ∧ To g x.2 a x.1
  up : ∀ (j l : Nat) (x y : NW), j < l → F[j]? = some x → F[l]? = some y → leL x.2 y.2 ∧ x.2 ≠ y.2
  closed : ∀ (j l : Nat) (x : NW) (b : Nat) (t : Nd), F[j]? = some x → by_[l]? = some b → t ∈ g.next x.1 b → (j < i ∨ (j = i ∧ l < k)) → ∃ y ∈ F, y.1 = t ∧ leL y.2 (x.2 ++ [b])
  par : ∀ (m : Nat) (y : NW), F[m]? = some y → m = 0 ∨ ∃ (j l b : Nat) (x : NW), F[j]? = some x ∧ by_[l]? = some b ∧ y.2 = x.2 ++ [b] ∧ (j < i ∨ (j = i ∧ l < k))
section
variable {g : Gr} {by_ : List Nat} {a t : Nd} {F F' : List NW} {i k : Nat}
theorem BfsOk.start : BfsOk g by_ a [(a, [])] 0 0 := by
  refine ⟨rfl, by simp, fun x hx => ?_, fun j l x y hj hx hy => ?_, fun j l x b t hx hb ht h => by omega, fun m y hy => .inl ?_⟩
  · rw [List.mem_singleton] at hx
    subst hx
    exact ⟨fun b hb => (by cases hb), rfl⟩
  · have := (List.getElem?_eq_some_iff.1 hy).1
    simp at this
    omega
  · have := (List.getElem?_eq_some_iff.1 hy).1
    simp at this
    omega
theorem BfsOk.turn (h : BfsOk g by_ a F i k) (hk : by_.length ≤ k) : BfsOk g by_ a F (i + 1) 0 := by
  refine ⟨h.zero, h.nd, h.ok, h.up, fun j l x b t hx hb ht hj => h.closed j l x b t hx hb ht ?_, fun m y hy => ?_⟩
  · have := (List.getElem?_eq_some_iff.1 hb).1
    omega
  · rcases h.par m y hy with h0 | ⟨j, l, b, x, h1, h2, h3, h4⟩
    · exact .inl h0
    · exact .inr ⟨j, l, b, x, h1, h2, h3, by omega⟩
/-- All that has been found comes no later than what is looked at next. -/
theorem BfsOk.ahead (h : BfsOk g by_ a F i k) (hup : by_.Pairwise (· < ·)) {x : NW} (hx : F[i]? = some x) {b : Nat} (hb : by_[k]? = some b) {m : Nat} {y : NW} (hy : F[m]? = some y) : leL y.2 (x.2 ++ [b]) ∧ y.2 ≠ x.2 ++ [b] := by
  rcases h.par m y hy with rfl | ⟨j, l, c, z, hz, hc, e, hj⟩
  · rw [h.zero] at hy
    cases hy
    exact ⟨.inl (by simp), fun e => by simp at e⟩
  · rw [e]
    rcases hj with hj | ⟨rfl, hlk⟩
    · obtain ⟨u1, u2⟩ := h.up j i z x hj hz hx
      exact ⟨leL_wide c b u1 u2, fun e => u2 (List.append_inj' e rfl).1⟩
    · rw [hx] at hz; cases hz
      have hcb : c < b := by
        obtain ⟨p1, p2⟩ := List.getElem?_eq_some_iff.1 hc
        obtain ⟨q1, q2⟩ := List.getElem?_eq_some_iff.1 hb
        have := List.pairwise_iff_getElem.1 hup l k p1 q1 hlk
        rw [p2, q2] at this
        exact this
      refine ⟨.inr ⟨by simp, lexL_last _ (Nat.le_of_lt hcb)⟩, fun e => ?_⟩
      have := List.append_inj' e rfl
      simp at this
      omega
theorem BfsOk.add (h : BfsOk g by_ a F i k) (hup : by_.Pairwise (· < ·)) {x : NW} (hx : F[i]? = some x) {b : Nat} (hb : by_[k]? = some b) (ht : g.next x.1 b = [t])
    (hF : ((∃ y ∈ F, y.1 = t) ∧ F' = F) ∨ ((∀ y ∈ F, y.1 ≠ t) ∧ F' = F ++ [(t, x.2 ++ [b])])) : BfsOk g by_ a F' i (k + 1) := by
  have hil := (List.getElem?_eq_some_iff.1 hx).1
  rcases hF with ⟨⟨z, hz, hzt⟩, rfl⟩ | ⟨hno, rfl⟩
  · refine ⟨h.zero, h.nd, h.ok, h.up, fun j l y c u hy hc hu hj => ?_, fun m y hy => ?_⟩
    · by_cases hold : j < i ∨ (j = i ∧ l < k)
      · exact h.closed j l y c u hy hc hu hold
      · obtain ⟨rfl, rfl⟩ : j = i ∧ l = k := by omega
        rw [hx] at hy; cases hy
        rw [hb] at hc; cases hc
        rw [ht, List.mem_singleton] at hu
        subst hu
        obtain ⟨m, hm⟩ := List.getElem?_of_mem hz
        exact ⟨z, hz, hzt, (h.ahead hup hx hb hm).1⟩
    · rcases h.par m y hy with h0 | ⟨j, l, c, x', h1, h2, h3, h4⟩
      · exact .inl h0
      · exact .inr ⟨j, l, c, x', h1, h2, h3, by omega⟩
  · have hgt : ∀ (m : Nat) (y : NW), (F ++ [(t, x.2 ++ [b])])[m]? = some y → F[m]? = some y ∨ (m = F.length ∧ y = (t, x.2 ++ [b])) := fun m y hy => by
      by_cases hm : m < F.length
      · rw [List.getElem?_append_left hm] at hy; exact .inl hy
      · have hm2 := (List.getElem?_eq_some_iff.1 hy).1
        simp only [List.length_append, List.length_singleton] at hm2
        obtain rfl : m = F.length := by omega
        simp at hy
        exact .inr ⟨rfl, hy.symm⟩
    have old : ∀ {m : Nat} {y : NW}, F[m]? = some y → (F ++ [(t, x.2 ++ [b])])[m]? = some y := fun {m y} hy => by
      rw [List.getElem?_append_left (List.getElem?_eq_some_iff.1 hy).1]; exact hy
    have hback : ∀ {j : Nat} {y : NW}, j ≤ i → (F ++ [(t, x.2 ++ [b])])[j]? = some y → F[j]? = some y := fun {j y} hj hy => by
      rw [List.getElem?_append_left (by omega)] at hy; exact hy
    refine ⟨old h.zero, ?_, fun y hy => ?_, fun j l y z hj hy hz => ?_, fun j l y c u hy hc hu hj => ?_, fun m y hy => ?_⟩
    · rw [List.map_append]
      refine List.nodup_append.2 ⟨h.nd, by simp, fun y hy z hz => ?_⟩
      simp only [List.map_cons, List.map_nil, List.mem_singleton] at hz
      subst hz
      obtain ⟨p, hp, rfl⟩ := List.mem_map.1 hy
      exact hno p hp
    · rcases List.mem_append.1 hy with hy | hy
      · exact h.ok y hy
      · rw [List.mem_singleton] at hy
        subst hy
        obtain ⟨k1, k2⟩ := h.ok x (List.mem_of_getElem? hx)
        refine ⟨fun c hc => ?_, to_snoc.2 ⟨_, k2, by rw [ht]; exact List.mem_singleton.2 rfl⟩⟩
        rcases List.mem_append.1 hc with hc | hc
        · exact k1 c hc
        · rw [List.mem_singleton] at hc
          subst hc
          exact List.mem_of_getElem? hb
    · rcases hgt l z hz with hz | ⟨rfl, rfl⟩
      · exact h.up j l y z hj (by rcases hgt j y hy with hy | ⟨rfl, -⟩
                                  · exact hy
                                  · have := (List.getElem?_eq_some_iff.1 hz).1; omega) hz
      · rcases hgt j y hy with hy | ⟨rfl, -⟩
        · exact h.ahead hup hx hb hy
        · omega
    · by_cases hold : j < i ∨ (j = i ∧ l < k)
      · obtain ⟨z, hz, e, hl⟩ := h.closed j l y c u (hback (by omega) hy) hc hu hold
        exact ⟨z, List.mem_append.2 (.inl hz), e, hl⟩
      · obtain ⟨rfl, rfl⟩ : j = i ∧ l = k := by omega
        have hy := hback (Nat.le_refl _) hy
        rw [hx] at hy; cases hy
        rw [hb] at hc; cases hc
        rw [ht, List.mem_singleton] at hu
        subst hu
        exact ⟨_, List.mem_append.2 (.inr (List.mem_singleton.2 rfl)), rfl, leL_refl _⟩
    · rcases hgt m y hy with hy | ⟨rfl, rfl⟩
      · rcases h.par m y hy with h0 | ⟨j, l, c, x', h1, h2, h3, h4⟩
        · exact .inl h0
        · exact .inr ⟨j, l, c, x', old h1, h2, h3, by omega⟩
      · exact .inr ⟨i, k, b, x, old hx, hb, rfl, by omega⟩
/-- Where a word leads: to one that has been looked at, and whose word is no later; or the word is no earlier than the one that is looked at. -/
theorem BfsOk.covers (h : BfsOk g by_ a F i 0) : ∀ (n : Nat) {u : List Nat} {t : Nd}, u.length = n → (∀ b ∈ u, b ∈ by_) → To g u a t → (∃ (j : Nat) (x : NW), j < i ∧ F[j]? = some x ∧ x.1 = t ∧ leL x.2 u) ∨ ∃ x, F[i]? = some x ∧ leL x.2 u
  | 0, u, t, hu, _, ht => by
    obtain rfl := List.eq_nil_of_length_eq_zero hu
    obtain rfl : a = t := ht
    cases i with
    | zero => exact .inr ⟨_, h.zero, leL_refl _⟩
    | succ i => exact .inl ⟨0, _, by omega, h.zero, rfl, leL_refl _⟩
  | n + 1, u, t, hu, hb, ht => by
    obtain ⟨w, b, rfl⟩ : ∃ w b, u = w ++ [b] := ⟨u.dropLast, u.getLast (by rintro rfl; simp at hu), (List.dropLast_concat_getLast _).symm⟩
    rw [List.length_append, List.length_singleton, Nat.add_right_cancel_iff] at hu
    obtain ⟨p, hp, hpt⟩ := to_snoc.1 ht
    rcases h.covers n hu (fun c hc => hb c (List.mem_append.2 (.inl hc))) hp with ⟨j, x, hj, hx, rfl, hl⟩ | ⟨x, hx, hl⟩
    · obtain ⟨l, hl2⟩ := List.getElem?_of_mem (hb b (by simp))
      obtain ⟨y, hy, e, hyl⟩ := h.closed j l x b t hx hl2 hpt (.inl hj)
      have hyu := leL_trans hyl (leL_snoc b hl)
      obtain ⟨m, hm⟩ := List.getElem?_of_mem hy
      rcases Nat.lt_trichotomy m i with hmi | rfl | hmi
      · exact .inl ⟨m, y, hmi, hm, e, hyu⟩
      · exact .inr ⟨y, hm, hyu⟩
      · have hil : i < F.length := by have := (List.getElem?_eq_some_iff.1 hm).1; omega
        exact .inr ⟨_, List.getElem?_eq_getElem hil, leL_trans (h.up i m _ y hmi (List.getElem?_eq_getElem hil) hm).1 hyu⟩
    · exact .inr ⟨x, hx, leL_trans hl (.inl (by simp))⟩
variable (hby : ∀ c, c < 256 → ∃ r ∈ by_, r ≤ c ∧ ∀ n, g.next n r = g.next n c)
include hby
theorem BfsOk.found (hby2 : ∀ b ∈ by_, b < 256) (h : BfsOk g by_ a F i 0) {x : NW} (hx : F[i]? = some x) (he : g.ends x.1 = true) (hno : ∀ (j : Nat) (y : NW), j < i → F[j]? = some y → g.ends y.1 = false) : FirstW g (· = a) x.2 := by
  have key : ∀ u, bytes_ u → LeadsP g (· = a) u → leL x.2 u := fun u hu hul => by
    obtain ⟨n, rfl, hn⟩ := hul
    obtain ⟨v, h1, h2, h3, h4⟩ := leads_less hby hu hn
    obtain ⟨t, h5, h6⟩ := leads_to.1 h3
    rcases h.covers _ rfl h2 h5 with ⟨j, y, hj, hy, rfl, -⟩ | ⟨y, hy, hl⟩
    · rw [hno j y hj hy] at h6; cases h6
    · rw [hx] at hy; cases hy
      exact leL_trans hl (.inr ⟨h1, h4⟩)
  obtain ⟨k1, k2⟩ := h.ok x (List.mem_of_getElem? hx)
  refine ⟨⟨rfl, fun b hb => hby2 b (k1 b hb), ⟨a, rfl, leads_to.2 ⟨_, k2, he⟩⟩, fun u hul hub hl => ?_⟩, fun u hub hl => ?_⟩
  · rcases key u hub hl with h | ⟨-, h⟩
    · omega
    · exact h
  · rcases key u hub hl with h | ⟨h, -⟩ <;> omega
theorem BfsOk.none (h : BfsOk g by_ a F F.length 0) (hno : ∀ y ∈ F, g.ends y.1 = false) : ∀ u, bytes_ u → ¬ LeadsP g (· = a) u := by
  rintro u hu ⟨n, rfl, hn⟩
  obtain ⟨v, h1, h2, h3, h4⟩ := leads_less hby hu hn
  obtain ⟨t, h5, h6⟩ := leads_to.1 h3
  rcases h.covers _ rfl h2 h5 with ⟨j, y, hj, hy, rfl, -⟩ | ⟨y, hy, hl⟩
  · rw [hno y (List.mem_of_getElem? hy)] at h6; cases h6
  · rw [List.getElem?_eq_none (Nat.le_refl _)] at hy; cases hy
end
end Go.Proofs.YthomdogheamfpaaDoor
/- auto of the laws of layer 09. -/
set_option linter.unusedVariables false
set_option linter.unusedSimpArgs false
set_option maxRecDepth 100000
namespace Go.Proofs.YthomdogheamfpaaDoor
open Go.VC
attribute [local irreducible] mRun atRun

end Go.Proofs.YthomdogheamfpaaDoor
/- Cat's and Iter's answers for the texts of at least one byte; two words one of which comes ahead; plain law. -/
set_option linter.unusedVariables false
set_option linter.unusedSimpArgs false
set_option maxRecDepth 100000
namespace Go.VC
end Go.VC
namespace Go.Proofs.YthomdogheamfpaaDoor
open Go.VC
def oneM : AM := madeM [BitVec.allOnes 256] [[1], [1]] [false, true]
attribute [local irreducible] oneM mRun gRun atRun
theorem zeros_least : ∀ (u : List Nat), lexL (List.replicate u.length 0) u
  | [] => lexL_refl _
  | c :: u => by
    show lexL (0 :: List.replicate u.length 0) (c :: u)
    unfold lexL
    rcases Nat.eq_zero_or_pos c with rfl | h
    · exact .inr ⟨rfl, zeros_least u⟩
    · exact .inl h
/-! ### ahead -/
end Go.Proofs.YthomdogheamfpaaDoor

/- speaks and ahead of the laws of layer 9: the walks. -/
set_option linter.unusedVariables false
set_option linter.unusedSimpArgs false
set_option maxRecDepth 100000
namespace Go.Proofs.YthomdogheamfpaaDoor
open Go.VC
attribute [local irreducible] oneM mRun gRun atRun
end Go.Proofs.YthomdogheamfpaaDoor
/- The pairs of louperef07.First: the walk of add. -/
set_option linter.unusedVariables false
set_option linter.unusedSimpArgs false
set_option maxRecDepth 100000
namespace Go.Proofs.YthomdogheamfpaaDoor
open Go.VC
attribute [local irreducible] oneM mRun gRun atRun
/-! ### rows -/
/-- Texts in memory. -/
def tW : Ty (List Nat) where
  size := 1
  rep _ _ cs w := cs = [.string (bA w)]
  len h := by rw [h]; rfl
  frame h _ := h
  mono h _ := h
structure PrsP (vs : List Value) (F : List NW) : Prop where
  len : vs.length = 1026
  nd : (F.map (·.1)).Nodup
end Go.Proofs.YthomdogheamfpaaDoor
/- minim.Table: the walk (under way: begins here). -/
set_option linter.unusedVariables false
set_option linter.unusedSimpArgs false
set_option maxRecDepth 100000
namespace Go.Proofs.YthomdogheamfpaaDoor
open Go.VC Go.Lib
attribute [local irreducible] mRun gRun atRun
theorem bld_z : (Tryd.prog.info? 102).bind (·.zero) = some (.agg #[.pointer none, .slice none 0 0]) := by kernel_rfl
theorem BuSt.old {H0 H : Heap} {b : Nat} {s : ByteArray} {rest : List Pc} (h : BuSt (Old H0) H0 b s rest H) : Agr (Old H0) H0 H := by
  obtain ⟨p, a, cap, -, st⟩ := h
  exact st.old
def txtM (c : BitVec 256) : List Nat := [32] ++ showM c ++ [62]
set_option maxHeartbeats 16000000 in
theorem table7_c {S : Nat → Prop} {H : Heap} {v : Value} {o : Option AM} (hS : ∀ k, S k → k < H.size) (hv : AutoV S H v o) (hco : ∃ ls, CellsOk o ls) (hpow : PowH Tryd.prog H) (hE : EscH H) :
    FnOk Tryd.prog 19 #[v] H fun r H' => Agr (Old H) H H' ∧ ∃ (rows : List (List Nat)) (O : List Nat) (A : AM), A = madeM (cellsM o) (rows.map rowI) (O.map fun (x : Nat) => finM o (x : Int)) ∧ soundB (cellsM o) (rows.map rowI) (O.map fun (x : Nat) => finM o (x : Int)).length = true ∧ InOrder (paO o) O ∧ LeadsC (paO o) O (stepM (some A)) (finM (some A)) ∧ rows.length = O.length ∧ r = .string (bA (tableM (cellsM (some A)) O.length (fun q b => (stepM (some A) (q : Int) b).toNat) fun q => finM (some A) (q : Int))) := by
  refine FnOk.of_vc Tryd.func19 rfl (Tryd.call19 _) ?_
  (conv => whnf); refine VCall.mk (canon_c hS hv hco hpow) ?_
  rintro v1 H1 ⟨ha1, rows, O, hsd, hv1, hin, hld, hrl⟩
  obtain ⟨A, hA⟩ : ∃ A, A = madeM (cellsM o) (rows.map rowI) (O.map fun (x : Nat) => finM o (x : Int)) := ⟨_, rfl⟩
  rw [← hA] at hv1 hld
  have hca : ∃ ls, CellsOk (some A) ls := by
    obtain ⟨ls, h⟩ := cells_ok (cellsM o) (rows.map rowI) (O.map fun (x : Nat) => finM o (x : Int))
    unfold autoOf at h
    rw [if_pos hsd, ← hA] at h
    exact ⟨ls, h⟩
  have st1 := St.nil H1
  have hE1 := hE.agr ha1
  have hpow1 := hpow.agr ha1
  (conv => whnf); refine VCall.mk (cells_o (fun k hk => hk.2) hv1) ?_
  rintro _ H2 ⟨ha2, -, hw2⟩
  obtain ⟨ca, cc, rfl, st2⟩ := st1.got ha2 hw2
  obtain ⟨cs, hcs⟩ : ∃ cs, cs = cellsM (some A) := ⟨_, rfl⟩
  have hcl : cs.length ≤ 256 := by
    obtain ⟨ls, h⟩ := hca
    rw [hcs]
    exact cellsOk_len h
  rw [← hcs] at st2 ⊢
  (conv => whnf); refine VCall.mk (reps7_c (S := Old H2) (fun k hk => hk) (st2.view 0 rfl) hcl) ?_
  rintro _ H3 ⟨ha3, ra, rc, rfl, hw3⟩
  obtain ⟨ra', rc', e3, st3⟩ := st2.got ha3 hw3
  injection e3 with e31 e32 e33
  subst e31; subst e33
  rw [show (bsI cs).length = cs.length by simp [bsI, bsOf]] at st3
  (conv => whnf); refine vmake1 sl98 rfl (by omega) (by omega) (by omega) (by omega) ?_
  intro tb H4 htb hs4 hb4 ha4
  rw [Int.toNat_natCast] at hb4 ⊢
  have st4 := st3.new (T := tW) (n := cs.length) (xs := List.replicate cs.length ([] : List Nat)) htb hs4 hb4 ha4 (reps_of_ones (by simp) fun i u y hu hy => by
    rw [List.getElem?_replicate] at hu hy
    split at hu
    · rename_i hlt
      rw [if_pos hlt] at hy
      cases hu; cases hy; rfl
    · cases hu) (by simp) (by unfold maxLen; omega)
  obtain ⟨ts, hts⟩ : ∃ ts, ts = cs.map txtM := ⟨_, rfl⟩
  have htl : ts.length = cs.length := by rw [hts, List.length_map]
  rw [show List.replicate cs.length ([] : List Nat) = ts.take 0 ++ List.replicate (ts.length - 0) [] by rw [fill_beg, htl]] at st4
  (conv => whnf)
  refine VLoop.mk [24] (fun i : Nat => [.int .i64 (i : Int)]) (fun i H5 => i ≤ cs.length ∧ St H1 H5 [pS tSet 73 ca cs.length cc cs, pS tU8 tByt ra cs.length rc (bsI cs), pS tW 9 (some ⟨tb, 0, none⟩) cs.length cs.length (ts.take i ++ List.replicate (ts.length - i) [])]) (fun i _ => cs.length - i) ?_ ?_
  · (conv => whnf)
    exact ⟨0, rfl, Nat.zero_le _, st4⟩
  · clear st4 st3 st2
    rintro i H5 junk5 ⟨hi, st5⟩
    (conv => whnf); refine VIte.mk (fun hz => ?_) (fun hz => ?_) <;> simp only [decide_eq_true_eq, decide_eq_false_iff_not] at hz
    · obtain ⟨c, hc⟩ := get_some (l := cs) (k := i) (by omega)
      have htc : ts[i]? = some (txtM c) := by rw [hts, List.getElem?_map, hc]; rfl
      have hsl := show_len c
      (conv => whnf); refine ixO (j := i) sl83 st5 0 rfl hc rfl ?_
      rintro b6 o6 c6 hS6 hc6 rfl
      (conv => whnf); refine ldN (cs := setL c) ag73 hc6 trivial ?_
      (conv => whnf); refine valloc (setV 0) (setL 0) rfl rfl ?_
      intro p7 H7 hp7 hs7 hb7 ha7
      have st7 := st5.box hp7 hs7 hb7 ha7
      (conv => whnf); refine stNB (cs := setL c) st7 3 rfl rfl (Nat.le_refl _) rfl fun H8 st8 => ?_
      rw [splice_all (show (setL c).length = (setL 0).length from rfl)] at st8
      (conv => whnf); refine ldN (cs := setL c) ag73 ((st8.blk 3 rfl).cells fun j v hv => by rw [Nat.zero_add]; exact hv) trivial ?_
      (conv => whnf); refine pures (show_p (hE1.agr st8.old)) fun H9 ha9 => ?_
      have st9 := st8.call ha9
      (conv => whnf); refine vcat (cat_sz (u := [32]) (by decide) (Nat.le_trans hsl (by decide))) ?_
      rw [show (⟨#[32]⟩ : ByteArray) = bA [32] from rfl, bA_cat]
      (conv => whnf); refine vcat (cat_sz (v := [62]) (by rw [List.length_append]; simp only [List.length_singleton]; omega) (by decide)) ?_
      rw [show (⟨#[62]⟩ : ByteArray) = bA [62] from rfl, bA_cat]
      (conv => whnf); refine ix sl98 (by omega) (by omega) ?_
      (conv => whnf); refine st1O (j := i) (x := txtM c) st9 2 ct9 rfl rfl (by omega) (by rw [fill_len (by omega)]; omega) rfl (fun H' _ => rfl) fun H10 st10 => ?_
      rw [fill_set htc] at st10
      (conv => whnf); rw [w64 (x := (i : Int) + 1) (by omega) (by omega)]
      exact ⟨rfl, i + 1, by simp, ⟨by omega, st10.pick [0, 1, 2] (by decide)⟩, by omega⟩
    · obtain rfl : i = cs.length := by omega
      rw [← htl, fill_end, htl] at st5
      have ho5 := st5.old
      have hcsv := st5.view 0 rfl
      have hrep := st5.view 1 rfl
      have htxt := st5.view 2 rfl
      have hv5 : AutoV (fun k => H.size ≤ k ∧ k < H1.size) H5 v1 (some A) := hv1.frame (ho5.mono fun k hk => hk.2)
      (conv => whnf); refine valloc (.agg #[.pointer none, .slice none 0 0]) [.pointer none, .slice none 0 0] bld_z rfl ?_
      intro pb H6 hpb hs6 hb6 ha6
      have bs0 : BuSt (Old H5) H5 pb ⟨#[]⟩ [] H6 := ⟨none, none, 0, .inl rfl, ((St.nil H5).box hpb hs6 hb6 ha6).nils tU8 tByt8⟩
      clear st5
      have hup5 : ∀ k, H.size ≤ k ∧ k < H1.size → k < H5.size := fun k hk => old_lt ho5 hk.2
      have hvG : ∀ {G : Heap}, Agr (Old H5) H5 G → AutoV (fun k => H.size ≤ k ∧ k < H1.size) G v1 (some A) := fun h => hv5.frame (h.mono hup5)
      have hpow5 := hpow1.agr ho5
      have hstp := hv5.steps
      have hn1 := hstp.n1
      have hn2 := hstp.n2
      obtain ⟨n, hn⟩ : ∃ n, n = stN (some A) := ⟨_, rfl⟩
      rw [← hn] at hn1 hn2
      (conv => whnf); refine pures (states_p (hvG bs0.old)) fun H7 ha7 => ?_
      have bs7 := bs0.call ha7
      rw [← hn]
      (conv => whnf); refine pures (itoa_p (i := (n : Int)) (hpow5.agr bs7.old) (by omega) (by omega)) fun H8 ha8 => ?_
      have bs8 := bs7.call ha8
      rw [itoS_nat]
      have hdn := dN_len6 hn2
      (conv => whnf); refine vcat (cat_sz (u := [115, 116, 97, 116, 101, 115, 32]) (by decide) (by omega)) ?_
      rw [show (⟨#[115, 116, 97, 116, 101, 115, 32]⟩ : ByteArray) = bA [115, 116, 97, 116, 101, 115, 32] from rfl, bA_cat]
      (conv => whnf); refine vcat (cat_sz (v := [10]) (by simp only [List.length_append, List.length_cons, List.length_nil]; omega) (by decide)) ?_
      rw [show (⟨#[10]⟩ : ByteArray) = bA [10] from rfl, bA_cat]
      have hhl : (headM n).length ≤ 14 := by
        unfold headM
        simp only [List.length_append, List.length_cons, List.length_nil]
        omega
      (conv => whnf); refine vwS (t := bA (headM n)) bs8 (by rw [bsz]; show 0 + _ ≤ _; omega) fun H9 bs9 => ?_
      have bs9' : BuSt (Old H5) H5 pb (bA (headM n ++ linesM cs (fun q b => (stepM (some A) (q : Int) b).toNat) (fun q => finM (some A) (q : Int)) 0)) [] H9 := by
        have e : (⟨#[]⟩ : ByteArray) ++ bA (headM n) = bA (headM n ++ linesM cs (fun q b => (stepM (some A) (q : Int) b).toNat) (fun q => finM (some A) (q : Int)) 0) := by
          rw [show (⟨#[]⟩ : ByteArray) = bA [] from rfl, bA_cat]
          show bA _ = bA (headM n ++ [])
          rw [List.append_nil]; rfl
        rw [← e]
        exact bs9
      clear bs9 bs8 bs7 bs0
      obtain ⟨stf, hstf⟩ : ∃ f : Nat → Nat → Nat, f = fun (q : Nat) b => (stepM (some A) (q : Int) b).toNat := ⟨_, rfl⟩
      obtain ⟨fif, hfif⟩ : ∃ f : Nat → Bool, f = fun (q : Nat) => finM (some A) (q : Int) := ⟨_, rfl⟩
      rw [← hstf, ← hfif] at bs9'
      (conv => whnf); refine pures (states_p (hvG bs9'.old)) fun H10 ha10 => ?_
      have bs10 := bs9'.call ha10
      rw [← hn]
      have hsr : ∀ q, q < n → ∀ c ∈ cs, stf q (nextM c 0).1 < 65536 := fun q hq c hc => by
        have h1 := hstp.step (q : Int) (nextM c 0).1 ⟨by omega, by rw [← hn]; omega⟩ (nextM_lt c 0)
        rw [hstf]
        have := h1.2
        rw [← hn] at this
        show (stepM (some A) (q : Int) (nextM c 0).1).toNat < 65536
        have := h1.1
        omega
      (conv => whnf)
      refine VLoop.mk [45] (fun i : Nat => [.int .i64 (i : Int)]) (fun i G => i ≤ n ∧ BuSt (Old H5) H5 pb (bA (headM n ++ linesM cs stf fif i)) [] G) (fun i _ => n - i) ?_ ?_
      · (conv => whnf)
        exact ⟨0, rfl, Nat.zero_le _, bs10⟩
      · clear bs10 bs9'
        rintro q H11 junk11 ⟨hq, bs11⟩
        (conv => whnf); refine VIte.mk (fun hz2 => ?_) (fun hz2 => ?_) <;> simp only [decide_eq_true_eq, decide_eq_false_iff_not] at hz2
        · have hq8 : q < n := by omega
          have hll := lines_len (fi := fif) hcl (n := q) (by omega) fun i hi => hsr i (by omega)
          have hd5 := dN_len5 (u := q) (by omega)
          have hwl : (headM n ++ linesM cs stf fif q).length ≤ 50000000000 := by
            rw [List.length_append]
            have : q * 616199 ≤ 65536 * 616199 := Nat.mul_le_mul_right _ (by omega)
            omega
          obtain ⟨w0, hw0⟩ : ∃ w0, w0 = headM n ++ linesM cs stf fif q := ⟨_, rfl⟩
          rw [← hw0] at bs11 hwl
          (conv => whnf); refine pures (itoa_p (i := (q : Int)) (hpow5.agr bs11.old) (by omega) (by omega)) fun H12 ha12 => ?_
          have bs12 := bs11.call ha12
          rw [itoS_nat]
          (conv => whnf); refine vwS (t := bA (dN q)) bs12 (by rw [bsz, bsz]; omega) fun H13 bs13 => ?_
          rw [bA_cat] at bs13
          have hsw : (if fif q then [42] else [] : List Nat).length ≤ 1 := by split <;> decide
          (conv => whnf)
          refine VSeq.cut [] (fun _ : Unit => []) (fun _ G => BuSt (Old H5) H5 pb (bA (w0 ++ dN q ++ (if fif q then [42] else []))) [] G) ?_ ?_
          · (conv => whnf); refine pures (final_p (hvG bs13.old)) fun H14 ha14 => ?_
            have bs14 := bs13.call ha14
            rw [show finM (some A) (q : Int) = fif q by rw [hfif]]
            cases hfq : fif q with
            | true =>
              (conv => whnf); refine vwB (c := 42) (by decide) bs14 (by rw [bsz, List.length_append]; omega) fun H15 bs15 => ?_
              rw [bA_cat] at bs15
              (conv => whnf)
              exact ⟨rfl, (), rfl, bs15⟩
            | false =>
              (conv => whnf)
              exact ⟨rfl, (), rfl, by rw [if_neg (by decide), List.append_nil]; exact bs14⟩
          · rintro ⟨⟩ H15 junk15 bs15
            obtain ⟨w1, hw1⟩ : ∃ w1, w1 = w0 ++ dN q ++ (if fif q then [42] else []) := ⟨_, rfl⟩
            have hw1l : w1.length ≤ 50000000010 := by rw [hw1]; simp only [List.length_append]; omega
            rw [← hw1] at bs15
            (conv => whnf)
            refine VLoop.mk [57] (fun k : Nat => [.int .i64 (k : Int)]) (fun k G => k ≤ cs.length ∧ BuSt (Old H5) H5 pb (bA (w1 ++ segsM stf q (cs.take k))) [] G) (fun k _ => cs.length - k) ?_ ?_
            · (conv => whnf)
              exact ⟨0, rfl, Nat.zero_le _, by rw [show segsM stf q (cs.take 0) = [] from rfl, List.append_nil]; exact bs15⟩
            · clear bs15
              rintro k H16 junk16 ⟨hk, bs16⟩
              have hsl := segs_len (st := stf) (i := q) (l := cs.take k) fun c hc => hsr q hq8 c (List.mem_of_mem_take hc)
              have htk : (cs.take k).length ≤ 256 := by rw [List.length_take]; omega
              have hsl2 : (segsM stf q (cs.take k)).length ≤ 616192 := Nat.le_trans hsl (Nat.le_trans (Nat.mul_le_mul_right _ htk) (by decide))
              (conv => whnf); refine VIte.mk (fun hz3 => ?_) (fun hz3 => ?_) <;> simp only [decide_eq_true_eq, decide_eq_false_iff_not] at hz3
              · obtain ⟨c, hc⟩ := get_some (l := cs) (k := k) (by omega)
                have hcm := List.mem_of_getElem? hc
                have hb8 := nextM_lt c 0
                have hsr1 := hsr q hq8 c hcm
                have hbg : (bsI cs)[k]? = some ((nextM c 0).1 : Int) := by simp [bsI, bsOf, hc]
                have htg : ts[k]? = some (txtM c) := by rw [hts, List.getElem?_map, hc]; rfl
                have hsl3 := show_len c
                (conv => whnf); refine ixrn (i := k) sl85 (hrep.frame (bs16.old.mono fun j hj => hj)) (by simp [bsI, bsOf]) hbg rfl ?_
                rintro b17 o17 c17 hS17 hc17 ⟨rfl, -⟩
                (conv => whnf); refine ld1 ct5 hc17.one trivial ?_
                have hin16 : ∀ j, Old H5 j → Old H16 j := fun j hj => old_lt bs16.old hj
                (conv => whnf); refine VDraw.heldZ (Old H16) [10] (sq [0,1,2,3,4,5,6] (.f 7 (.f 8 (sq [9] (.f 10 .e))))) rfl (by kernel_rfl) ?_
                (conv => whnf); refine ixrn (i := k) sl98 (htxt.frame (bs16.old.mono fun j hj => hj)) htl.symm htg rfl ?_
                rintro b18 o18 c18 hS18 hc18 rfl
                (conv => whnf); refine ld1 (v := .string (bA (txtM c))) ct9 (hc18 0 _ rfl) (hin16 _ hS18) ?_
                (conv => whnf); refine pures (step_p (fun j hj => old_lt bs16.old (hup5 j hj)) (hvG bs16.old) hb8) fun H17 ha17 => ?_
                have bs17 := bs16.call ha17
                refine ⟨ha17, ?_⟩
                have hse : stepM (some A) (q : Int) (nextM c 0).1 = ((stf q (nextM c 0).1 : Nat) : Int) := by
                  have h1 := (hstp.step (q : Int) (nextM c 0).1 ⟨by omega, by rw [← hn]; omega⟩ hb8).1
                  rw [hstf]
                  show _ = (((stepM (some A) (q : Int) (nextM c 0).1).toNat : Nat) : Int)
                  omega
                rw [hse]
                (conv => whnf); refine pures (itoa_p (hpow5.agr bs17.old) (by omega) (by omega)) fun H18 ha18 => ?_
                have bs18 := bs17.call ha18
                refine ⟨ha17.trans (ha18.mono fun j hj => old_lt ha17 hj), ?_⟩
                rw [itoS_nat]
                have hd6 := dN_len5 hsr1
                have htl2 : (txtM c).length ≤ 2402 := by unfold txtM; simp only [List.length_append, List.length_singleton]; omega
                (conv => whnf); refine vcat (cat_sz (by omega) (by omega)) ?_
                rw [bA_cat]
                (conv => whnf); refine vwS (t := bA (txtM c ++ dN (stf q (nextM c 0).1))) bs18 (by rw [bsz, bsz, List.length_append, List.length_append]; omega) fun H19 bs19 => ?_
                rw [bA_cat] at bs19
                (conv => whnf); rw [w64 (x := (k : Int) + 1) (by omega) (by omega)]
                refine ⟨rfl, k + 1, by simp, ⟨by omega, ?_⟩, by omega⟩
                rw [take_succ_snoc hc, segsM_snoc, ← List.append_assoc]
                exact bs19
              · obtain rfl : k = cs.length := by omega
                rw [List.take_length] at bs16 hsl2
                (conv => whnf); refine vwB (c := 10) (by decide) bs16 (by rw [bsz, List.length_append]; omega) fun H17 bs17 => ?_
                rw [bA_cat] at bs17
                (conv => whnf); rw [w64 (x := (q : Int) + 1) (by omega) (by omega)]
                refine ⟨rfl, q + 1, by simp, ⟨by omega, ?_⟩, by omega⟩
                have e : w1 ++ segsM stf q cs ++ [10] = headM n ++ linesM cs stf fif (q + 1) := by
                  rw [hw1, hw0, linesM_succ]
                  unfold lineM
                  simp
                rw [← e]
                exact bs17
        · obtain rfl : q = n := by omega
          (conv => whnf); refine vStr bs11 fun H12 ha12 => ?_
          (conv => whnf)
          refine ⟨ha1.trans ((ho5.mono fun k hk => old_lt ha1 hk).trans (ha12.mono fun k hk => old_lt ho5 (old_lt ha1 hk))), rows, O, A, hA, hsd, hin, hld, hrl, ?_⟩
          have hnO : q = O.length := by
            rw [hn, ← hrl, hA]
            show (madeM (cellsM o) (rows.map rowI) (O.map fun (x : Nat) => finM o (x : Int))).next.length = _
            unfold madeM
            simp
          rw [hnO, hstf, hfif, ← hcs]
          rfl
end Go.Proofs.YthomdogheamfpaaDoor
/- A table's text is read in just one way: plain. -/
set_option linter.unusedVariables false
set_option linter.unusedSimpArgs false
set_option maxRecDepth 100000
namespace Go.Proofs.YthomdogheamfpaaDoor
open Go.VC Go.Lib
/-! ### one byte's text is read in one way -/
/-! ### the inside of a set -/
theorem flat_congr {α β : Type} {f g : α → List β} : ∀ {l : List α}, (∀ x ∈ l, f x = g x) → l.flatMap f = l.flatMap g
  | [], _ => rfl
  | x :: l, h => by rw [List.flatMap_cons, List.flatMap_cons, h x (by simp), flat_congr fun y hy => h y (by simp [hy])]
/-! ### a set -/
/-! ### numbers -/
/-! ### lines -/
theorem table_congr {l : List (BitVec 256)} {n : Nat} {st st' : Nat → Nat → Nat} {fi fi' : Nat → Bool} (hst : ∀ i b, i < n → b < 256 → st i b = st' i b) (hfi : ∀ i, i < n → fi i = fi' i) : tableM l n st fi = tableM l n st' fi' := by
  unfold tableM linesM
  congr 1
  refine flat_congr fun i hi => ?_
  have hi := List.mem_range.1 hi
  unfold lineM segsM
  rw [hfi i hi]
  congr 2
  exact flat_congr fun c _ => by unfold segM; rw [hst i _ hi (nextM_lt c 0)]
end Go.Proofs.YthomdogheamfpaaDoor
/- minim.spell: the walk. -/
set_option linter.unusedVariables false
set_option linter.unusedSimpArgs false
set_option maxRecDepth 100000
namespace Go.Proofs.YthomdogheamfpaaDoor
open Go.VC
attribute [local irreducible] mRun gRun atRun
/-! ### pairs and ways -/
def pkL (z : Int × Int) : List Value := [.int .i64 z.1, .int .i64 z.2]
def pkV (z : Int × Int) : Value := .agg (pkL z).toArray
def PkOk (z : Int × Int) : Prop := inK .i64 z.1 ∧ inK .i64 z.2
theorem pkV_inj {a b : Int × Int} (h : pkV a = pkV b) : a = b := by
  obtain ⟨x, y⟩ := a
  obtain ⟨x', y'⟩ := b
  simp only [pkV, pkL, Value.agg.injEq, Array.mk.injEq, List.cons.injEq, Value.int.injEq, true_and, and_true] at h
  obtain ⟨h1, h2⟩ := h
  rw [h1, h2]
theorem pk_wf {x : Int} (h : inK .i64 x) : (Lit.int .i64 x).wf = true := by
  unfold Lit.wf
  simp only [Bool.and_eq_true, decide_eq_true_eq]
  exact h
theorem pk_lits (m : Nat) {n : Int × Int} (h : PkOk n) : Tryd.prog.keyLits (m + 2) 179 (pkL n) = some [.int .i64 n.1, .int .i64 n.2] := by
  have c1 : Tryd.prog.cellsOf 179 = 2 := by kernel_rfl
  have c2 : Tryd.prog.cellsOf 3 = 1 := by kernel_rfl
  simp [Program.keyLits, Tryd.underlying179, Tryd.underlying3, c1, c2, pkL, pk_wf h.1, pk_wf h.2]
theorem pk_key {n : Int × Int} (h : PkOk n) : ∃ l, keyOf Tryd.prog 179 (pkV n) = some l := by
  have hk : Tryd.prog.keyType 179 = true := by kernel_rfl
  have c1 : Tryd.prog.cellsOf 179 = 2 := by kernel_rfl
  have hf : (pkV n).formed Tryd.prog 179 = true := by simp [pkV, pkL, Value.formed, Tryd.underlying179, c1]
  obtain ⟨m, hm⟩ : ∃ m, Tryd.prog.types.size + 1 = m + 2 := ⟨Tryd.prog.types.size - 1, by
    have : decide (1 ≤ Tryd.prog.types.size) = true := by kernel_rfl
    have := of_decide_eq_true this
    omega⟩
  refine ⟨.string (keyBytes [.int .i64 n.1, .int .i64 n.2]), ?_⟩
  unfold keyOf
  simp only [Tryd.underlying179, hk, hf, Bool.and_self, if_true]
  rw [hm, show (pkV n).cells.toList = pkL n from rfl, pk_lits m h]
  rfl
theorem keyPk : KeyW Tryd.prog 179 PkOk pkV :=
  KeyW.ofLaw (deep_law (m := 2) (by decide) (by kernel_rfl) (by kernel_rfl) (by simp [Tryd.underlying179])) (fun a b h => pkV_inj h) (fun a h => pk_key h)
def wyL (w : Int × Nat) : List Value := [.int .i64 w.1, .int .u8 (w.2 : Int)]
def wyV (w : Int × Nat) : Value := .agg (wyL w).toArray
theorem mapPk : MapTW Tryd.prog 182 179 181 (wyV (0, 0)) := ⟨rfl, rfl⟩
/-- Pairs of states in memory. -/
def tPk : Ty Nd where
  size := 2
  rep _ _ cs n := n.s = 0 ∧ cs = pkL (n.x, n.y)
  len h := by rw [h.2]; rfl
  frame h _ := h
  mono h _ := h
/-- What the map of the seen holds. -/
def seenW (F : List NW) (W : List (Int × Nat)) (z : Int × Int) : Option Value := (F.findIdx? fun x => decide ((x.1.x, x.1.y) = z)).bind fun i => (W[i]?).map wyV
structure Links (F : List NW) (W : List (Int × Nat)) : Prop where
  len : W.length = F.length
  nd : (F.map fun x => (x.1.x, x.1.y)).Nodup
  s0 : ∀ x ∈ F, x.1.s = 0
  zero : W[0]? = some (-1, 0)
  link : ∀ (i : Nat) (y : NW), F[i]? = some y → (i = 0 ∧ y.2 = []) ∨ ∃ (j c : Nat) (x : NW), W[i]? = some ((j : Int), c) ∧ j < i ∧ F[j]? = some x ∧ y.2 = x.2 ++ [c] ∧ c < 256
theorem seen_find {F : List NW} {W : List (Int × Nat)} (hn : (F.map fun x => (x.1.x, x.1.y)).Nodup) {i : Nat} {y : NW} (h : F[i]? = some y) : F.findIdx? (fun x => decide ((x.1.x, x.1.y) = (y.1.x, y.1.y))) = some i := by
  rw [List.findIdx?_eq_some_iff_getElem]
  obtain ⟨hi, e⟩ := List.getElem?_eq_some_iff.1 h
  refine ⟨hi, by rw [e]; exact decide_eq_true rfl, fun j hj => ?_⟩
  have := (List.pairwise_iff_getElem.1 hn) j i (by rw [List.length_map]; omega) (by rw [List.length_map]; exact hi) hj
  rw [List.getElem_map, List.getElem_map, e] at this
  simpa using this
theorem Links.seen {F : List NW} {W : List (Int × Nat)} (h : Links F W) {i : Nat} {y : NW} {w : Int × Nat} (hy : F[i]? = some y) (hw : W[i]? = some w) : seenW F W (y.1.x, y.1.y) = some (wyV w) := by
  unfold seenW
  rw [seen_find (W := W) h.nd hy]
  simp [hw]
/-! ### turning round -/
def turnL (l : List Nat) (i : Nat) : List Nat := (List.range l.length).map fun p => if p < i ∨ l.length ≤ p + i then l.getD (l.length - 1 - p) 0 else l.getD p 0
theorem turnL_len (l : List Nat) (i : Nat) : (turnL l i).length = l.length := by simp [turnL]
theorem turnL_get {l : List Nat} {i p : Nat} (h : p < l.length) : (turnL l i)[p]? = some (if p < i ∨ l.length ≤ p + i then l.getD (l.length - 1 - p) 0 else l.getD p 0) := by
  unfold turnL
  rw [List.getElem?_map, List.getElem?_range h]
  rfl
theorem turnL_zero (l : List Nat) : turnL l 0 = l := by
  apply List.ext_getElem?
  intro p
  by_cases hp : p < l.length
  · rw [turnL_get hp, if_neg (by omega), List.getD_eq_getElem?_getD, List.getElem?_eq_getElem hp]; rfl
  · rw [List.getElem?_eq_none (by rw [turnL_len]; omega), List.getElem?_eq_none (by omega)]
theorem turnL_end {l : List Nat} {i : Nat} (h : l.length ≤ i + i + 1) : turnL l i = l.reverse := by
  apply List.ext_getElem?
  intro p
  by_cases hp : p < l.length
  · rw [turnL_get hp, List.getElem?_reverse hp, List.getElem?_eq_getElem (by omega)]
    by_cases h1 : p < i ∨ l.length ≤ p + i
    · rw [if_pos h1, List.getD_eq_getElem?_getD, List.getElem?_eq_getElem (by omega)]; rfl
    · rw [if_neg h1, List.getD_eq_getElem?_getD, List.getElem?_eq_getElem hp]
      have : l.length - 1 - p = p := by omega
      simp only [this, Option.getD_some]
  · rw [List.getElem?_eq_none (by rw [turnL_len]; omega), List.getElem?_eq_none (by rw [List.length_reverse]; omega)]
theorem turnL_step {l : List Nat} {i : Nat} (h : i + i + 1 < l.length) : ((turnL l i).set i (l.getD (l.length - 1 - i) 0)).set (l.length - 1 - i) (l.getD i 0) = turnL l (i + 1) := by
  apply List.ext_getElem?
  intro p
  by_cases hp : p < l.length
  · rw [turnL_get hp, List.getElem?_set, List.length_set, turnL_len]
    by_cases h1 : l.length - 1 - i = p
    · subst h1
      rw [if_pos rfl, if_pos hp, if_pos (.inr (by omega)), show l.length - 1 - (l.length - 1 - i) = i by omega]
    · rw [if_neg h1, List.getElem?_set, turnL_len]
      by_cases h2 : i = p
      · subst h2
        rw [if_pos rfl, if_pos hp, if_pos (.inl (by omega))]
      · rw [if_neg h2, turnL_get hp]
        by_cases h3 : p < i ∨ l.length ≤ p + i
        · rw [if_pos h3, if_pos (by omega)]
        · rw [if_neg h3, if_neg (by omega)]
  · rw [List.getElem?_eq_none (by rw [List.length_set, List.length_set, turnL_len]; omega), List.getElem?_eq_none (by rw [turnL_len]; omega)]
/-- As st1O, with what it leaves alone. -/
theorem st1OA {α : Type} {T : Ty α} {S : Nat → Prop} {B : Nat → Prop} {H0 H : Heap} {ps : List Pc} {n cap : Nat} {xs : List α} {P : Program} {t b o j : Nat} {v : Value} {x : α} {K : Heap → Prop} (st : StB B H0 H ps) (i : Nat) (ht : CellT P t) (hp : ps[i]? = some (pN T S t (some ⟨b, 0, none⟩) n cap xs)) (hsz : T.size = 1) (ho : o = j) (hj : j < xs.length)
    (hv : v.oneCell' = true) (hr : ∀ H', Agr S H H' → T.rep S H' [v] x) (k : ∀ H', StB B H0 H' (ps.set i (pN T S t (some ⟨b, 0, none⟩) n cap (xs.set j x))) → Agr (fun k => k < H.size ∧ k ≠ b) H H' → H.size ≤ H'.size → K H') : VEffU P (Instr.storeAt t (.pointer (some ⟨b, o, none⟩)) v) H K := by
  subst ho
  have hok := st.at_ i hp
  obtain ⟨-, -, -, l, hblk, hlen, -, hput⟩ := hok.1.placeS hj
  rw [hsz, Nat.mul_one] at hlen hput
  refine VC.st1 ht hblk (by omega) hv ?_
  intro H' hb' ha' hs'
  have hSH : Agr S H H' := ha'.mono fun k hk hkb => hok.2 k hk (by subst hkb; exact ⟨0, n, cap, rfl⟩)
  have hown := hput H' [v] x (by rw [splice_one (by omega)]; exact hb') hSH (hr H' hSH)
  exact k H' (st.upd i hp (ha'.mono fun k hk hkb => hk.2 (.inl (by subst hkb; exact ⟨0, n, cap, rfl⟩))) _ ⟨hown, hok.2⟩ (fun k hk => .inl hk) (fun k hk => by rw [hs']; exact (st.in_ i hp hk).2) (by omega)) (ha'.mono fun k hk => hk.2) (by omega)
theorem way_z7 : (Tryd.prog.info? 181).bind (·.zero) = some (wyV (0, 0)) := by kernel_rfl
set_option maxHeartbeats 16000000 in
theorem spell_p {H : Heap} {oa : Option Addr} {oc mb i : Nat} {F : List NW} {W : List (Int × Nat)} {y : NW} (ho : SlD tPk (Old H) H oa oc (F.map (·.1))) (hm : MapW PkOk pkV H mb (seenW F W)) (hL : Links F W) (hF : F.length ≤ 4294967296) (hr : ∀ x ∈ F, PkOk (x.1.x, x.1.y)) (hy : F[i]? = some y) :
    Pure Tryd.prog 104 #[.slice oa F.length oc, .map (some mb), .int .i64 (i : Int)] H (.string (bA y.2)) := by
  have hmb : mb < H.size := by
    obtain ⟨⟨es, clock, h1, -⟩, -⟩ := hm
    exact (Array.getElem?_eq_some_iff.1 h1).1
  have hgF : ∀ {k : Nat} {x : NW}, F[k]? = some x → (F.map (·.1))[k]? = some x.1 := fun h => by rw [List.getElem?_map, h]; rfl
  have hmW : ∀ {G : Heap}, Agr (Old H) H G → MapW PkOk pkV G mb (seenW F W) := fun h => by
    obtain ⟨h1, h2⟩ := hm
    exact ⟨h1.agr h hmb, h2⟩
  refine FnOk.of_vc Tryd.func104 rfl (Tryd.call104 _) ?_
  obtain ⟨w, hw⟩ := get_some (l := W) (k := i) (by rw [hL.len]; exact (List.getElem?_eq_some_iff.1 hy).1)
  (conv => whnf); refine ixrn (i := i) sl183 ho (List.length_map _).symm (hgF hy) rfl ?_
  rintro b1 o1 c1 hS1 hc1 ⟨-, rfl⟩
  (conv => whnf); refine ldN (cs := pkL (y.1.x, y.1.y)) ag179 hc1 trivial ?_
  (conv => whnf); refine mlookW (a := (y.1.x, y.1.y)) mapPk keyPk (hr y (List.mem_of_getElem? hy)) hm trivial ?_
  rw [hL.seen hy hw]
  (conv => whnf); refine valloc (wyV (0, 0)) (wyL (0, 0)) way_z7 rfl ?_
  intro p2 H2 hp2 hs2 hb2 ha2
  have st2 := (St.nil H).box hp2 hs2 hb2 ha2
  (conv => whnf); refine stNB (cs := wyL w) st2 0 rfl rfl (Nat.le_refl _) rfl fun H3 st3 => ?_
  rw [splice_all (show (wyL w).length = (wyL (0, 0)).length from rfl)] at st3
  have st4 := st3.nils tU8 tByt
  (conv => whnf)
  refine VLoop.mk [7, 8] (fun x : Nat × List Nat × Option Addr × Nat × Nat => match x with | (k, bk, a, c, pw) => [.slice a bk.length c, .pointer (some ⟨pw, 0, none⟩)])
    (fun x H4 => match x with | (k, bk, a, c, pw) => (∃ z wz, F[k]? = some z ∧ W[k]? = some wz ∧ y.2 = z.2 ++ bk.reverse ∧ (∀ b ∈ bk, b < 256) ∧ bk.length + k ≤ i ∧ (bk = [] → a = none) ∧ St H H4 [pB 181 pw (wyL wz), pS tU8 tByt a bk.length c (bk.map fun (x : Nat) => (x : Int))])) (fun x _ => x.1) ?_ ?_
  · (conv => whnf)
    exact ⟨(i, [], none, 0, p2), rfl, y, w, hy, hw, by simp, (fun b hb => by cases hb), by simp, fun _ => rfl, st4⟩
  · clear st4 st3 st2
    rintro ⟨k, bk, a, c, pw⟩ H4 junk4 ⟨z, wz, hz, hwz, heq, hb8, hbl, hnil, st4⟩
    have hil := (List.getElem?_eq_some_iff.1 hy).1
    have hbI : (bk.map fun (x : Nat) => (x : Int)).length = bk.length := List.length_map _
    (conv => whnf); refine VC.fa fl181_0 ?_
    (conv => whnf); refine ld1 (v := .int .i64 wz.1) ct3 (by rw [(st4.blk 0 rfl).cell]; rfl) trivial ?_
    rcases hL.link k z hz with ⟨rfl, hz0⟩ | ⟨j, cb, x, hwk, hjk, hxj, hzx, hcb⟩
    · rw [hL.zero] at hwz
      injection hwz with hwz
      subst hwz
      have hyb : y.2 = bk.reverse := by rw [heq, hz0]; simp
      (conv => whnf); rw [w64 (x := (bk.length : Int) - 1) (by omega) (by omega)]
      (conv => whnf)
      refine VLoop.mk [9, 10] (fun i : Nat => [.int .i64 (i : Int), .int .i64 ((bk.length : Int) - 1 - (i : Int))]) (fun i H5 => (i = 0 ∨ i + i ≤ bk.length) ∧ St H H5 [pB 181 pw (wyL (-1, 0)), pS tU8 tByt a bk.length c ((turnL bk i).map fun (x : Nat) => (x : Int))]) (fun i _ => bk.length - i) ?_ ?_
      · (conv => whnf)
        refine ⟨0, by simp, .inl rfl, ?_⟩
        rw [turnL_zero]
        exact st4
      · clear st4
        rintro i2 H5 junk5 ⟨hi2, st5⟩
        have hget : ∀ p, p < bk.length → ((turnL bk i2).map fun (x : Nat) => (x : Int))[p]? = some (((if p < i2 ∨ bk.length ≤ p + i2 then bk.getD (bk.length - 1 - p) 0 else bk.getD p 0 : Nat)) : Int) := fun p hp => by rw [List.getElem?_map, turnL_get hp]; rfl
        have hlen : ((turnL bk i2).map fun (x : Nat) => (x : Int)).length = bk.length := by rw [List.length_map, turnL_len]
        have hgd : ∀ p, bk.getD p 0 < 256 := fun p => by
          rw [List.getD_eq_getElem?_getD]
          cases h : bk[p]? with
          | none => decide
          | some b => exact hb8 b (List.mem_of_getElem? h)
        (conv => whnf); refine VIte.mk (fun hz2 => ?_) (fun hz2 => ?_) <;> simp only [decide_eq_true_eq, decide_eq_false_iff_not] at hz2
        · have hlt : i2 + i2 + 1 < bk.length := by omega
          obtain ⟨ab, rfl⟩ := st5.adr 1 rfl (by rw [hlen]; omega)
          have hj : ((bk.length : Int) - 1 - (i2 : Int)) = ((bk.length - 1 - i2 : Nat) : Int) := by omega
          have hx1 : (if bk.length - 1 - i2 < i2 ∨ bk.length ≤ bk.length - 1 - i2 + i2 then bk.getD (bk.length - 1 - (bk.length - 1 - i2)) 0 else bk.getD (bk.length - 1 - i2) 0) = bk.getD (bk.length - 1 - i2) 0 := if_neg (by omega)
          have hx2 : (if i2 < i2 ∨ bk.length ≤ i2 + i2 then bk.getD (bk.length - 1 - i2) 0 else bk.getD i2 0) = bk.getD i2 0 := if_neg (by omega)
          have hg1 := hget (bk.length - 1 - i2) (by omega)
          have hg2 := hget i2 (by omega)
          rw [hx1] at hg1
          rw [hx2] at hg2
          have e1 : ((((turnL bk i2).map fun (x : Nat) => (x : Int)).set i2 ((bk.getD (bk.length - 1 - i2) 0 : Nat) : Int)).set (bk.length - 1 - i2) ((bk.getD i2 0 : Nat) : Int)) = (turnL bk (i2 + 1)).map fun (x : Nat) => (x : Int) := by
            rw [← turnL_step hlt, List.map_set, List.map_set]
          have gg0 : Agr (fun k => k < H5.size ∧ k ≠ ab) H5 H5 := Agr.refl _ _
          (conv => whnf); refine VDraw.heldZ (fun k => k < H5.size ∧ k ≠ ab) [15] (sq [0,1,2,3,4,5,6,8,9,10] (.b 7 (.f 11 (sq [12] (.f 13 (sq [14] (.f 15 .e))))) 11 (.f 7 (sq [12] (.f 13 (sq [14] (.f 15 .e))))))) rfl (by kernel_rfl) ?_
          rw [hj]
          (conv => whnf); refine ixO (j := bk.length - 1 - i2) sl85 st5 1 rfl hg1 rfl ?_
          rintro b6 o6 c6 hS6 hc6 ⟨rfl, -⟩
          (conv => whnf); refine ixO (j := i2) sl85 st5 1 rfl hg2 rfl ?_
          rintro b7 o7 c7 hS7 hc7 ⟨rfl, -⟩
          (conv => whnf); refine ⟨?_, ?_⟩
          · refine ld1 ct5 hc6.one trivial ?_
            refine ⟨gg0, ?_⟩
            (conv => whnf); refine ld1 ct5 hc7.one trivial ?_
            refine ⟨gg0, ?_⟩
            (conv => whnf); refine ix sl85 (by omega) (by omega) ?_
            (conv => whnf); refine st1OA (j := i2) (x := ((bk.getD (bk.length - 1 - i2) 0 : Nat) : Int)) st5 1 ct5 rfl rfl (by omega) (by rw [hlen]; omega) rfl (fun H' _ => ⟨rfl, inU8 (hgd _)⟩) fun H8 st8 ha8 hs8 => ?_
            refine ⟨ha8, ?_⟩
            (conv => whnf); refine ix sl85 (by omega) (by omega) ?_
            (conv => whnf); refine st1O (j := bk.length - 1 - i2) (x := ((bk.getD i2 0 : Nat) : Int)) st8 1 ct5 rfl rfl (by omega) (by rw [List.length_set, hlen]; omega) rfl (fun H' _ => ⟨rfl, inU8 (hgd _)⟩) fun H9 st9 => ?_
            (conv => whnf); rw [w64 (x := (i2 : Int) + 1) (by omega) (by omega)]
            (conv => whnf); rw [w64 (x := ((bk.length - 1 - i2 : Nat) : Int) - 1) (by omega) (by omega)]
            refine ⟨rfl, i2 + 1, ?_, ⟨by omega, ?_⟩, by omega⟩
            · simp only [List.cons.injEq, Value.int.injEq, true_and, and_true]
              exact ⟨by omega, by omega⟩
            · rw [← e1]
              exact st9
          · refine ld1 ct5 hc7.one trivial ?_
            refine ⟨gg0, ?_⟩
            (conv => whnf); refine ld1 ct5 hc6.one trivial ?_
            refine ⟨gg0, ?_⟩
            (conv => whnf); refine ix sl85 (by omega) (by omega) ?_
            (conv => whnf); refine st1OA (j := i2) (x := ((bk.getD (bk.length - 1 - i2) 0 : Nat) : Int)) st5 1 ct5 rfl rfl (by omega) (by rw [hlen]; omega) rfl (fun H' _ => ⟨rfl, inU8 (hgd _)⟩) fun H8 st8 ha8 hs8 => ?_
            refine ⟨ha8, ?_⟩
            (conv => whnf); refine ix sl85 (by omega) (by omega) ?_
            (conv => whnf); refine st1O (j := bk.length - 1 - i2) (x := ((bk.getD i2 0 : Nat) : Int)) st8 1 ct5 rfl rfl (by omega) (by rw [List.length_set, hlen]; omega) rfl (fun H' _ => ⟨rfl, inU8 (hgd _)⟩) fun H9 st9 => ?_
            (conv => whnf); rw [w64 (x := (i2 : Int) + 1) (by omega) (by omega)]
            (conv => whnf); rw [w64 (x := ((bk.length - 1 - i2 : Nat) : Int) - 1) (by omega) (by omega)]
            refine ⟨rfl, i2 + 1, ?_, ⟨by omega, ?_⟩, by omega⟩
            · simp only [List.cons.injEq, Value.int.injEq, true_and, and_true]
              exact ⟨by omega, by omega⟩
            · rw [← e1]
              exact st9
        · have hend : turnL bk i2 = bk.reverse := turnL_end (by omega)
          rw [hend] at st5
          rw [hyb]
          by_cases hb0 : bk = []
          · subst hb0
            obtain rfl := hnil rfl
            (conv => whnf); refine vb2s0 (e := tByt) rfl rfl rfl ?_
            (conv => whnf)
            exact ⟨rfl, st5.old⟩
          · have u5 : St H H5 [pS tU8 tByt a bk.length c (bk.reverse.map fun (x : Nat) => (x : Int))] := st5.pick [1] (by decide)
            (conv => whnf); refine nm_str u5 (by simpa using hb0) rfl rfl rfl ?_
            (conv => whnf)
            exact ⟨rfl, st5.old⟩
    · rw [hwk] at hwz
      injection hwz with hwz
      subst hwz
      obtain ⟨wj, hwj⟩ := get_some (l := W) (k := j) (by rw [hL.len]; exact (List.getElem?_eq_some_iff.1 hxj).1)
      (conv => whnf); refine VC.fa fl181_1 ?_
      (conv => whnf); refine ld1 (v := .int .u8 (cb : Int)) ct5 (by rw [(st4.blk 0 rfl).cell]; rfl) trivial ?_
      (conv => whnf); refine vbuild1 sl85 [.int .u8 (cb : Int)] rfl rfl (by decide) (by decide) ?_
      intro q5 H5 hq5 hs5 hb5 ha5
      (conv => whnf); refine appL5 (ys := [(cb : Int)]) (st4.skip hq5 ha5) 1 sl85 rfl (hb5.cells (o := 0) (cs := [.int .u8 (cb : Int)]) fun j v hv => by rw [Nat.zero_add]; exact hv) (Ty.reps_one ⟨rfl, inU8 hcb⟩) rfl (fun u hu => by cases List.mem_singleton.1 hu; rfl) (by rw [hbI]; simp only [List.length_cons, List.length_nil]; omega) (by decide) fun a6 c6 H6 st6 _ => ?_
      have e1 : (bk.map fun (x : Nat) => (x : Int)) ++ [(cb : Int)] = (bk ++ [cb]).map fun (x : Nat) => (x : Int) := by simp
      have e2 : (bk.map fun (x : Nat) => (x : Int)).length + [(cb : Int)].length = (bk ++ [cb]).length := by simp
      rw [e1, e2] at st6
      rw [e2]
      (conv => whnf); refine ldN (cs := wyL ((j : Int), cb)) ag181 ((st6.blk 0 rfl).cells fun j v hv => by rw [Nat.zero_add]; exact hv) trivial ?_
      (conv => whnf); refine valloc (wyV (0, 0)) (wyL (0, 0)) way_z7 rfl ?_
      intro p7 H7 hp7 hs7 hb7 ha7
      have st7 := st6.box hp7 hs7 hb7 ha7
      (conv => whnf); refine stNB (cs := wyL ((j : Int), cb)) st7 2 rfl rfl (Nat.le_refl _) rfl fun H8 st8 => ?_
      rw [splice_all (show (wyL ((j : Int), cb)).length = (wyL (0, 0)).length from rfl)] at st8
      (conv => whnf); refine VC.fa fl181_0 ?_
      (conv => whnf); refine ld1 (v := .int .i64 (j : Int)) ct3 (by rw [(st8.blk 2 rfl).cell]; rfl) trivial ?_
      (conv => whnf); refine ixrn (i := j) sl183 (ho.frame st8.old) (List.length_map _).symm (hgF hxj) rfl ?_
      rintro b9 o9 c9 hS9 hc9 ⟨-, rfl⟩
      (conv => whnf); refine ldN (cs := pkL (x.1.x, x.1.y)) ag179 hc9 trivial ?_
      (conv => whnf); refine mlookW (a := (x.1.x, x.1.y)) mapPk keyPk (hr x (List.mem_of_getElem? hxj)) (hmW st8.old) trivial ?_
      rw [hL.seen hxj hwj]
      (conv => whnf); refine stNB (cs := wyL wj) st8 2 rfl rfl (Nat.le_refl _) rfl fun H10 st10 => ?_
      rw [splice_all (show (wyL wj).length = (wyL ((j : Int), cb)).length from rfl)] at st10
      exact ⟨rfl, (j, bk ++ [cb], a6, c6, p7), by simp, ⟨x, wj, hxj, hwj, by rw [heq, hzx]; simp, fun b hb => by
        rcases List.mem_append.1 hb with hb | hb
        · exact hb8 b hb
        · rw [List.mem_singleton] at hb; subst hb; exact hcb, by simp only [List.length_append, List.length_cons, List.length_nil]; omega, fun h => by simp at h, st10.pick [2, 1] (by decide)⟩, hjk⟩
end Go.Proofs.YthomdogheamfpaaDoor
/- minim.first: the walk. -/
set_option linter.unusedVariables false
set_option linter.unusedSimpArgs false
set_option maxRecDepth 100000
namespace Go.Proofs.YthomdogheamfpaaDoor
open Go.VC
attribute [local irreducible] mRun gRun atRun
def askG (ask : Bool → Bool → Bool) (a b : Option AM) : Gr := ⟨fun n c => [⟨0, stepM a n.x c, stepM b n.y c⟩], fun n => ask (finM a n.x) (finM b n.y)⟩
section
variable {ask : Bool → Bool → Bool} {a b : Option AM}
theorem ask_ok (ha : StepOk a) (hb : StepOk b) {by_ : List Nat} (h1 : ∀ b ∈ by_, b < 256) (h2 : by_.length ≤ 256) : GraphOk (askG ask a b) by_ 4294967296 1 := by
  have na := ha.n2
  have nb := hb.n2
  refine graphOk (MeetR a b) (fun n => n.x.toNat * 65536 + n.y.toNat) ⟨rfl, ha.zero, hb.zero⟩ (fun n c t h hc ht => ?_) (fun n h => ?_) (fun n h => ?_) (fun n m h k e => ?_) (fun n c => Nat.le_refl _) (by decide) (by decide) h1 h2
  · obtain rfl := List.mem_singleton.1 ht
    exact ⟨rfl, ha.step _ _ h.2.1 hc, hb.step _ _ h.2.2 hc⟩
  · obtain ⟨k1, ⟨k2, k3⟩, k4, k5⟩ := h
    refine ⟨?_, ?_, ?_⟩ <;> unfold inK <;> simp only [IntKind.min, IntKind.max, IntKind.signed, IntKind.bits] <;> constructor <;> simp <;> omega
  · obtain ⟨k1, ⟨k2, k3⟩, k4, k5⟩ := h
    omega
  · obtain ⟨k1, ⟨k2, k3⟩, k4, k5⟩ := h
    obtain ⟨l1, ⟨l2, l3⟩, l4, l5⟩ := k
    obtain ⟨s, x, y⟩ := n
    obtain ⟨s', x', y'⟩ := m
    simp only at *
    obtain ⟨rfl, rfl, rfl⟩ : s = s' ∧ x = x' ∧ y = y' := ⟨by omega, by omega, by omega⟩
    rfl
theorem ask_reach (sa : StepOk a) (sb : StepOk b) {by_ : List Nat} (h1 : ∀ b ∈ by_, b < 256) : ∀ n, Reach (askG ask a b) by_ root n → MeetR a b n := fun n hn => by
  induction hn with
  | refl => exact ⟨rfl, sa.zero, sb.zero⟩
  | step _ hb ht ih =>
    obtain rfl := List.mem_singleton.1 ht
    exact ⟨rfl, sa.step _ _ ih.2.1 (h1 _ hb), sb.step _ _ ih.2.2 (h1 _ hb)⟩
theorem meetR_pk (sa : StepOk a) (sb : StepOk b) {n : Nd} (h : MeetR a b n) : PkOk (n.x, n.y) := by
  obtain ⟨k1, ⟨k2, k3⟩, k4, k5⟩ := h
  have na := sa.n2
  have nb := sb.n2
  exact ⟨kint ⟨by simp only; omega, by simp only; omega⟩, kint ⟨by simp only; omega, by simp only; omega⟩⟩
end
theorem seen_put {F : List NW} {W : List (Int × Nat)} {n : Nd} {w : List Nat} {x : Int × Nat} (hl : W.length = F.length) (hno : ∀ y ∈ F, (y.1.x, y.1.y) ≠ (n.x, n.y)) : put (seenW F W) (n.x, n.y) (some (wyV x)) = seenW (F ++ [(n, w)]) (W ++ [x]) := by
  funext z
  unfold put seenW
  rw [List.findIdx?_append]
  by_cases hz : z = (n.x, n.y)
  · subst hz
    have : F.findIdx? (fun x => decide ((x.1.x, x.1.y) = (n.x, n.y))) = none := by
      rw [List.findIdx?_eq_none_iff]
      intro y hy
      exact decide_eq_false (hno y hy)
    rw [if_pos rfl, this]
    simp [List.findIdx?_cons, ← hl]
  · rw [if_neg hz]
    cases h : F.findIdx? fun x => decide ((x.1.x, x.1.y) = z) with
    | some i =>
      have hi : i < W.length := by
        rw [hl]
        exact (List.findIdx?_eq_some_iff_getElem.1 h).1
      simp [List.getElem?_append_left hi]
    | none =>
      have : ¬ (n.x, n.y) = z := fun e => hz e.symm
      simp [List.findIdx?_cons, this]
theorem seen_none {F : List NW} {W : List (Int × Nat)} {z : Int × Int} (hno : ∀ y ∈ F, (y.1.x, y.1.y) ≠ z) : seenW F W z = none := by
  unfold seenW
  have : F.findIdx? (fun x => decide ((x.1.x, x.1.y) = z)) = none := by
    rw [List.findIdx?_eq_none_iff]
    intro y hy
    exact decide_eq_false (hno y hy)
  rw [this]
  rfl
theorem links_start : Links [(root, [])] [(-1, 0)] := by
  refine ⟨rfl, by simp, fun x hx => ?_, rfl, fun i y hy => ?_⟩
  · rw [List.mem_singleton] at hx
    subst hx
    rfl
  · cases i with
    | zero => cases hy; exact .inl ⟨rfl, rfl⟩
    | succ i => simp at hy
theorem Links.apart {F : List NW} {W : List (Int × Nat)} (h : Links F W) {t : Nd} (ht : t.s = 0) (hno : ∀ y ∈ F, y.1 ≠ t) : ∀ y ∈ F, (y.1.x, y.1.y) ≠ (t.x, t.y) := fun y hy e => by
  refine hno y hy ?_
  have h0 := h.s0 y hy
  obtain ⟨⟨s, x, y'⟩, w⟩ := y
  obtain ⟨s', x', y''⟩ := t
  injection e with e1 e2
  simp only at *
  subst e1; subst e2; subst h0; subst ht
  rfl
theorem Links.add {F : List NW} {W : List (Int × Nat)} (h : Links F W) {i c : Nat} {x : NW} {t : Nd} (hx : F[i]? = some x) (hc : c < 256) (ht : t.s = 0) (hno : ∀ y ∈ F, y.1 ≠ t) : Links (F ++ [(t, x.2 ++ [c])]) (W ++ [((i : Int), c)]) := by
  have hil := (List.getElem?_eq_some_iff.1 hx).1
  have h0 := h.len
  refine ⟨by simp [h0], ?_, fun y hy => ?_, by rw [List.getElem?_append_left (by omega)]; exact h.zero, fun m y hy => ?_⟩
  · rw [List.map_append]
    refine List.nodup_append.2 ⟨h.nd, by simp, fun p hp q hq => ?_⟩
    simp only [List.map_cons, List.map_nil, List.mem_singleton] at hq
    subst hq
    obtain ⟨y, hy, rfl⟩ := List.mem_map.1 hp
    exact h.apart ht hno y hy
  · rcases List.mem_append.1 hy with hy | hy
    · exact h.s0 y hy
    · rw [List.mem_singleton] at hy
      subst hy
      exact ht
  · by_cases hm : m < F.length
    · rw [List.getElem?_append_left hm] at hy
      rcases h.link m y hy with h1 | ⟨j, d, x', h1, h2, h3, h4⟩
      · exact .inl h1
      · exact .inr ⟨j, d, x', by rw [List.getElem?_append_left (by omega)]; exact h1, h2, by rw [List.getElem?_append_left (by omega)]; exact h3, h4⟩
    · have hm2 := (List.getElem?_eq_some_iff.1 hy).1
      simp only [List.length_append, List.length_singleton] at hm2
      obtain rfl : m = F.length := by omega
      simp at hy
      subst hy
      refine .inr ⟨i, c, x, ?_, hil, by rw [List.getElem?_append_left hil]; exact hx, rfl, hc⟩
      rw [← h0]; simp
theorem pair_z7 : (Tryd.prog.info? 179).bind (·.zero) = some (pkV (0, 0)) := by kernel_rfl
set_option maxHeartbeats 32000000 in
theorem first_m {S : Nat → Prop} {H : Heap} {va vb : Value} {a b : Option AM} {ask : Bool → Bool → Bool} {f : FuncId} (hS : ∀ k, S k → k < H.size) (hva : AutoV S H va a) (hvb : AutoV S H vb b) (hca : ∃ ls, CellsOk a ls) (hcb : ∃ ls, CellsOk b ls) (hf : ∀ (G : Heap) (x y : Bool), Pure Tryd.prog f #[.bool x, .bool y] G (.bool (ask x y))) :
    FnOk Tryd.prog 61 #[va, vb, .func (.func f) #[] #[]] H fun v H' => Agr (Old H) H H' ∧ ∃ w ok, v = .tuple #[.string (bA w), .bool ok] ∧ FirstR (askG ask a b) w ok := by
  have sa := hva.steps
  have sb := hvb.steps
  have hla := cells_le hva
  have hlb := cells_le hvb
  have hpb : 0 < (cellsM b).length := by
    obtain ⟨ls, h⟩ := hcb
    exact cells_pos h
  have hVA : ∀ {G : Heap}, Agr (Old H) H G → AutoV S G va a := fun h => hva.frame (h.mono hS)
  have hVB : ∀ {G : Heap}, Agr (Old H) H G → AutoV S G vb b := fun h => hvb.frame (h.mono hS)
  have up : ∀ {G : Heap}, Agr (Old H) H G → ∀ k, S k → k < G.size := fun h k hk => old_lt h (hS k hk)
  refine FnOk.of_vc Tryd.func61 rfl (Tryd.call61 _) ?_
  (conv => whnf); refine VCall.mk (cells_o hS hva) ?_
  rintro _ H1 ⟨ha1, -, hw1⟩
  obtain ⟨aa, ac, rfl, st1⟩ := (St.nil H).got ha1 hw1
  (conv => whnf); refine VCall.mk (cells_o (up st1.old) (hVB st1.old)) ?_
  rintro _ H2 ⟨ha2, -, hw2⟩
  obtain ⟨ba, bc, rfl, st2⟩ := st1.got ha2 hw2
  (conv => whnf); refine appSS st2 0 1 sl83 rfl rfl hpb tSet_ones (by omega) (by decide) fun a3 c3 H3 st3 _ => ?_
  obtain ⟨sets, hsets⟩ : ∃ sets, sets = cellsM a ++ cellsM b := ⟨_, rfl⟩
  have hsl : (cellsM a).length + (cellsM b).length = sets.length := by rw [hsets, List.length_append]
  rw [hsl, ← hsets] at st3
  rw [hsl]
  (conv => whnf); refine VCall.mk (clsAtoms_c (S := Old H3) (fun k hk => hk) (st3.view 0 rfl) (by omega)) ?_
  rintro _ H4 ⟨ha4, a4, c4, rfl, h4⟩
  have st4 := st3.call ha4
  have hal := reps_len sets
  (conv => whnf); refine VCall.mk (reps7_c (S := Old H4) (fun k hk => hk) h4 hal) ?_
  rintro _ H5 ⟨ha5, ra, rc, rfl, hw5⟩
  obtain ⟨ra', rc', e5, st5⟩ := st4.got ha5 hw5
  injection e5 with e51 e52 e53
  subst e51; subst e53
  have hlt8 := reps_lt sets
  have hup2 : (repsM sets).Pairwise (· < ·) := by
    rw [reps_same (s := sets) (t := sets) fun x => Iff.rfl]
    exact atRun_up sets 256
  have hcov2 := reps_cov2 (os := [a, b]) (fun o ho => by
    rcases List.mem_cons.1 ho with rfl | ho
    · exact hca
    · rw [List.mem_singleton] at ho; subst ho; exact hcb) (sets := sets) (fun o ho s hs => by
    rw [hsets]
    rcases List.mem_cons.1 ho with rfl | ho
    · exact List.mem_append.2 (.inl hs)
    · rw [List.mem_singleton] at ho; subst ho; exact List.mem_append.2 (.inr hs))
  have hcov : ∀ c, c < 256 → ∃ r ∈ repsM sets, r ≤ c ∧ ∀ n, (askG ask a b).next n r = (askG ask a b).next n c := fun c hc => by
    obtain ⟨r, hr, hrc, hall⟩ := hcov2 c hc
    refine ⟨r, hr, hrc, fun n => ?_⟩
    show [_] = [_]
    rw [hall a (by simp), hall b (by simp)]
  have hbl : (atomsM sets).length = (repsM sets).length := by unfold repsM; rw [List.length_map]
  have hbi : bsI (atomsM sets) = intsN (repsM sets) := rfl
  have hil : (intsN (repsM sets)).length = (repsM sets).length := List.length_map _
  rw [hbi, hil] at st5
  rw [hbl] at hal ⊢
  clear hbl hbi hcov2 hil
  generalize repsM sets = by_ at *
  have hg : GraphOk (askG ask a b) by_ 4294967296 1 := ask_ok sa sb hlt8 hal
  have hmr := ask_reach (ask := ask) sa sb hlt8
  have hgb : ∀ (k c : Nat), by_[k]? = some c → (intsN by_)[k]? = some (c : Int) := fun k c h => by unfold intsN; rw [List.getElem?_map, h]; rfl
  (conv => whnf); refine mmakeW (Ok := PkOk) (enc := pkV) fun mb H6 hb6 hs6 hm6 ha6 => ?_
  have st6 := st5.mapNewW hb6 hs6 hm6 ha6
  (conv => whnf); refine vbuildS Tryd.underlying179 rfl (pkV (0, 0)) pair_z7 (pkL (0, 0)) rfl ?_
  (conv => whnf); refine vbuildS Tryd.underlying181 rfl (wyV (0, 0)) way_z7 (wyL (-1, 0)) rfl ?_
  have hput0 : put (fun _ : Int × Int => (none : Option Value)) (0, 0) (some (wyV (-1, 0))) = seenW [(root, [])] [(-1, 0)] := seen_put (F := []) (W := []) (n := root) (w := []) rfl fun y hy => by cases hy
  have hz0 : PkOk (0, 0) := ⟨kint ⟨by decide, by decide⟩, kint ⟨by decide, by decide⟩⟩
  (conv => whnf); refine mputPW (a := ((0 : Int), (0 : Int))) st6 3 mapPk keyPk hz0 rfl hput0 fun H7 st7 => ?_
  (conv => whnf); refine vbuildS Tryd.underlying179 rfl (pkV (0, 0)) pair_z7 (pkL (0, 0)) rfl ?_
  (conv => whnf); refine vbuild1 sl183 (pkL (0, 0)) rfl rfl (by decide) (by decide) ?_
  intro q8 H8 hq8 hs8 hb8 ha8
  have st8 := (st7.new (T := tPk) (n := 1) (xs := [root]) hq8 hs8 hb8 ha8 (Ty.reps_one ⟨rfl, rfl⟩) rfl (by unfold maxLen; omega)).pick [2, 3, 4] (by decide)
  have st9 : St H H8 [pS tU8 tByt ra by_.length rc (intsN by_), pMW PkOk pkV mb (seenW [(root, [])] [(-1, 0)]), pS tPk 179 (some ⟨q8, 0, none⟩) 1 1 ([((root, []) : NW)].map (·.1))] := st8
  clear st8 st7 st6 st5 st4 st3 st2 st1 hput0
  (conv => whnf)
  refine VLoop.mk [10, 11] (fun x : Nat × List NW × List (Int × Nat) × Option Addr × Nat => match x with | (i, F, W, oa, oc) => [.slice oa F.length oc, .int .i64 (i : Int)])
    (fun x H9 => match x with | (i, F, W, oa, oc) => i ≤ F.length ∧ BfsOk (askG ask a b) by_ root F i 0 ∧ (∀ (m : Nat) (y : NW), m < i → F[m]? = some y → (askG ask a b).ends y.1 = false) ∧ Links F W ∧ St H H9 [pS tU8 tByt ra by_.length rc (intsN by_), pMW PkOk pkV mb (seenW F W), pS tPk 179 oa F.length oc (F.map (·.1))]) (fun x _ => 4294967296 - x.1) ?_ ?_
  · (conv => whnf)
    exact ⟨(0, [(root, [])], [(-1, 0)], some ⟨q8, 0, none⟩, 1), rfl, Nat.zero_le _, BfsOk.start, fun m y hm => absurd hm (Nat.not_lt_zero _), links_start, st9⟩
  · clear st9
    rintro ⟨i, F, W, oa, oc⟩ H9 junk9 ⟨hi, hbfs, hno, hL, st9⟩
    have hrch : ∀ (F' : List NW) (i' k' : Nat), BfsOk (askG ask a b) by_ root F' i' k' → ∀ x ∈ F', Reach (askG ask a b) by_ root x.1 := fun F' i' k' h x hx => to_reach .refl (h.ok x hx).1 (h.ok x hx).2
    have hFM : ∀ (F' : List NW) (i' k' : Nat), BfsOk (askG ask a b) by_ root F' i' k' → F'.length ≤ 4294967296 := fun F' i' k' h => by
      rw [← List.length_map (f := (·.1))]
      exact hg.card _ h.nd fun n hn => by
        obtain ⟨x, hx, rfl⟩ := List.mem_map.1 hn
        exact hrch F' i' k' h x hx
    have hFM7 := hFM F i 0 hbfs
    (conv => whnf); refine VIte.mk (fun hz => ?_) (fun hz => ?_) <;> simp only [decide_eq_true_eq, decide_eq_false_iff_not] at hz
    · obtain ⟨y, hy⟩ := get_some (l := F) (k := i) (by omega)
      have hyr := hrch F i 0 hbfs y (List.mem_of_getElem? hy)
      have hym := hmr y.1 hyr
      have hy1 : (F.map (·.1))[i]? = some y.1 := by rw [List.getElem?_map, hy]; rfl
      (conv => whnf); refine ixO (j := i) sl183 st9 2 rfl hy1 rfl ?_
      rintro b10 o10 c10 hS10 hc10 ⟨-, rfl⟩
      (conv => whnf); refine ldN (cs := pkL (y.1.x, y.1.y)) ag179 hc10 trivial ?_
      (conv => whnf); refine valloc (pkV (0, 0)) (pkL (0, 0)) pair_z7 rfl ?_
      intro p11 H11 hp11 hs11 hb11 ha11
      have st11 := st9.box hp11 hs11 hb11 ha11
      (conv => whnf); refine stNB (cs := pkL (y.1.x, y.1.y)) st11 3 rfl rfl (Nat.le_refl _) rfl fun H12 st12 => ?_
      rw [splice_all (show (pkL (y.1.x, y.1.y)).length = (pkL (0, 0)).length from rfl)] at st12
      have q12 := st12.blk 3 rfl
      (conv => whnf); refine VDraw.heldZ (Old H12) [] (sq [0,1,2,3,5,6,7] (.f 4 (.f 8 (.f 9 .e)))) rfl (by kernel_rfl) ?_
      (conv => whnf); refine VC.fa fl179_0 ?_
      (conv => whnf); refine ld1 (v := .int .i64 y.1.x) ct3 (by rw [q12.cell]; rfl) q12.lt ?_
      (conv => whnf); refine VC.fa fl179_1 ?_
      (conv => whnf); refine ld1 (v := .int .i64 y.1.y) ct3 (by rw [q12.cell]; rfl) q12.lt ?_
      (conv => whnf); refine pures (final_p (hVA st12.old)) fun H13 ha13 => ?_
      have st13 := st12.call ha13
      refine ⟨ha13, ?_⟩
      (conv => whnf); refine pures (final_p (hVB st13.old)) fun H14 ha14 => ?_
      have st14 := st13.call ha14
      have gg14 := ha13.trans (ha14.mono fun k hk => old_lt ha13 hk)
      refine ⟨gg14, ?_⟩
      (conv => whnf); refine pures (hf H14 _ _) fun H15 ha15 => ?_
      have st15 := st14.call ha15
      refine ⟨gg14.trans (ha15.mono fun k hk => old_lt gg14 hk), ?_⟩
      have hends : (askG ask a b).ends y.1 = ask (finM a y.1.x) (finM b y.1.y) := rfl
      cases he : ask (finM a y.1.x) (finM b y.1.y)
      case true =>
        (conv => whnf); refine pures (spell_p (st15.view 2 rfl) (st15.mapW 1 rfl) hL hFM7 (fun x hx => meetR_pk sa sb (hmr x.1 (hrch F i 0 hbfs x hx))) hy) fun H16 ha16 => ?_
        have st16 := st15.call ha16
        (conv => whnf)
        exact ⟨st16.old, y.2, true, rfl, And.intro (fun _ => hbfs.found hcov hlt8 hy (hends.trans he) hno) (fun h => by cases h)⟩
      case false =>
        (conv => whnf)
        refine VLoop.mk [10, 57] (fun x : Nat × List NW × List (Int × Nat) × Option Addr × Nat => match x with | (k, F', W', oa, oc) => [.slice oa F'.length oc, .int .i64 (k : Int)])
          (fun x H9 => match x with | (k, F', W', oa, oc) => k ≤ by_.length ∧ BfsOk (askG ask a b) by_ root F' i k ∧ (∀ m, m ≤ i → F'[m]? = F[m]?) ∧ Links F' W' ∧ St H H9 [pS tU8 tByt ra by_.length rc (intsN by_), pMW PkOk pkV mb (seenW F' W'), pS tPk 179 oa F'.length oc (F'.map (·.1)), pB 179 p11 (pkL (y.1.x, y.1.y))]) (fun x _ => by_.length - x.1) ?_ ?_
        · (conv => whnf)
          exact ⟨(0, F, W, oa, oc), rfl, Nat.zero_le _, hbfs, fun _ _ => rfl, hL, st15⟩
        · clear st15 st14 st13 st12 st11 st9 gg14 ha13 ha14 ha15 q12
          rintro ⟨k, F9, W9, oa9, oc9⟩ H16 junk16 ⟨hk, hbfs9, hpre, hL9, st16⟩
          have hy9 : F9[i]? = some y := by rw [hpre i (Nat.le_refl _)]; exact hy
          have hi9 := (List.getElem?_eq_some_iff.1 hy9).1
          have hFM9 := hFM F9 i k hbfs9
          (conv => whnf); refine VIte.mk (fun hz2 => ?_) (fun hz2 => ?_) <;> simp only [decide_eq_true_eq, decide_eq_false_iff_not] at hz2
          · obtain ⟨c, hc⟩ := get_some (l := by_) (k := k) (by omega)
            have hcm := List.mem_of_getElem? hc
            have hc8 := hlt8 c hcm
            (conv => whnf); refine VSeq.run ?_
            (conv => whnf); refine ixO (j := k) sl85 st16 0 rfl (hgb k c hc) rfl ?_
            rintro b17 o17 c17 hS17 hc17 ⟨rfl, -⟩
            (conv => whnf); refine ld1 ct5 hc17.one trivial ?_
            have htr : Reach (askG ask a b) by_ root ⟨0, stepM a y.1.x c, stepM b y.1.y c⟩ := hyr.step hcm (List.mem_singleton.2 rfl)
            have htok := meetR_pk sa sb (hmr _ htr)
            have q16 := st16.blk 3 rfl
            have sx0 := st16
            have gg0 : Agr (Old H16) H16 H16 := Agr.refl _ _
            (conv => whnf); refine VDraw.cut [15] (fun p : Nat => [.pointer (some ⟨p, 0, none⟩)]) (fun p H' => St H H' [pS tU8 tByt ra by_.length rc (intsN by_), pMW PkOk pkV mb (seenW F9 W9), pS tPk 179 oa9 F9.length oc9 (F9.map (·.1)), pB 179 p11 (pkL (y.1.x, y.1.y)), pB 179 p (pkL (stepM a y.1.x c, stepM b y.1.y c))]) ?_ ?_
            · (conv => whnf); refine VDraw.heldZ (Old H16) [12] (sq [0,1,2,3,5,6,7,8] (.b 4 (.b 9 (sq [10] (.f 11 (.f 12 .e))) 11 (.f 9 (sq [10] (.f 12 .e)))) 11 (.f 4 (.f 9 (sq [10] (.f 12 .e)))))) rfl (by kernel_rfl) ?_
              (conv => whnf); refine VC.fa fl179_0 ?_
              (conv => whnf); refine ld1 (v := .int .i64 y.1.x) ct3 (by rw [q16.cell]; rfl) q16.lt ?_
              (conv => whnf); refine VC.fa fl179_1 ?_
              (conv => whnf); refine ld1 (v := .int .i64 y.1.y) ct3 (by rw [q16.cell]; rfl) q16.lt ?_
              (conv => whnf); refine ⟨?_, ?_⟩
              · refine pures (step_p (up sx0.old) (hVA sx0.old) hc8) fun G1 gc1 => ?_
                have sx1 := sx0.call gc1
                have gg1 := gg0.trans (gc1.mono fun k hk => old_lt gg0 hk)
                refine ⟨gg1, ?_⟩
                (conv => whnf); refine ⟨?_, ?_⟩
                · refine pures (step_p (up sx1.old) (hVB sx1.old) hc8) fun G2 gc2 => ?_
                  have sx2 := sx1.call gc2
                  have gg2 := gg1.trans (gc2.mono fun k hk => old_lt gg1 hk)
                  refine ⟨gg2, ?_⟩
                  (conv => whnf); refine vbuildS Tryd.underlying179 rfl (pkV (0, 0)) pair_z7 (pkL (stepM a y.1.x c, stepM b y.1.y c)) rfl ?_
                  (conv => whnf); refine valloc (pkV (0, 0)) (pkL (0, 0)) pair_z7 rfl ?_
                  intro pp G3 gp3 gs3 gb3 ga3
                  have sx3 := sx2.box gp3 gs3 gb3 ga3
                  have gg3 := gg2.trans (ga3.mono fun k hk => by have := old_lt gg2 hk; omega)
                  refine ⟨gg3, ?_⟩
                  (conv => whnf); refine stNB (cs := pkL (stepM a y.1.x c, stepM b y.1.y c)) sx3 4 rfl rfl (Nat.le_refl _) rfl fun G4 sx4 => ?_
                  rw [splice_all (show (pkL (stepM a y.1.x c, stepM b y.1.y c)).length = (pkL (0, 0)).length from rfl)] at sx4
                  (conv => whnf)
                  exact ⟨rfl, pp, rfl, sx4⟩
                · refine valloc (pkV (0, 0)) (pkL (0, 0)) pair_z7 rfl ?_
                  intro pp G2 gp2 gs2 gb2 ga2
                  have sx2 := sx1.box gp2 gs2 gb2 ga2
                  have gg2 := gg1.trans (ga2.mono fun k hk => by have := old_lt gg1 hk; omega)
                  refine ⟨gg2, ?_⟩
                  (conv => whnf); refine pures (step_p (up sx2.old) (hVB sx2.old) hc8) fun G3 gc3 => ?_
                  have sx3 := sx2.call gc3
                  have gg3 := gg2.trans (gc3.mono fun k hk => old_lt gg2 hk)
                  refine ⟨gg3, ?_⟩
                  (conv => whnf); refine vbuildS Tryd.underlying179 rfl (pkV (0, 0)) pair_z7 (pkL (stepM a y.1.x c, stepM b y.1.y c)) rfl ?_
                  (conv => whnf); refine stNB (cs := pkL (stepM a y.1.x c, stepM b y.1.y c)) sx3 4 rfl rfl (Nat.le_refl _) rfl fun G4 sx4 => ?_
                  rw [splice_all (show (pkL (stepM a y.1.x c, stepM b y.1.y c)).length = (pkL (0, 0)).length from rfl)] at sx4
                  (conv => whnf)
                  exact ⟨rfl, pp, rfl, sx4⟩
              · refine valloc (pkV (0, 0)) (pkL (0, 0)) pair_z7 rfl ?_
                intro pp G1 gp1 gs1 gb1 ga1
                have sx1 := sx0.box gp1 gs1 gb1 ga1
                have gg1 := gg0.trans (ga1.mono fun k hk => by have := old_lt gg0 hk; omega)
                refine ⟨gg1, ?_⟩
                (conv => whnf); refine pures (step_p (up sx1.old) (hVA sx1.old) hc8) fun G2 gc2 => ?_
                have sx2 := sx1.call gc2
                have gg2 := gg1.trans (gc2.mono fun k hk => old_lt gg1 hk)
                refine ⟨gg2, ?_⟩
                (conv => whnf); refine pures (step_p (up sx2.old) (hVB sx2.old) hc8) fun G3 gc3 => ?_
                have sx3 := sx2.call gc3
                have gg3 := gg2.trans (gc3.mono fun k hk => old_lt gg2 hk)
                refine ⟨gg3, ?_⟩
                (conv => whnf); refine vbuildS Tryd.underlying179 rfl (pkV (0, 0)) pair_z7 (pkL (stepM a y.1.x c, stepM b y.1.y c)) rfl ?_
                (conv => whnf); refine stNB (cs := pkL (stepM a y.1.x c, stepM b y.1.y c)) sx3 4 rfl rfl (Nat.le_refl _) rfl fun G4 sx4 => ?_
                rw [splice_all (show (pkL (stepM a y.1.x c, stepM b y.1.y c)).length = (pkL (0, 0)).length from rfl)] at sx4
                (conv => whnf)
                exact ⟨rfl, pp, rfl, sx4⟩
            · rintro pp H18 junk18 st18
              clear sx0 gg0
              (conv => whnf); refine ldN (cs := pkL (stepM a y.1.x c, stepM b y.1.y c)) ag179 ((st18.blk 4 rfl).cells fun j v hv => by rw [Nat.zero_add]; exact hv) trivial ?_
              (conv => whnf); refine mlookOkW (a := (stepM a y.1.x c, stepM b y.1.y c)) mapPk keyPk htok (st18.mapW 1 rfl) trivial ?_
              obtain ⟨t, hte⟩ : ∃ t : Nd, t = ⟨0, stepM a y.1.x c, stepM b y.1.y c⟩ := ⟨_, rfl⟩
              have hnext : (askG ask a b).next y.1 c = [t] := by rw [hte]; rfl
              have htx : stepM a y.1.x c = t.x := by rw [hte]
              have hty : stepM b y.1.y c = t.y := by rw [hte]
              have hts : t.s = 0 := by rw [hte]
              rw [← hte] at htr
              rw [htx, hty] at st18 htok ⊢
              clear hte
              by_cases hm : ∃ z ∈ F9, z.1 = t
              · obtain ⟨z, hz3, hzt⟩ := hm
                obtain ⟨m, hmz⟩ := List.getElem?_of_mem hz3
                obtain ⟨w, hw⟩ := get_some (l := W9) (k := m) (by rw [hL9.len]; exact (List.getElem?_eq_some_iff.1 hmz).1)
                have hseen := hL9.seen hmz hw
                rw [hzt] at hseen
                rw [hseen]
                (conv => whnf); refine valloc (wyV (0, 0)) (wyL (0, 0)) way_z7 rfl ?_
                intro p19 H19 hp19 hs19 hb19 ha19
                have st19 := st18.box hp19 hs19 hb19 ha19
                (conv => whnf); refine stNB (cs := wyL w) st19 5 rfl rfl (Nat.le_refl _) rfl fun H20 st20 => ?_
                (conv => whnf); rw [w64 (x := (k : Int) + 1) (by omega) (by omega)]
                exact ⟨rfl, (k + 1, F9, W9, oa9, oc9), rfl, ⟨by omega, hbfs9.add hup2 hy9 hc hnext (.inl ⟨⟨z, hz3, hzt⟩, rfl⟩), hpre, hL9, st20.pick [0, 1, 2, 3] (by decide)⟩, by simp only; omega⟩
              · have hno9 : ∀ z ∈ F9, z.1 ≠ t := fun z hz3 e => hm ⟨z, hz3, e⟩
                have hap := hL9.apart hts hno9
                rw [seen_none (z := (t.x, t.y)) hap]
                have hadd := hbfs9.add (F' := F9 ++ [(t, y.2 ++ [c])]) hup2 hy9 hc hnext (.inr ⟨hno9, rfl⟩)
                have hFM10 := hFM _ _ _ hadd
                rw [List.length_append, List.length_singleton] at hFM10
                (conv => whnf); refine valloc (wyV (0, 0)) (wyL (0, 0)) way_z7 rfl ?_
                intro p19 H19 hp19 hs19 hb19 ha19
                have st19 := st18.box hp19 hs19 hb19 ha19
                (conv => whnf); refine stNB (cs := wyL (0, 0)) st19 5 rfl rfl (Nat.le_refl _) rfl fun H20 st20 => ?_
                (conv => whnf); refine ldN (cs := pkL (t.x, t.y)) ag179 ((st20.blk 4 rfl).cells fun j v hv => by rw [Nat.zero_add]; exact hv) trivial ?_
                (conv => whnf); refine vbuildS Tryd.underlying181 rfl (wyV (0, 0)) way_z7 (wyL ((i : Int), c)) rfl ?_
                (conv => whnf); refine mputPW (a := (t.x, t.y)) st20 1 mapPk keyPk htok rfl (seen_put (w := y.2 ++ [c]) (x := ((i : Int), c)) hL9.len hap) fun H21 st21 => ?_
                (conv => whnf); refine ldN (cs := pkL (t.x, t.y)) ag179 ((st21.blk 4 rfl).cells fun j v hv => by rw [Nat.zero_add]; exact hv) trivial ?_
                (conv => whnf); refine vbuild1 sl183 (pkL (t.x, t.y)) rfl rfl (by decide) (by decide) ?_
                intro q22 H22 hq22 hs22 hb22 ha22
                have hml : (F9.map (·.1)).length = F9.length := List.length_map _
                (conv => whnf); refine appG (ys := [t]) (ds := pkL (t.x, t.y)) (st21.skip hq22 ha22) 2 sl183 rfl (hb22.cells fun j v hv => by rw [Nat.zero_add]; exact hv) (Ty.reps_one ⟨hts, rfl⟩) rfl (by simp [pkL, Value.oneCell']) (by simp only [List.length_singleton, maxLen]; omega) (by simp only [List.length_singleton]; omega) fun a23 c23 H23 st23 _ => ?_
                have e1 : (F9.map (·.1)).length + [t].length = (F9 ++ [(t, y.2 ++ [c])]).length := by simp
                have e2 : F9.map (·.1) ++ [t] = (F9 ++ [(t, y.2 ++ [c])]).map (·.1) := by simp
                rw [e1, e2] at st23
                rw [e1]
                (conv => whnf); rw [w64 (x := (k : Int) + 1) (by omega) (by omega)]
                exact ⟨rfl, (k + 1, F9 ++ [(t, y.2 ++ [c])], W9 ++ [((i : Int), c)], a23, c23), rfl, ⟨by omega, hadd, fun m hm4 => by rw [List.getElem?_append_left (by omega)]; exact hpre m hm4, hL9.add hy9 hc8 hts hno9, st23.pick [0, 1, 2, 3] (by decide)⟩, by simp only; omega⟩
          · have : k = by_.length := Nat.le_antisymm hk (by omega)
            subst this
            (conv => whnf); rw [w64 (x := (i : Int) + 1) (by omega) (by omega)]
            refine ⟨rfl, (i + 1, F9, W9, oa9, oc9), rfl, ⟨hi9, hbfs9.turn (Nat.le_refl _), fun m z hm hz3 => ?_, hL9, st16.pick [0, 1, 2] (by decide)⟩, show 4294967296 - (i + 1) < 4294967296 - i by omega⟩
            rcases Nat.lt_or_eq_of_le (Nat.le_of_lt_succ (show m < i + 1 from hm)) with hm | rfl
            · exact hno m z hm (by rw [← hpre m (Nat.le_of_lt hm)]; exact hz3)
            · rw [hy9] at hz3; cases hz3; exact hends.trans he
    · obtain rfl : i = F.length := by omega
      (conv => whnf)
      exact ⟨st9.old, [], false, rfl, And.intro (fun h => by cases h) fun _ => ⟨rfl, hbfs.none hcov fun y hy => by
        obtain ⟨m, hm⟩ := List.getElem?_of_mem hy
        exact hno m y (List.getElem?_eq_some_iff.1 hm).1 hm⟩⟩
end Go.Proofs.YthomdogheamfpaaDoor
/- minim.Differ, Outside, Same: the walks. -/
set_option linter.unusedVariables false
set_option linter.unusedSimpArgs false
set_option maxRecDepth 100000
namespace Go.Proofs.YthomdogheamfpaaDoor
open Go.VC
attribute [local irreducible] mRun gRun atRun
def xorB (x y : Bool) : Bool := x != y
theorem differ1_p (G : Heap) (x y : Bool) : Pure Tryd.prog 62 #[.bool x, .bool y] G (.bool (xorB x y)) := by
  refine FnOk.of_vc Tryd.func62 rfl (Tryd.call62 _) ?_
  (conv => whnf); refine bneq_b (by kernel_rfl) ?_
  (conv => whnf)
  exact ⟨rfl, Agr.refl _ _⟩
section
variable {S : Nat → Prop} {H : Heap} {va vb : Value} {a b : Option AM}
theorem differ_c (hS : ∀ k, S k → k < H.size) (hva : AutoV S H va a) (hvb : AutoV S H vb b) (hca : ∃ ls, CellsOk a ls) (hcb : ∃ ls, CellsOk b ls) :
    FnOk Tryd.prog 21 #[va, vb] H fun v H' => Agr (Old H) H H' ∧ ∃ w ok, v = .tuple #[.string (bA w), .bool ok] ∧ FirstR (askG xorB a b) w ok := by
  refine FnOk.of_vc Tryd.func21 rfl (Tryd.call21 _) ?_
  (conv => whnf); refine VCall.mk (first_m hS hva hvb hca hcb differ1_p) ?_
  rintro _ H1 ⟨ha1, w, ok, rfl, hw⟩
  (conv => whnf)
  exact ⟨ha1, w, ok, rfl, hw⟩
end
end Go.Proofs.YthomdogheamfpaaDoor
/- The canonical automata of two automata with the same members are alike; plain law. -/
set_option linter.unusedVariables false
set_option linter.unusedSimpArgs false
set_option maxRecDepth 100000
namespace Go.Proofs.YthomdogheamfpaaDoor
open Go.VC
attribute [local irreducible] mRun gRun atRun
/-! ### the walk, mapped -/
section
variable {K K' : Type} [DecidableEq K] [DecidableEq K'] {most : Nat} {step : K → Nat → K} {step' : K' → Nat → K'} {start : K} {f : K → K'} {I : K → Prop}
def mpF (f : K → K') (p : List K × List Nat) : List K' × List Nat := (p.1.map f, p.2)
def allI (I : K → Prop) (s : Option (List K × List Nat)) : Prop := ∀ F r, s = some (F, r) → ∀ y ∈ F, I y
theorem atF_map {F : List K} {k : K} (h : ∀ y ∈ F, f y = f k → y = k) : (atF most F k).map (fun p => (p.1.map f, p.2)) = atF most (F.map f) (f k) := by
  unfold atF
  have e : (F.map f).findIdx? (· = f k) = F.findIdx? (· = k) := by
    rw [List.findIdx?_map]
    exact findIdx_congr fun y hy => by
      show decide (f y = f k) = decide (y = k)
      rw [decide_eq_decide]
      exact ⟨h y hy, fun e => by rw [e]⟩
  rw [e]
  cases F.findIdx? (· = k) with
  | some i => rfl
  | none =>
    simp only [List.length_map]
    split
    · simp
    · rfl
theorem rowF_map {x : K} {b : Nat} {s : Option (List K × List Nat)} (hI : allI I s) (hx : I (step x b)) (hinj : ∀ y z, I y → I z → f y = f z → y = z) (hst : f (step x b) = step' (f x) b) : (rowF most step x s b).map (mpF f) = rowF most step' (f x) (s.map (mpF f)) b ∧ allI I (rowF most step x s b) := by
  cases s with
  | none => exact ⟨rfl, fun F r h => by cases h⟩
  | some p =>
    obtain ⟨F, r⟩ := p
    have hF := hI F r rfl
    have h := atF_map (most := most) (f := f) (F := F) (k := step x b) fun y hy => hinj y _ (hF y hy) hx
    have e : (rowF most step' (f x) ((some (F, r)).map (mpF f)) b) = (atF most (F.map f) (step' (f x) b)).map fun q => (q.1, r ++ [q.2]) := rfl
    rw [e, ← hst, ← h]
    cases ha : atF most F (step x b) with
    | none =>
      have e2 : rowF most step x (some (F, r)) b = none := by
        show (atF most F (step x b)).map _ = none
        rw [ha]; rfl
      rw [e2]
      exact ⟨rfl, fun F r h => by cases h⟩
    | some q =>
      obtain ⟨G, i⟩ := q
      have e2 : rowF most step x (some (F, r)) b = some (G, r ++ [i]) := by
        show (atF most F (step x b)).map _ = _
        rw [ha]; rfl
      rw [e2]
      refine ⟨rfl, fun F' r' e y hy => ?_⟩
      injection e with e
      injection e with e1 e3
      subst e1
      rcases atF_mem2 ha y hy with h | rfl
      · exact hF y h
      · exact hx
theorem foldF_map {x : K} (hinj : ∀ y z, I y → I z → f y = f z → y = z) : ∀ (l : List Nat) (s : Option (List K × List Nat)), allI I s → (∀ b ∈ l, I (step x b) ∧ f (step x b) = step' (f x) b) → (l.foldl (rowF most step x) s).map (mpF f) = l.foldl (rowF most step' (f x)) (s.map (mpF f)) ∧ allI I (l.foldl (rowF most step x) s)
  | [], s, hs, _ => ⟨rfl, hs⟩
  | b :: l, s, hs, h => by
    obtain ⟨h1, h2⟩ := rowF_map (most := most) hs (h b (by simp)).1 hinj (h b (by simp)).2
    rw [List.foldl_cons, List.foldl_cons, ← h1]
    exact foldF_map hinj l _ h2 fun c hc => h c (by simp [hc])
theorem rowsF_map (hinj : ∀ y z, I y → I z → f y = f z → y = z) (h0 : I start) (hst : ∀ x b, I x → b < 256 → I (step x b) ∧ f (step x b) = step' (f x) b) : ∀ n, (rowsF most step (List.range 256) start n).map (fun p => (p.1.map f, p.2)) = rowsF most step' (List.range 256) (f start) n ∧ ∀ F rows, rowsF most step (List.range 256) start n = some (F, rows) → ∀ y ∈ F, I y
  | 0 => ⟨rfl, fun F rows e y hy => by
    injection e with e
    injection e with e1 e2
    subst e1
    rw [List.mem_singleton.1 hy]
    exact h0⟩
  | n + 1 => by
    obtain ⟨h1, h2⟩ := rowsF_map hinj h0 hst n
    rw [rowsF, rowsF, ← h1]
    cases hr : rowsF most step (List.range 256) start n with
    | none => exact ⟨rfl, fun F rows e => by cases e⟩
    | some p =>
      obtain ⟨F, rows⟩ := p
      have hF := h2 F rows hr
      simp only [Option.bind_some, Option.map_some, List.getElem?_map]
      cases hg : F[n]? with
      | none => exact ⟨rfl, fun F' rows' e y hy => by
          injection e with e
          injection e with e1 e2
          subst e1
          exact hF y hy⟩
      | some x =>
        have hx := hF x (List.mem_of_getElem? hg)
        obtain ⟨h3, h4⟩ := foldF_map (most := most) (step := step) (step' := step') (x := x) hinj (List.range 256) (some (F, [])) (fun F' r e y hy => by
          injection e with e
          injection e with e1 e2
          subst e1
          exact hF y hy) fun b hb => hst x b hx (List.mem_range.1 hb)
        simp only [Option.map_some]
        rw [show (some (F.map f, ([] : List Nat))) = (some (F, ([] : List Nat))).map (mpF f) from rfl, ← h3]
        cases hq : (List.range 256).foldl (rowF most step x) (some (F, [])) with
        | none => exact ⟨rfl, fun F rows e => by cases e⟩
        | some q =>
          obtain ⟨G, r⟩ := q
          refine ⟨rfl, fun F' rows' e y hy => ?_⟩
          injection e with e
          injection e with e1 e2
          subst e1
          exact h4 G r hq y hy
theorem detW_map (hinj : ∀ y z, I y → I z → f y = f z → y = z) (h0 : I start) (hst : ∀ x b, I x → b < 256 → I (step x b) ∧ f (step x b) = step' (f x) b) : (detW most step start).map (List.map f) = detW most step' (f start) := by
  unfold detW detF
  rw [← (rowsF_map hinj h0 hst most).1]
  cases rowsF most step (List.range 256) start most <;> rfl
end
/-! ### members -/
attribute [local irreducible] detW
noncomputable instance decL : DecidableEq (List Nat → Bool) := fun a b => Classical.propDecidable (a = b)
open Classical in
noncomputable def langM (M : PA) (q : Nat) (w : List Nat) : Bool := if bytes5 w then M.fi (M.run q w) else false
def dvL (L : List Nat → Bool) (b : Nat) (w : List Nat) : Bool := L (b :: w)
theorem lang_eqv {M : PA} {p q : Nat} : langM M p = langM M q ↔ M.Eqv p q := by
  constructor
  · intro h w hw
    have := congrFun h w
    unfold langM at this
    rwa [if_pos hw, if_pos hw] at this
  · intro h
    funext w
    unfold langM
    by_cases hw : bytes5 w
    · rw [if_pos hw, if_pos hw, h w hw]
    · rw [if_neg hw, if_neg hw]
theorem lang_st {M : PA} {q b : Nat} (hb : b < 256) : langM M (M.st q b) = dvL (langM M q) b := by
  funext w
  unfold dvL langM
  have hiff : bytes5 (b :: w) ↔ bytes5 w := by
    unfold bytes5
    constructor
    · intro h x hx; exact h x (by simp [hx])
    · intro h x hx
      rcases List.mem_cons.1 hx with rfl | hx
      · exact hb
      · exact h x hx
  by_cases hw : bytes5 w
  · rw [if_pos hw, if_pos (hiff.2 hw)]; rfl
  · rw [if_neg hw, if_neg fun h => hw (hiff.1 h)]
theorem lang_fi {M : PA} {q : Nat} : langM M q [] = M.fi q := by
  unfold langM
  rw [if_pos (show bytes5 [] from fun b hb => by cases hb)]
  rfl
def InLang (M : PA) (O : List Nat) : Prop := detW 65537 dvL (langM M 0) = some (O.map (langM M))
theorem inLang_of {M : PA} {O : List Nat} {P : Nat → Nat} (hM : M.Ok) (hP : IsCls M (allS M) P) (h : detW 65537 (cst M P) (P 0) = some (O.map P)) (hO : ∀ x ∈ O, x < M.n) : InLang M O := by
  have hall : ∀ {x : Nat}, x < M.n → x ∈ allS M := fun h => List.mem_range.2 h
  obtain ⟨f, hf⟩ : ∃ f : Nat → List Nat → Bool, ∀ q, q < M.n → f (P q) = langM M q := by
    refine ⟨fun k => match (List.range M.n).find? (fun q => P q = k) with
      | some q => langM M q
      | none => fun _ => false, fun q hq => ?_⟩
    show (match (List.range M.n).find? (fun x => P x = P q) with
      | some q => langM M q
      | none => fun _ => false) = _
    cases hx : (List.range M.n).find? (fun x => P x = P q) with
    | none =>
      have := List.find?_eq_none.1 hx q (List.mem_range.2 hq)
      simp at this
    | some y =>
      have h1 : P y = P q := by simpa using List.find?_some hx
      have h2 := List.mem_range.1 (List.mem_of_find?_eq_some hx)
      exact lang_eqv.2 ((hP y (hall h2) q (hall hq)).1 h1)
  have hm := detW_map (most := 65537) (step := cst M P) (step' := dvL) (start := P 0) (f := f) (I := fun k => ∃ q, q < M.n ∧ k = P q) (by
    rintro y z ⟨p, hp, rfl⟩ ⟨q, hq, rfl⟩ e
    rw [hf p hp, hf q hq] at e
    exact (hP p (hall hp) q (hall hq)).2 (lang_eqv.1 e)) ⟨0, hM.pos, rfl⟩ (by
    rintro x b ⟨q, hq, rfl⟩ hb
    rw [cst_of hM hP hq hb, hf q hq, hf _ (hM.cl q b hq hb), lang_st hb]
    exact ⟨⟨_, hM.cl q b hq hb, rfl⟩, rfl⟩)
  rw [h, hf 0 hM.pos] at hm
  unfold InLang
  rw [← hm]
  simp only [Option.map_some, List.map_map]
  congr 1
  exact List.map_congr_left fun x hx => hf x (hO x hx)
theorem canon_like {M M' : PA} {O C : List Nat} {st st' : Int → Nat → Int} {fi fi' : Int → Bool} (hO : InLang M O) (hC : InLang M' C) (lO : LeadsC M O st fi) (lC : LeadsC M' C st' fi') (hL : langM M 0 = langM M' 0) :
    O.length = C.length ∧ (∀ i : Nat, i < O.length → fi (i : Int) = fi' (i : Int)) ∧ ∀ i b : Nat, i < O.length → b < 256 → st (i : Int) b = st' (i : Int) b := by
  have hnd := (detW_len (by decide) hO).2.2.1
  have he : O.map (langM M) = C.map (langM M') := by
    unfold InLang at hO hC
    rw [hL, hC] at hO
    injection hO with hO
    exact hO.symm
  have hlen : O.length = C.length := by have := congrArg List.length he; simpa using this
  have pair : ∀ i : Nat, i < O.length → ∃ x y, O[i]? = some x ∧ C[i]? = some y ∧ langM M x = langM M' y := fun i hi => by
    have h1 : O[i]? = some O[i] := List.getElem?_eq_getElem hi
    have h2 : C[i]? = some (C[i]'(by omega)) := List.getElem?_eq_getElem (by omega)
    refine ⟨_, _, h1, h2, ?_⟩
    have := congrArg (fun l => l[i]?) he
    simp only [List.getElem?_map, h1, h2, Option.map_some, Option.some.injEq] at this
    exact this
  refine ⟨hlen, fun i hi => ?_, fun i b hi hb => ?_⟩
  · obtain ⟨x, y, h1, h2, h3⟩ := pair i hi
    rw [lO.fi i x h1, lC.fi i y h2, ← lang_fi, h3, lang_fi]
  · obtain ⟨x, y, h1, h2, h3⟩ := pair i hi
    obtain ⟨t, z, e1, e2, e3⟩ := lO.st i b x h1 hb
    obtain ⟨t', z', g1, g2, g3⟩ := lC.st i b y h2 hb
    have k1 : langM M z = langM M' z' := by rw [lang_eqv.2 e3, lang_eqv.2 g3, lang_st hb, lang_st hb, h3]
    have m1 : (O.map (langM M))[t]? = some (langM M z) := by rw [List.getElem?_map, e2]; rfl
    have m2 : (O.map (langM M))[t']? = some (langM M z) := by rw [he, List.getElem?_map, g2, k1]; rfl
    have : t = t' := by
      obtain ⟨a1, a2⟩ := List.getElem?_eq_some_iff.1 m1
      obtain ⟨b1, b2⟩ := List.getElem?_eq_some_iff.1 m2
      exact (List.getElem_inj hnd).1 (a2.trans b2.symm)
    rw [e1, g1, this]
/-! ### the members of the program's automata -/
/-! ### the words of askG -/
theorem ask_leads (ask : Bool → Bool → Bool) (a b : Option AM) : ∀ (w : List Nat) (s x y : Int), Leads (askG ask a b) w ⟨s, x, y⟩ ↔ ask (finM a (runL a w x)) (finM b (runL b w y)) = true
  | [], s, x, y => Iff.rfl
  | c :: w, s, x, y => by
    rw [runL_cons, runL_cons, ← ask_leads ask a b w 0]
    constructor
    · rintro ⟨t, ht, h⟩
      rw [List.mem_singleton.1 ht] at h
      exact h
    · intro h
      exact ⟨_, List.mem_singleton.2 rfl, h⟩
theorem ask_root (ask : Bool → Bool → Bool) (a b : Option AM) (w : List Nat) : Leads (askG ask a b) w root ↔ ask (accL a w) (accL b w) = true := ask_leads ask a b w 0 0 0
end Go.Proofs.YthomdogheamfpaaDoor
/- odd and ahead of the laws of layer 7: the walks. -/
set_option linter.unusedVariables false
set_option linter.unusedSimpArgs false
set_option maxRecDepth 100000
namespace Go.Proofs.YthomdogheamfpaaDoor
open Go.VC
def odd7M : AM := madeM [BitVec.allOnes 256] [[1], [0]] [false, true]
def odd7N : AM := ⟨odd7M.sets, List.replicate 256 0, [[0 + 1], [0 + 0]], [false, true]⟩
theorem odd7_sound : soundB [BitVec.allOnes 256] [[1], [0]] 2 = true := by rfl
theorem odd7_same : odd7M.cell = List.replicate 256 0 := by kernel_rfl
theorem odd7_auto : autoOf [BitVec.allOnes 256] [[1], [0]] [false, true] = some odd7M := by
  unfold autoOf
  rw [show soundB [BitVec.allOnes 256] [[1], [0]] [false, true].length = true from odd7_sound]; rfl
attribute [local irreducible] odd7M mRun gRun atRun
theorem odd7_c (H : Heap) : FnOk Tryd.prog 39 #[] H fun v' H' => Agr (Old H) H H' ∧ AutoV (Old H') H' v' (some odd7M) := by
  refine FnOk.of_vc Tryd.func39 rfl (Tryd.call39 _) ?_
  (conv => whnf); refine pures (span_p 0 255 (by decide) (by decide) H) fun H1 ha1 => ?_
  rw [spanS_full]
  have hs1 := old_size ha1
  (conv => whnf); refine vbuild1 sl83 (setL (BitVec.allOnes 256)) rfl rfl (by decide) (by decide) ?_
  intro b2 H2 hb2 hs2 hk2 ha2
  (conv => whnf); refine vbuild1 sl33 [.int .i64 1] rfl rfl (by decide) (by decide) ?_
  intro b3 H3 hb3 hs3 hk3 ha3
  (conv => whnf); refine vbuild1 sl33 [.int .i64 0] rfl rfl (by decide) (by decide) ?_
  intro b4 H4 hb4 hs4 hk4 ha4
  (conv => whnf); refine vbuild2 sl23 [.slice (some ⟨b3, 0, none⟩) 1 1] [.slice (some ⟨b4, 0, none⟩) 1 1] rfl rfl rfl rfl (by decide) (by decide) ?_
  intro b5 H5 hb5 hs5 hk5 ha5
  (conv => whnf); refine vbuild2 sl24 [.bool false] [.bool true] rfl rfl rfl rfl (by decide) (by decide) ?_
  intro b6 H6 hb6 hs6 hk6 ha6
  have hk5' := hk5.agr ha6 (show b5 < b6 by omega)
  have hk4' := (hk4.agr ha5 (show b4 < b5 by omega)).agr ha6 (show b4 < b6 by omega)
  have hk3' := ((hk3.agr ha4 (show b3 < b4 by omega)).agr ha5 (show b3 < b5 by omega)).agr ha6 (show b3 < b6 by omega)
  have hk2' := (((hk2.agr ha3 (show b2 < b3 by omega)).agr ha4 (show b2 < b4 by omega)).agr ha5 (show b2 < b5 by omega)).agr ha6 (show b2 < b6 by omega)
  have hA6 : Agr (Old H) H H6 := ((((ha1.trans (ha2.mono fun k hk => by unfold Old at hk; omega)).trans (ha3.mono fun k hk => by unfold Old at hk; omega)).trans (ha4.mono fun k hk => by unfold Old at hk; omega)).trans (ha5.mono fun k hk => by unfold Old at hk; omega)).trans (ha6.mono fun k hk => by unfold Old at hk; omega)
  have i1 : SlD tI (Fresh H H6) H6 (some ⟨b3, 0, none⟩) 1 [1] := SlD.ofBlk hk3' ⟨by omega, by omega⟩ (Ty.reps_one ⟨rfl, inI64 (x := 1) (by decide)⟩) rfl (by decide)
  have i2 : SlD tI (Fresh H H6) H6 (some ⟨b4, 0, none⟩) 1 [0] := SlD.ofBlk hk4' ⟨by omega, by omega⟩ (Ty.reps_one ⟨rfl, inI64 (x := 0) (by decide)⟩) rfl (by decide)
  (conv => whnf)
  refine VCall.mk (new_c (some ⟨b2, 0, none⟩) (some ⟨b5, 0, none⟩) (some ⟨b6, 0, none⟩) 1 2 2 [BitVec.allOnes 256] [[1], [0]] [false, true] (Fresh H H6) H6 (fun k hk => hk.2)
    (SlD.ofBlk hk2' ⟨by omega, by omega⟩ (Ty.reps_one rfl) rfl (by decide)) (SlD.ofBlk hk5' ⟨by omega, by omega⟩ ⟨[_], [_], rfl, ⟨_, _, rfl, i1⟩, Ty.reps_one ⟨_, _, rfl, i2⟩⟩ rfl (by decide)) (SlD.ofBlk hk6 ⟨by omega, by omega⟩ ⟨[_], [_], rfl, rfl, Ty.reps_one rfl⟩ rfl (by decide))) ?_
  rintro v7 H7 ⟨ha7, hs7, hv7⟩
  rw [show soundB [BitVec.allOnes 256] [[1], [0]] [false, true].length = true from odd7_sound] at hv7
  (conv => whnf)
  refine ⟨hA6.trans (ha7.mono fun k hk => by unfold Old at *; omega), ?_⟩
  have h := hv7.mono (S' := Old H7) fun k hk => hk.2
  simp only [if_true] at h
  unfold odd7M
  exact h
end Go.Proofs.YthomdogheamfpaaDoor
/- The law DfaNews: its walk. -/
set_option linter.unusedVariables false
set_option linter.unusedSimpArgs false
set_option maxRecDepth 100000
namespace Go.VC
end Go.VC
namespace Go.Proofs.YthomdogheamfpaaDoor
open Go.VC
attribute [local irreducible] mRun atRun

end Go.Proofs.YthomdogheamfpaaDoor
/- Words, listed, Cells as memory of the call's own; the law DfaCells: its walk. -/
set_option linter.unusedVariables false
set_option linter.unusedSimpArgs false
set_option maxRecDepth 100000
namespace Go.Proofs.YthomdogheamfpaaDoor
open Go.VC
attribute [local irreducible] mRun atRun gRun

/-! ### the plain law -/
theorem gRun_congr {s t : Nat → Nat → Bool} (hr : ∀ a, s a a = true) (h : ∀ b g, b < 256 → g < 256 → s b g = t b g) : ∀ b, b ≤ 256 → gRun s b = gRun t b
  | 0, _ => by unfold gRun; rfl
  | b + 1, hb => by
    have ih := gRun_congr hr h b (by omega)
    have hok := gRun_ok hr b
    have hf : (gRun s b).1.findIdx? (fun g => s b g) = (gRun t b).1.findIdx? fun g => t b g := by
      rw [← ih]
      exact findIdx_congr fun g hg => by
        obtain ⟨k, hk⟩ := List.getElem?_of_mem hg
        exact h b g (by omega) (by have := (hok.first k g hk).1; omega)
    cases hfi : (gRun t b).1.findIdx? fun g => t b g with
    | some k => rw [gRun_some hfi, gRun_some (hf.trans hfi), ih]
    | none => rw [gRun_none hfi, gRun_none (hf.trans hfi), ih]
theorem gRun_one {s : Nat → Nat → Bool} (h : ∀ b, s b 0 = true) : ∀ b, gRun s (b + 1) = ([0], List.replicate (b + 1) 0)
  | 0 => by rw [gRun_none (by unfold gRun; rfl)]; unfold gRun; rfl
  | b + 1 => by
    have ih := gRun_one h b
    have hfi : (gRun s (b + 1)).1.findIdx? (fun g => s (b + 1) g) = some 0 := by rw [ih]; simp [List.findIdx?_cons, h]
    rw [gRun_some hfi, ih]
    simp only [List.replicate_succ' (n := b + 1)]
theorem cells_law (cells : List (BitVec 256)) (next : List (List Int)) (final : List Bool) : (cellsM (autoOf cells next final)).length = (gRun (simD (dfaOf cells next final)) 256).1.length ∧
    ∀ (k : Nat) x, (cellsM (autoOf cells next final))[k]? = some x → ∀ i, i < 256 → x.getLsbD i = atSet (gRun (simD (dfaOf cells next final)) 256).2 k i := by
  unfold autoOf dfaOf
  split
  · rename_i hs
    have hsim : ∀ b g, b < 256 → g < 256 → simD (madeD cells next final) b g = simT next cells b g := by
      intro b g hb hg
      unfold simD simTo simT
      rw [Bool.eq_iff_iff, List.all_eq_true, List.all_eq_true]
      have hlen : (madeD cells next final).next.length = next.length := by simp [madeD]
      constructor
      · intro h row hrow
        obtain ⟨q, hq⟩ := List.getElem?_of_mem hrow
        have := h q (List.mem_range.2 (by rw [hlen]; exact (List.getElem?_eq_some_iff.1 hq).1))
        rwa [madeD_step hq hb, madeD_step hq hg] at this
      · intro h q hq
        have hq' := List.mem_range.1 hq
        rw [hlen] at hq'
        obtain ⟨row, hrow⟩ := get_some hq'
        rw [madeD_step hrow hb, madeD_step hrow hg]
        exact h row (List.mem_of_getElem? hrow)
    rw [gRun_congr (simD_refl _) hsim 256 (Nat.le_refl _)]
    exact sets_of_g hs
  · have hone : ∀ b, simD noneD b 0 = true := by
      intro b
      unfold simD simTo
      rw [List.all_eq_true]
      intro q hq
      have hq1 : q < 1 := List.mem_range.1 hq
      obtain rfl : q = 0 := by omega
      have hz : ∀ c, stepD noneD 0 c = 0 := fun c => by
        have h0 : noneD.cell.getD c 0 = 0 := by
          simp only [noneD]
          rw [List.getD_eq_getElem?_getD, List.getElem?_replicate]
          split <;> rfl
        unfold stepD
        rw [h0]
        rfl
      show (stepD noneD 0 b == stepD noneD 0 0) = true
      rw [hz, hz]; rfl
    have h1 := gRun_one hone 255
    rw [show 255 + 1 = 256 from rfl] at h1
    rw [h1]
    refine ⟨rfl, fun k x hx i hi => ?_⟩
    simp only [cellsM] at hx
    have hk := (List.getElem?_eq_some_iff.1 hx).1
    simp only [List.length_singleton] at hk
    rw [show k = 0 by omega, List.getElem?_cons_zero] at hx
    cases hx
    rw [BitVec.getLsbD_allOnes, show k = 0 by omega]
    unfold atSet
    rw [List.getElem?_replicate, if_pos hi]
    simp [hi]

end Go.Proofs.YthomdogheamfpaaDoor
/- One table just where the same members; the automaton odd: plain laws. -/
set_option linter.unusedVariables false
set_option linter.unusedSimpArgs false
set_option maxRecDepth 100000
namespace Go.Proofs.YthomdogheamfpaaDoor
open Go.VC
attribute [local irreducible] mRun gRun atRun odd7M
/-! ### cells by steps -/
def simO (o : Option AM) (b g : Nat) : Bool := (List.range (stN o)).all fun q => stepM o (q : Int) b == stepM o (q : Int) g
def cellsG (sim : Nat → Nat → Bool) : List (BitVec 256) := (atSets (gRun sim 256).2 (gRun sim 256).1.length).map bvN
theorem simO_refl (o : Option AM) (a : Nat) : simO o a a = true := by simp [simO]
theorem cellsG_congr {s t : Nat → Nat → Bool} (hr : ∀ a, s a a = true) (h : ∀ b g, b < 256 → g < 256 → s b g = t b g) : cellsG s = cellsG t := by
  unfold cellsG
  rw [gRun_congr hr h 256 (Nat.le_refl _)]
theorem simO_D {o : Option AM} {D : DM} (hn : stN o = D.next.length) (hst : ∀ q b : Nat, q < stN o → b < 256 → stepM o (q : Int) b = stepD D (q : Int) b) {b g : Nat} (hb : b < 256) (hg : g < 256) : simO o b g = simD D b g := by
  unfold simO simD simTo
  rw [hn, Bool.eq_iff_iff, List.all_eq_true, List.all_eq_true]
  constructor <;> intro h q hq
  · have h1 := h q hq
    have hq1 := List.mem_range.1 hq
    rw [hst q b (by omega) hb, hst q g (by omega) hg] at h1
    exact h1
  · have h1 := h q hq
    have hq1 := List.mem_range.1 hq
    rw [hst q b (by omega) hb, hst q g (by omega) hg]
    exact h1
theorem cells_sim (cells : List (BitVec 256)) (next : List (List Int)) (final : List Bool) : cellsM (autoOf cells next final) = cellsG (simO (autoOf cells next final)) := by
  obtain ⟨h1, h2⟩ := cells_law cells next final
  have e : cellsG (simO (autoOf cells next final)) = cellsG (simD (dfaOf cells next final)) := cellsG_congr (simO_refl _) fun b g hb hg => simO_D (both_n _ _ _) (fun q b _ hb => both_step _ _ _ _ hb) hb hg
  rw [e]
  unfold cellsG
  refine List.ext_getElem? fun k => ?_
  by_cases hk : k < (gRun (simD (dfaOf cells next final)) 256).1.length
  · obtain ⟨x, hx⟩ := get_some (l := cellsM (autoOf cells next final)) (k := k) (by rw [h1]; exact hk)
    rw [hx, List.getElem?_map, atSets_get hk]
    simp only [Option.map_some]
    congr 1
    refine BitVec.eq_of_getLsbD_eq fun i hi => ?_
    rw [h2 k x hx i hi, bvN_bit _ hi]
  · rw [List.getElem?_eq_none (by omega), List.getElem?_eq_none (by rw [List.length_map, atSets_len]; omega)]
/-! ### the table's text -/
def tabM (o : Option AM) : List Nat := tableM (cellsM o) (stN o) (paO o).st (paO o).fi
def IsMade (o : Option AM) : Prop := ∃ cells next final, o = autoOf cells next final
theorem IsMade.sim {o : Option AM} (h : IsMade o) : cellsM o = cellsG (simO o) := by
  obtain ⟨c, n, f, rfl⟩ := h
  exact cells_sim c n f
theorem IsMade.ok {o : Option AM} (h : IsMade o) : ∃ ls, CellsOk o ls := by
  obtain ⟨c, n, f, rfl⟩ := h
  exact cells_ok c n f
theorem IsMade.steps {o : Option AM} (h : IsMade o) : StepOk o := by
  obtain ⟨c, n, f, rfl⟩ := h
  exact (both_of c n f).stepOk
/-- The canonical automaton of o. -/
structure IsCan (o : Option AM) (a : Option AM) : Prop where
  made : IsMade a
  ex : ∃ O, InLang (paO o) O ∧ InOrder (paO o) O ∧ LeadsC (paO o) O (stepM a) (finM a) ∧ stN a = O.length
theorem isCan_of {o : Option AM} {rows : List (List Nat)} {O : List Nat} (so : StepOk o) (hs : soundB (cellsM o) (rows.map rowI) (O.map fun (x : Nat) => finM o (x : Int)).length = true) (hin : InOrder (paO o) O)
    (hl : LeadsC (paO o) O (stepM (some (madeM (cellsM o) (rows.map rowI) (O.map fun (x : Nat) => finM o (x : Int))))) (finM (some (madeM (cellsM o) (rows.map rowI) (O.map fun (x : Nat) => finM o (x : Int)))))) (hr : rows.length = O.length) : IsCan o (some (madeM (cellsM o) (rows.map rowI) (O.map fun (x : Nat) => finM o (x : Int)))) := by
  have hm : IsMade (some (madeM (cellsM o) (rows.map rowI) (O.map fun (x : Nat) => finM o (x : Int)))) := ⟨_, _, _, by unfold autoOf; rw [if_pos hs]⟩
  obtain ⟨P, hP, hO⟩ := id hin
  refine ⟨hm, O, inLang_of (paO_ok so) hP hO hl.lt, hin, hl, ?_⟩
  show (madeM (cellsM o) (rows.map rowI) (O.map fun (x : Nat) => finM o (x : Int))).next.length = _
  unfold madeM
  simp [hr]
/-! ### odd -/
theorem odd7_N : odd7M = odd7N := by
  have h2 : odd7M.next = [[0 + 1], [0 + 0]] := by unfold odd7M; kernel_rfl
  have h3 : odd7M.final = [false, true] := by unfold odd7M; rfl
  unfold odd7N
  rw [← odd7_same, ← h2, ← h3]
theorem odd7_cell (b : Nat) : odd7N.cell.getD b 0 = 0 := by
  show (List.replicate 256 0).getD b 0 = 0
  rw [List.getD_eq_getElem?_getD, List.getElem?_replicate]
  split <;> rfl
theorem odd7_step0 (b : Nat) : stepM (some odd7M) 0 b = 1 := by
  rw [odd7_N]
  show ((odd7N.next[0]?).getD []).getD (odd7N.cell.getD b 0) 0 = 1
  rw [odd7_cell]; rfl
theorem odd7_step1 (b : Nat) : stepM (some odd7M) 1 b = 0 := by
  rw [odd7_N]
  show ((odd7N.next[1]?).getD []).getD (odd7N.cell.getD b 0) 0 = 0
  rw [odd7_cell]; rfl
theorem odd7_fin0 : finM (some odd7M) 0 = false := by rw [odd7_N]; rfl
theorem odd7_fin1 : finM (some odd7M) 1 = true := by rw [odd7_N]; rfl
theorem odd7_n : stN (some odd7M) = 2 := by rw [odd7_N]; rfl
theorem odd7_made : IsMade (some odd7M) := ⟨_, _, _, odd7_auto.symm⟩
/-- What Differ says of odd and nil. -/
theorem odd7_differ {w : List Nat} {ok : Bool} (h : FirstR (askG xorB (some odd7M) none) w ok) : w = [0] ∧ ok = true := by
  have hb : bytes_ [0] := fun b hb => by simp at hb; omega
  have hacc : ∀ u, accL none u = false := fun u => rfl
  have hl : Leads (askG xorB (some odd7M) none) [0] root := (ask_root _ _ _ _).2 (by
    rw [hacc]
    show xorB (finM (some odd7M) (stepM (some odd7M) 0 0)) false = true
    rw [odd7_step0, odd7_fin1]
    rfl)
  have hF : FirstR (askG xorB (some odd7M) none) [0] true := ⟨fun _ => ⟨⟨rfl, hb, ⟨root, rfl, hl⟩, fun u hu _ _ => ?_⟩, fun u _ hul => ?_⟩, fun h => (by cases h)⟩
  · exact h.uniq hF
  · have := zeros_least u
    rw [hu] at this
    exact this
  · obtain ⟨n, rfl, hn⟩ := hul
    have h1 := (ask_root _ _ _ _).1 hn
    cases u with
    | nil =>
      rw [hacc] at h1
      have h2 : xorB (finM (some odd7M) 0) false = true := h1
      rw [odd7_fin0] at h2
      cases h2
    | cons c u => show 1 ≤ (c :: u).length; simp
theorem gRun_all : gRun (fun _ _ => true) 256 = ([0], List.replicate 256 0) := gRun_one (fun _ => rfl) 255
theorem show_full : showM (BitVec.allOnes 256) = [91, 94, 93] := by
  have h1 : countM (BitVec.allOnes 256) = 256 := by decide
  have h2 : ∀ i, pieM (fun k => (~~~ (BitVec.allOnes 256)).getLsbD k) i = [] := fun i => by
    have : (~~~ (BitVec.allOnes 256)).getLsbD i = false := by simp
    unfold pieM
    simp only [this]
    rfl
  have h3 : ∀ n, bodM (fun k => (~~~ (BitVec.allOnes 256)).getLsbD k) n = [] := fun n => by
    induction n with
    | zero => rfl
    | succ n ih => rw [bod_succ, ih, h2]; rfl
  unfold showM
  rw [if_neg (by rw [h1]; decide), if_pos (by rw [h1]; decide)]
  rw [if_pos (by rw [h1]; decide), h3]
  rfl
theorem odd7_tab {a : Option AM} (h : IsCan (some odd7M) a) : tabM a = [115, 116, 97, 116, 101, 115, 32, 50, 10, 48, 32, 91, 94, 93, 62, 49, 10, 49, 42, 32, 91, 94, 93, 62, 48, 10] := by
  obtain ⟨O, h1, -, h3, h4⟩ := h.ex
  obtain ⟨hO1, -, hnd, h0⟩ := detW_len (by decide) h1
  have hlt : ∀ x ∈ O, x < 2 := fun x hx => by
    have := h3.lt x hx
    have e : (paO (some odd7M)).n = 2 := odd7_n
    omega
  have f0 : (paO (some odd7M)).fi 0 = false := odd7_fin0
  have f1 : (paO (some odd7M)).fi 1 = true := odd7_fin1
  have s0 : ∀ b, (paO (some odd7M)).st 0 b = 1 := fun b => by
    show (stepM (some odd7M) 0 b).toNat = 1
    rw [odd7_step0]; rfl
  have s1 : ∀ b, (paO (some odd7M)).st 1 b = 0 := fun b => by
    show (stepM (some odd7M) 1 b).toNat = 0
    rw [odd7_step1]; rfl
  have two : ∀ {x : Nat}, x < 2 → x = 0 ∨ x = 1 := fun h => by omega
  have hx0 : O[0]? = some 0 := by
    rw [List.getElem?_map, Option.map_eq_some_iff] at h0
    obtain ⟨x, hx, hx2⟩ := h0
    rcases two (hlt x (List.mem_of_getElem? hx)) with rfl | rfl
    · exact hx
    · have := congrFun hx2 []
      rw [lang_fi, lang_fi, f0, f1] at this
      cases this
  have hnd2 : O.Nodup := by
    unfold List.Nodup at hnd ⊢
    rw [List.pairwise_map] at hnd
    exact hnd.imp fun h e => h (by rw [e])
  have hOe : O = [0, 1] := by
    obtain ⟨t, z, -, e2, e3⟩ := h3.st 0 0 0 hx0 (by decide)
    rw [s0] at e3
    have hz : z = 1 := by
      rcases two (hlt z (List.mem_of_getElem? e2)) with rfl | rfl
      · have := e3.fi
        rw [f0, f1] at this; cases this
      · rfl
    subst hz
    have hm := List.mem_of_getElem? e2
    match O, hx0, hm, hnd2, hlt with
    | [], h, _, _, _ => cases h
    | [x], h, hm, _, _ =>
      cases h
      simp at hm
    | [x, y], h, hm, _, _ =>
      cases h
      simp at hm
      rw [← hm]
    | x :: y :: z :: r, h, hm, hnd, hlt =>
      cases h
      exfalso
      have h1 := hlt y (by simp)
      have h2 := hlt z (by simp)
      simp at hnd
      omega
  subst hOe
  have hn : stN a = 2 := h4
  have hfi0 : finM a 0 = false := by rw [← f0]; exact h3.fi 0 0 rfl
  have hfi1 : finM a 1 = true := by rw [← f1]; exact h3.fi 1 1 rfl
  have st0 : ∀ b, b < 256 → stepM a 0 b = 1 := fun b hb => by
    obtain ⟨t, z, e1, e2, e3⟩ := h3.st 0 b 0 rfl hb
    have e1 : stepM a 0 b = t := e1
    rw [e1]
    rw [s0] at e3
    match t, e2 with
    | 0, e2 =>
      cases e2
      have := e3.fi
      rw [f0, f1] at this; cases this
    | 1, _ => rfl
    | t + 2, e2 => simp at e2
  have st1 : ∀ b, b < 256 → stepM a 1 b = 0 := fun b hb => by
    obtain ⟨t, z, e1, e2, e3⟩ := h3.st 1 b 1 rfl hb
    have e1 : stepM a 1 b = t := e1
    rw [e1]
    rw [s1] at e3
    match t, e2 with
    | 0, _ => rfl
    | 1, e2 =>
      cases e2
      have := e3.fi
      rw [f0, f1] at this; cases this
    | t + 2, e2 => simp at e2
  have hcells : cellsM a = [BitVec.allOnes 256] := by
    rw [h.made.sim, cellsG_congr (t := fun _ _ => true) (simO_refl a) fun b g hb hg => by
      unfold simO
      rw [List.all_eq_true]
      intro q hq
      rw [hn] at hq
      rcases two (List.mem_range.1 hq) with rfl | rfl
      · show (stepM a 0 b == stepM a 0 g) = true
        rw [st0 b hb, st0 g hg]; rfl
      · show (stepM a 1 b == stepM a 1 g) = true
        rw [st1 b hb, st1 g hg]; rfl]
    unfold cellsG
    rw [gRun_all]
    show [bvN (atSet (List.replicate 256 0) 0)] = _
    refine congrArg (fun x => [x]) ?_
    refine BitVec.eq_of_getLsbD_eq fun i hi => ?_
    rw [bvN_bit _ hi, BitVec.getLsbD_allOnes]
    unfold atSet
    rw [List.getElem?_replicate, if_pos hi]
    simp [hi]
  unfold tabM
  rw [hcells, hn]
  have e0 : (paO a).st 0 (nextM (BitVec.allOnes 256) 0).1 = 1 := by
    show (stepM a 0 _).toNat = 1
    rw [st0 _ (nextM_lt _ _)]; rfl
  have e1 : (paO a).st 1 (nextM (BitVec.allOnes 256) 0).1 = 0 := by
    show (stepM a 1 _).toNat = 0
    rw [st1 _ (nextM_lt _ _)]; rfl
  have g0 : (paO a).fi 0 = false := hfi0
  have g1 : (paO a).fi 1 = true := hfi1
  have l0 : lineM [BitVec.allOnes 256] (paO a).st (paO a).fi 0 = [48, 32, 91, 94, 93, 62, 49, 10] := by
    unfold lineM segsM
    rw [g0, List.flatMap_cons, List.flatMap_nil]
    unfold segM
    rw [show_full, e0, dN_small (by decide), dN_small (by decide)]
    rfl
  have l1 : lineM [BitVec.allOnes 256] (paO a).st (paO a).fi 1 = [49, 42, 32, 91, 94, 93, 62, 48, 10] := by
    unfold lineM segsM
    rw [g1, List.flatMap_cons, List.flatMap_nil]
    unfold segM
    rw [show_full, e1, dN_small (by decide), dN_small (by decide)]
    rfl
  unfold tableM headM linesM
  rw [show List.range 2 = [0, 1] from rfl, List.flatMap_cons, List.flatMap_cons, List.flatMap_nil, l0, l1, dN_small (by decide)]
  rfl
/-! ### a table's bytes -/
end Go.Proofs.YthomdogheamfpaaDoor
/- louperef07.Table: the walk. -/
set_option linter.unusedVariables false
set_option linter.unusedSimpArgs false
set_option maxRecDepth 100000
namespace Go.Proofs.YthomdogheamfpaaDoor
open Go.VC Go.Lib
attribute [local irreducible] mRun gRun atRun
theorem cat_big {u v : List Nat} (hu : u.length ≤ 60000000000) (hv : v.length ≤ 60000000000) : (bA u).size + (bA v).size ≤ maxLen := by
  rw [bsz, bsz]
  unfold maxLen
  omega
theorem nextM_of {c : BitVec 256} {g : Nat} (hg : g < 256) (h : c.getLsbD g = true) : c.getLsbD (nextM c 0).1 = true ∧ ∀ j, j < (nextM c 0).1 → c.getLsbD j = false := by
  unfold nextM
  cases hf : (List.range 256).find? (fun b => decide (0 ≤ b) && c.getLsbD b) with
  | none =>
    have := List.find?_eq_none.1 hf g (List.mem_range.2 hg)
    simp [h] at this
  | some l =>
    have h1 := List.find?_range_eq_some.1 hf
    obtain ⟨h1, -, h3⟩ := h1
    refine ⟨by simpa using h1, fun j hj => ?_⟩
    have := h3 j hj
    simpa using this
theorem cellsD_some {D : DM} {c : BitVec 256} (h : c ∈ cellsD D) : c.getLsbD (nextM c 0).1 = true ∧ ∀ j, j < (nextM c 0).1 → c.getLsbD j = false := by
  have hg := gRun_ok (simD_refl D) 256
  obtain ⟨k, hk⟩ := List.getElem?_of_mem h
  unfold cellsD at hk
  have hlt : k < (gRun (simD D) 256).1.length := by
    have := (List.getElem?_eq_some_iff.1 hk).1
    rwa [List.length_map, atSets_len] at this
  rw [List.getElem?_map, atSets_get hlt] at hk
  simp only [Option.map_some, Option.some.injEq] at hk
  obtain ⟨g, hgk⟩ := get_some hlt
  obtain ⟨g1, g2⟩ := hg.first k g hgk
  refine nextM_of (g := g) g1 ?_
  rw [← hk, bvN_bit _ g1]
  unfold atSet
  rw [g2]
  simp
set_option maxHeartbeats 16000000 in
theorem reftable7_c {S : Nat → Prop} {H : Heap} {v : Value} {D : DM} {M : PA} {by_ : List Nat} (hS : ∀ k, S k → k < H.size) (hv : DfaV S H v D) (hok : D.Ok) (hD : DocM D M) (hM : M.Ok) (hR : RepD D by_) :
    FnOk Tryd.prog 20 #[v] H fun r H' => Agr (Old H) H H' ∧ ∃ D', DocC D M by_ D' ∧ r = .string (bA (tableM (cellsD D') D'.next.length (fun q b => (stepD D' (q : Int) b).toNat) fun q => finD D' (q : Int))) := by
  refine FnOk.of_vc Tryd.func20 rfl (Tryd.call20 _) ?_
  have hv0 := hv
  (conv => whnf); refine dfa_box hv fun ra rc na nc fa fc he a1 a2 a3 => ?_
  intro p1 H1 hp1 hs1 hb1 ha1
  have st1 := (St.nil H).box hp1 hs1 hb1 ha1
  have hl0 := hv0.len
  (conv => whnf); refine ldN (cs := dfaL D.cell (.slice ra D.reps.length rc) (.slice na D.next.length nc) (.slice fa D.final.length fc)) (by rw [dfaL_len hl0]; exact ag35) ((st1.blk 0 rfl).cells fun j v hv => by rw [Nat.zero_add]; exact hv) trivial ?_
  rw [← he]
  (conv => whnf); refine VCall.mk (canon7_c (S := S) (fun k hk => st1.up (hS k hk)) (hv0.frame (st1.old.mono hS)) hok hD hM hR) ?_
  rintro r H2 ⟨ha2, D', hw, hdc⟩
  have st2 := st1.call ha2
  have hok' := hdc.choose_spec.2.2.2.1
  obtain ⟨hl, ra', rc', na', nc', fa', fc', e, h1, h2, h3⟩ := hw
  have hn1 := hok'.n1
  have hn2 := hok'.n2
  have hfl := hok'.fl
  have hw : DfaV (Old H2) H2 r D' := ⟨hl, ra', rc', na', nc', fa', fc', e, h1, h2, h3⟩
  obtain ⟨la, hla⟩ : ∃ la, la = dfaL D'.cell (.slice ra' D'.reps.length rc') (.slice na' D'.next.length nc') (.slice fa' D'.final.length fc') := ⟨_, rfl⟩
  have hll : la.length = 259 := by rw [hla]; exact dfaL_len hl
  have hone : la.all (·.oneCell') = true := by rw [hla]; exact dfaL_ones rfl rfl rfl
  rw [← hla] at e
  subst e
  (conv => whnf); refine valloc _ (dfaL (List.replicate 256 0) (.slice none 0 0) (.slice none 0 0) (.slice none 0 0)) rfl (by kernel_rfl) ?_
  intro p3 H3 hp3 hs3 hb3 ha3
  have st3 := (St.nil H2).box hp3 hs3 hb3 ha3
  (conv => whnf); refine stNB (cs := la) st3 0 (by rw [hll]; rfl) rfl (by rw [hll]; decide) hone fun H4 st4 => ?_
  rw [splice_whole (by rw [hll]; rfl)] at st4
  have hwv : ∀ {G : Heap} {ps : List Pc}, St H2 G ps → DfaV (Old H2) G (.agg la.toArray) D' := fun st => hw.frame st.old
  have hld : ∀ {G : Heap} {ps : List Pc} (S0 : Nat → Prop) {K : Value → Prop} (i : Nat) (st : St H2 G ps), ps[i]? = some (pB 35 p3 la) → S0 p3 → K (.agg la.toArray) → VDet Tryd.prog (Instr.loadAt 35 (.pointer (some ⟨p3, 0, none⟩))) S0 G K := fun S0 K i st hp hS0 hK =>
    ldN (cs := la) (by rw [hll]; exact ag35) ((st.blk i hp).cells fun j v hv => by rw [Nat.zero_add]; exact hv) hS0 hK
  have hnx : la[257]? = some (.slice na' D'.next.length nc') := by rw [hla]; exact dfaL_257 hl
  have hfn : la[258]? = some (.slice fa' D'.final.length fc') := by rw [hla]; exact dfaL_258 hl
  (conv => whnf); refine hld _ 0 st4 rfl trivial ?_
  (conv => whnf); refine VCall.mk (refcellsB (S := Old H2) (fun k hk => old_lt st4.old hk) (hwv st4) hok') ?_
  rintro _ H5 ⟨ha5, hw5⟩
  obtain ⟨ca, cc, rfl, st5⟩ := st4.got ha5 hw5
  have hcl := (cellsD_len D').2
  have hcs : ∀ c ∈ cellsD D', c.getLsbD (nextM c 0).1 = true ∧ ∀ j, j < (nextM c 0).1 → c.getLsbD j = false := fun c hc => cellsD_some hc
  obtain ⟨cs, hcse⟩ : ∃ cs, cs = cellsD D' := ⟨_, rfl⟩
  rw [← hcse] at st5 hcl hcs ⊢
  obtain ⟨n, hn⟩ : ∃ n, n = D'.next.length := ⟨_, rfl⟩
  rw [← hn] at hn1 hn2 hfl hnx
  have hdn := dN_len6 hn2
  have hhl : (headM n).length ≤ 14 := by
    unfold headM
    simp only [List.length_append, List.length_cons, List.length_nil]
    omega
  obtain ⟨stf, hstf⟩ : ∃ f : Nat → Nat → Nat, f = fun (q : Nat) b => (stepD D' (q : Int) b).toNat := ⟨_, rfl⟩
  obtain ⟨fif, hfif⟩ : ∃ f : Nat → Bool, f = fun (q : Nat) => finD D' (q : Int) := ⟨_, rfl⟩
  have hse : ∀ q b : Nat, q < n → b < 256 → stepD D' (q : Int) b = ((stf q b : Nat) : Int) ∧ stf q b < 65536 := fun q b hq hb => by
    have := stepD_range hok' (q := (q : Int)) (by omega) (by rw [← hn]; omega) hb
    rw [← hn] at this
    rw [hstf]
    show stepD D' (q : Int) b = (((stepD D' (q : Int) b).toNat : Nat) : Int) ∧ (stepD D' (q : Int) b).toNat < 65536
    omega
  (conv => whnf); refine VC.fa fl35_2 ?_
  (conv => whnf); refine ld1 ct23 (by rw [(st5.blk 0 rfl).cell, Nat.zero_add]; exact hnx) trivial ?_
  (conv => whnf); refine pures (number_p (n := n) (by omega)) fun H6 ha6 => ?_
  have st6 := st5.call ha6
  (conv => whnf); refine vcat (cat_big (u := [115, 116, 97, 116, 101, 115, 32]) (by decide) (by omega)) ?_
  rw [show (⟨#[115, 116, 97, 116, 101, 115, 32]⟩ : ByteArray) = bA [115, 116, 97, 116, 101, 115, 32] from rfl, bA_cat]
  (conv => whnf); refine vcat (cat_big (v := [10]) (by simp only [List.length_append, List.length_cons, List.length_nil]; omega) (by decide)) ?_
  rw [show (⟨#[10]⟩ : ByteArray) = bA [10] from rfl, bA_cat]
  (conv => whnf)
  refine VLoop.mk [5, 6] (fun q : Nat => [.string (bA (headM n ++ linesM cs stf fif q)), .int .i64 (q : Int)]) (fun q G => q ≤ n ∧ St H2 G [pB 35 p3 la, pS tB 112 ca cs.length cc cs]) (fun q _ => n - q) ?_ ?_
  · (conv => whnf)
    refine ⟨0, ?_, Nat.zero_le _, st6⟩
    show _ = [Value.string (bA (headM n ++ [])), _]
    rw [List.append_nil]; rfl
  · clear st6 st5
    rintro q H7 junk7 ⟨hq, st7⟩
    have hb7 := st7.blk 0 rfl
    (conv => whnf); refine VC.fa fl35_2 ?_
    (conv => whnf); refine ld1 ct23 (by rw [hb7.cell, Nat.zero_add]; exact hnx) trivial ?_
    (conv => whnf); refine VIte.mk (fun hz => ?_) (fun hz => ?_) <;> simp only [decide_eq_true_eq, decide_eq_false_iff_not] at hz
    · have hq8 : q < n := by omega
      have hd5 := dN_len5 (u := q) (by omega)
      (conv => whnf); refine pures (number_p (n := q) (by omega)) fun H8 ha8 => ?_
      have st8 := st7.call ha8
      obtain ⟨f, hf⟩ := get_some (l := D'.final) (k := q) (by omega)
      have hfq : fif q = f := by rw [hfif]; simp [finD, hf]
      have hb8 := st8.blk 0 rfl
      have hsw : (if fif q then [42] else [] : List Nat).length ≤ 1 := by split <;> decide
      (conv => whnf)
      refine VSeq.cut [7] (fun _ : Unit => [.string (bA (dN q ++ (if fif q then [42] else [])))]) (fun _ G => St H2 G [pB 35 p3 la, pS tB 112 ca cs.length cc cs]) ?_ ?_
      · (conv => whnf); refine VC.fa fl35_3 ?_
        (conv => whnf); refine ld1 ct24 (by rw [hb8.cell, Nat.zero_add]; exact hfn) trivial ?_
        (conv => whnf); refine ixr sl24 (h3.frame st8.old) hf rfl ?_
        rintro b9 o9 c9 hS9 hc9 rfl
        (conv => whnf); refine ld1 ct4 hc9.one trivial ?_
        rw [hfq]
        cases f with
        | true =>
          (conv => whnf); refine vcat (cat_big (v := [42]) (by omega) (by decide)) ?_
          rw [show (⟨#[42]⟩ : ByteArray) = bA [42] from rfl, bA_cat]
          (conv => whnf)
          exact ⟨rfl, (), rfl, st8⟩
        | false =>
          (conv => whnf)
          exact ⟨rfl, (), by rw [if_neg (by decide), List.append_nil], st8⟩
      · rintro ⟨⟩ H10 junk10 st10
        obtain ⟨w1, hw1⟩ : ∃ w1, w1 = dN q ++ (if fif q then [42] else []) := ⟨_, rfl⟩
        have hw1l : w1.length ≤ 6 := by rw [hw1]; simp only [List.length_append]; omega
        rw [← hw1]
        have hsr1 : ∀ c ∈ cs, stf q (nextM c 0).1 < 65536 := fun c _ => (hse q _ hq8 (nextM_lt c 0)).2
        (conv => whnf)
        refine VLoop.mk [7, 8] (fun k : Nat => [.string (bA (w1 ++ segsM stf q (cs.take k))), .int .i64 (k : Int)]) (fun k G => k ≤ cs.length ∧ St H2 G [pB 35 p3 la, pS tB 112 ca cs.length cc cs]) (fun k _ => cs.length - k) ?_ ?_
        · (conv => whnf)
          refine ⟨0, ?_, Nat.zero_le _, st10⟩
          show _ = [Value.string (bA (w1 ++ [])), _]
          rw [List.append_nil]; rfl
        · clear st10
          rintro k H11 junk11 ⟨hk, st11⟩
          have hsl := segs_len (st := stf) (i := q) (l := cs.take k) fun c hc => hsr1 c (List.mem_of_mem_take hc)
          have htk : (cs.take k).length ≤ 256 := by rw [List.length_take]; omega
          have hsl2 : (segsM stf q (cs.take k)).length ≤ 616192 := Nat.le_trans hsl (Nat.le_trans (Nat.mul_le_mul_right _ htk) (by decide))
          (conv => whnf); refine VIte.mk (fun hz2 => ?_) (fun hz2 => ?_) <;> simp only [decide_eq_true_eq, decide_eq_false_iff_not] at hz2
          · obtain ⟨c, hc⟩ := get_some (l := cs) (k := k) (by omega)
            have hcm := List.mem_of_getElem? hc
            obtain ⟨hbit, hno⟩ := hcs c hcm
            have hb256 := nextM_lt c 0
            obtain ⟨g, hg⟩ : ∃ g, g = (nextM c 0).1 := ⟨_, rfl⟩
            have hse1 := hse q g hq8 (by rw [hg]; exact hb256)
            rw [← hg] at hbit hno hb256
            have hseg : segsM stf q (cs.take (k + 1)) = segsM stf q (cs.take k) ++ ([32] ++ showM c ++ [62] ++ dN (stf q g)) := by
              rw [take_succ_snoc hc, segsM_snoc, hg]; rfl
            obtain ⟨w2, hw2⟩ : ∃ w2, w2 = w1 ++ segsM stf q (cs.take k) := ⟨_, rfl⟩
            have hw2l : w2.length ≤ 616198 := by rw [hw2, List.length_append]; omega
            rw [← hw2]
            (conv => whnf); refine VSeq.run ?_
            (conv => whnf)
            refine VLoop.mk [7, 9] (fun b : Nat => [.string (bA w2), .int .i64 (b : Int)]) (fun b G => b ≤ g ∧ St H2 G [pB 35 p3 la, pS tB 112 ca cs.length cc cs]) (fun b _ => 256 - b) ?_ ?_
            · (conv => whnf)
              exact ⟨0, rfl, Nat.zero_le _, st11⟩
            · clear st11
              rintro b H12 junk12 ⟨hb, st12⟩
              (conv => whnf); refine VIte.mk (fun hz3 => ?_) (fun hz3 => ?_) <;> simp only [decide_eq_true_eq, decide_eq_false_iff_not] at hz3
              · (conv => whnf); refine ixO (j := k) slB_ st12 1 rfl hc rfl ?_
                rintro b13 o13 c13 hS13 hc13 rfl
                (conv => whnf); refine ixa ar112 (by omega) (by omega) ?_
                (conv => whnf); refine ld1 (v := .bool (c.getLsbD b)) ct4 (by
                  have := hc13 b _ (bitsL_get c (by omega))
                  rw [show o13 + ((b : Nat) : Int).toNat * 1 = o13 + b by omega]
                  exact this) trivial ?_
                rcases Nat.lt_or_eq_of_le hb with hlt | rfl
                · rw [hno b hlt]
                  (conv => whnf); rw [w64 (x := (b : Int) + 1) (by omega) (by omega)]
                  exact ⟨rfl, b + 1, by simp, ⟨by omega, st12⟩, by omega⟩
                · rw [hbit]
                  have hshl := show_len c
                  have hd6 := dN_len5 hse1.2
                  (conv => whnf); refine VDraw.heldZ (Old H12) [16] (sq [0,1,2,3,4,8,9,10,11] (.f 5 (sq [6,7] (.f 12 (.f 13 (sq [14,15] (.f 16 .e))))))) rfl (by kernel_rfl) ?_
                  (conv => whnf); refine ixO (j := k) slB_ st12 1 rfl hc rfl ?_
                  rintro b14 o14 c14 hS14 hc14 rfl
                  (conv => whnf); refine ldN (cs := bitsL c) (by rw [show (bitsL c).length = 256 from bitsTo_len _ _]; exact ag112) hc14 (by exact hS14) ?_
                  (conv => whnf); refine hld _ 0 st12 rfl (st12.in_ 0 rfl rfl).2 ?_
                  (conv => whnf); rw [w8 (x := (b : Int)) (by omega) (by omega)]
                  (conv => whnf); refine pures (refshow_p (f := fun i => c.getLsbD i) (x := c) (fun i _ => rfl)) fun H15 ha15 => ?_
                  have st15 := st12.call ha15
                  refine ⟨ha15, ?_⟩
                  (conv => whnf); refine vcat (cat_big (u := [32]) (by decide) (by omega)) ?_
                  rw [show (⟨#[32]⟩ : ByteArray) = bA [32] from rfl, bA_cat]
                  (conv => whnf); refine vcat (cat_big (v := [62]) (by rw [List.length_append]; simp only [List.length_singleton]; omega) (by decide)) ?_
                  rw [show (⟨#[62]⟩ : ByteArray) = bA [62] from rfl, bA_cat]
                  (conv => whnf); refine pures (refstep_p (S := Old H2) (fun j hj => old_lt st15.old hj) (hwv st15) hok' (by omega)) fun H16 ha16 => ?_
                  have st16 := st15.call ha16
                  have h1216 := ha15.trans (ha16.mono fun j hj => old_lt ha15 hj)
                  refine ⟨h1216, ?_⟩
                  rw [hse1.1]
                  (conv => whnf); refine pures (number_p (n := stf q b) (by omega)) fun H17 ha17 => ?_
                  have st17 := st16.call ha17
                  refine ⟨h1216.trans (ha17.mono fun j hj => old_lt h1216 hj), ?_⟩
                  (conv => whnf); refine vcat (cat_big (by simp only [List.length_append, List.length_singleton]; omega) (by omega)) ?_
                  rw [bA_cat]
                  (conv => whnf); refine vcat (cat_big (by omega) (by simp only [List.length_append, List.length_singleton]; omega)) ?_
                  rw [bA_cat]
                  (conv => whnf); rw [w64 (x := (k : Int) + 1) (by omega) (by omega)]
                  refine ⟨rfl, k + 1, ?_, ⟨by omega, st17⟩, by omega⟩
                  rw [hseg, hw2, List.append_assoc]
                  simp
              · omega
          · obtain rfl : k = cs.length := by omega
            rw [List.take_length] at hsl2 ⊢
            have hll2 := lines_len (fi := fif) hcl (n := q) (by omega) fun i hi c hc => (hse i _ (by omega) (nextM_lt c 0)).2
            have hwl : (headM n ++ linesM cs stf fif q).length ≤ 50000000000 := by
              rw [List.length_append]
              have : q * 616199 ≤ 65536 * 616199 := Nat.mul_le_mul_right _ (by omega)
              omega
            (conv => whnf); refine vcat (cat_big (v := [10]) (by rw [List.length_append]; omega) (by decide)) ?_
            rw [bA_cat]
            (conv => whnf); refine vcat (cat_big (by omega) (by simp only [List.length_append, List.length_singleton]; omega)) ?_
            rw [bA_cat]
            (conv => whnf); rw [w64 (x := (q : Int) + 1) (by omega) (by omega)]
            refine ⟨rfl, q + 1, ?_, ⟨by omega, st11⟩, by omega⟩
            have e : headM n ++ linesM cs stf fif q ++ (w1 ++ segsM stf q cs ++ [10]) = headM n ++ linesM cs stf fif (q + 1) := by
              rw [hw1, linesM_succ]
              unfold lineM
              simp
            rw [e]
            simp
    · obtain rfl : q = n := by omega
      (conv => whnf)
      refine ⟨ha2.mono (fun k hk => st1.up hk) |> fun h => (st1.old.trans h).trans (st7.old.mono fun k hk => old_lt ha2 (st1.up hk)), D', hdc, ?_⟩
      rw [← hcse, ← hn, ← hstf, ← hfif]
      rfl
end Go.Proofs.YthomdogheamfpaaDoor
/- auto of the laws of layer 07. -/
set_option linter.unusedVariables false
set_option linter.unusedSimpArgs false
set_option maxRecDepth 100000
namespace Go.Proofs.YthomdogheamfpaaDoor
open Go.VC
attribute [local irreducible] mRun atRun

set_option maxHeartbeats 4000000 in
theorem auto07_c (v : Value) (cells : List (BitVec 256)) (next : List (List Int)) (final : List Bool) (S : Nat → Prop) (H : Heap) (ht : TabIn S H v cells next final) :
    FnOk Tryd.prog 16 #[v] H fun v H' => Agr (Old H) H H' ∧ H.size ≤ H'.size ∧ AutoV (Fresh H H') H' v (autoOf cells next final) := by
  obtain ⟨hS, ⟨ca, na, fa, cc, nc, fc, rfl, hc, hn, hf⟩, cn, nn, rn, fn⟩ := ht
  refine FnOk.of_vc Tryd.func16 rfl (Tryd.call16 _) ?_
  (conv => whnf); refine vbox [.slice ca cells.length cc, .slice na next.length nc, .slice fa final.length fc] rfl ?_
  intro pb H1 hpb hs1 hb1 ha1
  (conv => whnf); refine VC.fa fl26_0 ?_
  (conv => whnf); refine ld1 ct22 (by rw [hb1.cell]; rfl) trivial ?_
  (conv => whnf); refine vmakeT (T := tSet) (v := 0#256) (S := fun _ => False) sl83 (zero_set _ _) (by omega) rfl (by omega) (by omega) ?_
  intro nb H2 hnb hs2 hb2' ha2
  rw [Int.toNat_natCast] at hb2'
  have hA2 : Agr (Old H) H H2 := (ha1.mono fun j hj => by unfold Old at hj; omega).trans (ha2.mono fun j hj => by unfold Old at hj; omega)
  (conv => whnf)
  refine VLoop.mk [4] (fun k : Nat => [.int .i64 k]) (fun k H3 => k ≤ cells.length ∧ Agr (fun j => j < H2.size ∧ j ≠ nb) H2 H3 ∧ H3.size = H2.size ∧
    SlO tSet (fun _ => False) H3 H.size 73 (.slice (some ⟨nb, 0, none⟩) cells.length cells.length) (cells.take k ++ List.replicate (cells.length - k) 0#256)) (fun k _ => cells.length - k) ?_ ?_
  · (conv => whnf)
    refine ⟨0, rfl, by omega, Agr.refl _ _, rfl, ?_⟩
    rw [fill_beg]
    exact SlO.made (by omega) hb2' (zero_set _ _) (by unfold maxLen; omega)
  · rintro k H3 junk ⟨hk, ha3, hs3, hown⟩
    have hb13 := (hb1.agr ha2 (show pb < nb by omega)).agr ha3 ⟨by omega, by omega⟩
    have hA3 : Agr (Old H) H H3 := hA2.trans (ha3.mono fun j hj => by unfold Old at hj; omega)
    (conv => whnf); refine VC.fa fl26_0 ?_
    (conv => whnf); refine ld1 ct22 (by rw [hb13.cell]; rfl) trivial ?_
    (conv => whnf); refine VIte.mk (fun h => ?_) (fun h => ?_) <;> simp only [decide_eq_true_eq, decide_eq_false_iff_not] at h
    · obtain ⟨x, hx⟩ := get_some (l := cells) (k := k) (by omega)
      (conv => whnf); refine VC.fa fl26_0 ?_
      (conv => whnf); refine ld1 ct22 (by rw [hb13.cell]; rfl) trivial ?_
      (conv => whnf); refine ixr sl22 (hc.frame (hA3.mono hS)) hx rfl ?_
      rintro b4 o4 cs4 hSb4 hcells4 rfl
      (conv => whnf); refine ldN (cs := setL x) ag70 hcells4 trivial ?_
      obtain ⟨-, -, hlo5, l5, hblk5, hlen5, hget5, hput5⟩ := hown.placeS (i := k) (by rw [fill_len hk]; omega)
      (conv => whnf); refine ix sl83 (by omega) (by omega) ?_
      (conv => whnf); refine VC.stN rfl hblk5 (by rw [Nat.zero_add, Int.toNat_natCast]; exact hlen5) rfl ?_
      intro H6 hb6 ha6 hs6
      rw [Nat.zero_add, Int.toNat_natCast] at hb6
      have hown6 := hput5 H6 (setL x) x hb6 (fun j hj => hj.elim) rfl
      rw [fill_set hx] at hown6
      (conv => whnf); rw [w64 (x := (k : Int) + 1) (by omega) (by omega)]
      exact ⟨rfl, k + 1, by simp, ⟨by omega, ha3.trans (ha6.mono fun j hj => hj.2), by omega, hown6⟩, by omega⟩
    · obtain rfl : k = cells.length := by omega
      rw [fill_end] at hown
      have hSs : ∀ {H4 : Heap}, Agr (Old H3) H3 H4 → Agr S H H4 := fun h => (hA3.trans (h.mono fun k hk => old_lt hA3 hk)).mono hS
      have hSo : ∀ {H4 : Heap}, Agr (Old H3) H3 H4 → ∀ k, S k → k < H4.size := fun h k hk => old_lt h (old_lt hA3 (hS k hk))
      have fin : ∀ {H6 : Heap} {v1 v3 : Value} {nb lo1 lo2 : Nat} {vs : List Value} {K : Value → Heap → Prop}, Agr (Old H3) H3 H6 → SlO tSet (fun _ => False) H6 lo1 73 v1 cells → Tab tI (fun _ => False) H6 (nb + 1) 3 nb 33 vs next → SlO tBool (fun _ => False) H6 lo2 4 v3 final →
          (∀ v H7, Agr (Old H) H H7 → H.size ≤ H7.size → Agr (Old H3) H3 H7 → AutoV (Fresh H H7) H7 v (autoOf cells next final) → K v H7) → VCall Tryd.prog 44 #[v1, .slice (some ⟨nb, 0, none⟩) next.length next.length, v3] H6 K := fun hag h1 h2 h3 k =>
        vcall_newO h1 h2 h3 (by unfold maxLen; omega) fun v H7 h4 h5 h6 => k v H7 (hA3.trans ((hag.trans (h4.mono fun k hk => old_lt hag hk)).mono fun k hk => old_lt hA3 hk)) (by have := old_size hag; omega) (hag.trans (h4.mono fun k hk => old_lt hag hk)) (h6.mono fun k hk => ⟨by have := old_size hag; have := hk.1; omega, hk.2⟩)
      have hnb3 : nb < H3.size := by omega
      (conv => whnf)
      refine VDraw.held (Old H3) 9 (sq [0,1,2,5,6] (.b 3 (.f 4 (.f 7 (.f 8 (.f 9 .e)))) 4 (.f 3 (.f 7 (.f 8 (.f 9 .e)))))) rfl (by kernel_rfl) ?_
      (conv => whnf); refine VC.fa fl26_1 ?_
      (conv => whnf); refine ld1 ct23 (by rw [hb13.cell]; rfl) hb13.lt ?_
      (conv => whnf); refine VC.fa fl26_2 ?_
      (conv => whnf); refine ld1 ct24 (by rw [hb13.cell]; rfl) hb13.lt ?_
      (conv => whnf); refine ⟨?_, ?_⟩
      · refine VCall.mk (rows_c na nc next S H3 (hSo (Agr.refl _ _)) (hn.frame (hSs (Agr.refl _ _))) (by omega) (fun row hr => Nat.le_trans (rn row hr) (by decide))) ?_
        rintro v4 H4 ⟨ha4, hs4, mb, vs, rfl, hmb, tab⟩
        refine ⟨ha4, ?_⟩
        (conv => whnf); refine vbuild0 sl24 ?_
        intro q H5 hq hs5 hb5 ha5
        have hA5 : Agr (Old H3) H3 H5 := ha4.trans (ha5.mono fun k hk => by have := old_lt ha4 hk; omega)
        refine ⟨hA5, ?_⟩
        (conv => whnf); refine ends_c hb5 (S := S) (fun k hk => ⟨hSo hA5 k hk, by have := hSo ha4 k hk; omega⟩) (hf.frame (hSs hA5)) (by omega) ?_
        intro v6 H6 own3 ha6 hs6
        have h46 : Agr (fun k => k < H4.size) H4 H6 := (ha5.mono fun k hk => by omega).trans (ha6.mono fun k hk => by omega)
        have hA6 : Agr (Old H3) H3 H6 := ha4.trans (h46.mono fun k hk => old_lt ha4 hk)
        refine ⟨hA6, ?_⟩
        (conv => whnf); refine fin hA6 (hown.agr hA6 (fun b hb => (hown.lt hb).2) (fun _ h => h.elim)) (tab.agr h46 tab.blk.lt (fun b _ hb => hb) (fun _ h => h.elim)) own3 fun v7 H7 g1 g2 g3 g4 => ⟨g3, ?_⟩
        (conv => whnf); exact ⟨g1, g2, g4⟩
      · refine vbuild0 sl24 ?_
        intro q H4 hq hs4 hb4 ha4
        have hA4 : Agr (Old H3) H3 H4 := ha4.mono fun k hk => by unfold Old at hk; omega
        refine ⟨hA4, ?_⟩
        (conv => whnf); refine VCall.mk (rows_c na nc next S H4 (hSo hA4) (hn.frame (hSs hA4)) (by omega) (fun row hr => Nat.le_trans (rn row hr) (by decide))) ?_
        rintro v5 H5 ⟨ha5, hs5, mb, vs, rfl, hmb, tab⟩
        have hA5 := hA4.trans (ha5.mono fun k hk => old_lt hA4 hk)
        refine ⟨hA5, ?_⟩
        (conv => whnf); refine ends_c (hb4.agr ha5 hb4.lt) (S := S) (fun k hk => ⟨hSo hA5 k hk, by have := hSo (Agr.refl _ _) k hk; omega⟩) (hf.frame (hSs hA5)) (by omega) ?_
        intro v6 H6 own3 ha6 hs6
        have hA6 : Agr (Old H3) H3 H6 := hA5.trans (ha6.mono fun k hk => ⟨old_lt hA5 hk, by unfold Old at hk; omega⟩)
        refine ⟨hA6, ?_⟩
        (conv => whnf); refine fin hA6 (hown.agr hA6 (fun b hb => (hown.lt hb).2) (fun _ h => h.elim)) (tab.agr ha6 ⟨tab.blk.lt, by omega⟩ (fun b h1 h2 => ⟨h2, by omega⟩) (fun _ h => h.elim)) own3 fun v7 H7 g1 g2 g3 g4 => ⟨g3, ?_⟩
        (conv => whnf); exact ⟨g1, g2, g4⟩

end Go.Proofs.YthomdogheamfpaaDoor
/- The laws MinimCanons and MinimTables: the walks. -/
set_option linter.unusedVariables false
set_option linter.unusedSimpArgs false
set_option maxRecDepth 100000
namespace Go.Proofs.YthomdogheamfpaaDoor
open Go.VC Go.Lib
attribute [local irreducible] mRun gRun atRun odd7M
theorem none_made : IsMade none := ⟨[], [], [], rfl⟩
theorem none_auto {S : Nat → Prop} {H : Heap} : AutoV S H (.pointer none) none := rfl
/-- What minim.Table answers. -/
theorem table_c {S : Nat → Prop} {H : Heap} {v : Value} {o : Option AM} (hS : ∀ k, S k → k < H.size) (hv : AutoV S H v o) (hm : IsMade o) (hpow : PowH Tryd.prog H) (hE : EscH H) :
    FnOk Tryd.prog 19 #[v] H fun r H' => Agr (Old H) H H' ∧ ∃ a, IsCan o a ∧ r = .string (bA (tabM a)) := by
  refine (table7_c hS hv hm.ok hpow hE).mono ?_
  rintro r H' ⟨ha, rows, O, A, hA, hsd, hin, hld, hrl, hr⟩
  subst hA
  have hc := isCan_of (o := o) hm.steps hsd hin hld hrl
  refine ⟨ha, _, hc, ?_⟩
  have hn : stN (some (madeM (cellsM o) (rows.map rowI) (O.map fun (x : Nat) => finM o (x : Int)))) = O.length := by
    show (madeM (cellsM o) (rows.map rowI) (O.map fun (x : Nat) => finM o (x : Int))).next.length = _
    unfold madeM
    simp [hrl]
  rw [hr, ← hn]
  rfl
theorem speaks07_p {H : Heap} (hpow : PowH Tryd.prog H) (hE : EscH H) : Pure Tryd.prog 13 #[] H (.bool true) := by
  refine FnOk.of_vc Tryd.func13 rfl (Tryd.call13 _) ?_
  (conv => whnf); refine VCall.mk (odd7_c H) ?_
  rintro va H1 ⟨ha1, hva⟩
  (conv => whnf); refine VCall.mk (differ_c (S := Old H1) (fun k hk => hk) hva none_auto odd7_made.ok none_made.ok) ?_
  rintro _ H2 ⟨ha2, w, ok, rfl, hR⟩
  obtain ⟨rfl, rfl⟩ := odd7_differ hR
  have h12 := ha1.trans (ha2.mono fun k hk => old_lt ha1 hk)
  have e1 : ((bA [0]).toList == (⟨#[0]⟩ : ByteArray).toList) = true := by
    rw [show bA [0] = (⟨#[0]⟩ : ByteArray) from rfl]
    exact beq_self_eq_true _
  (conv => whnf); rw [e1]
  (conv => whnf); refine VCall.mk (odd7_c H2) ?_
  rintro vb H3 ⟨ha3, hvb⟩
  have h13 := h12.trans (ha3.mono fun k hk => old_lt h12 hk)
  (conv => whnf); refine VCall.mk (table_c (S := Old H3) (fun k hk => hk) hvb odd7_made (hpow.agr h13) (hE.agr h13)) ?_
  rintro _ H4 ⟨ha4, a, hc, rfl⟩
  rw [odd7_tab hc]
  have e2 : ((bA [115, 116, 97, 116, 101, 115, 32, 50, 10, 48, 32, 91, 94, 93, 62, 49, 10, 49, 42, 32, 91, 94, 93, 62, 48, 10]).toList == (⟨#[115, 116, 97, 116, 101, 115, 32, 50, 10, 48, 32, 91, 94, 93, 62, 49, 10, 49, 42, 32, 91, 94, 93, 62, 48, 10]⟩ : ByteArray).toList) = true := by
    rw [show bA [115, 116, 97, 116, 101, 115, 32, 50, 10, 48, 32, 91, 94, 93, 62, 49, 10, 49, 42, 32, 91, 94, 93, 62, 48, 10] = (⟨#[115, 116, 97, 116, 101, 115, 32, 50, 10, 48, 32, 91, 94, 93, 62, 49, 10, 49, 42, 32, 91, 94, 93, 62, 48, 10]⟩ : ByteArray) from rfl]
    exact beq_self_eq_true _
  (conv => whnf); rw [e2]
  (conv => whnf)
  exact ⟨rfl, h13.trans (ha4.mono fun k hk => old_lt h13 hk)⟩
set_option maxHeartbeats 4000000 in
theorem minimCanons_p (v : Value) (cells : List (BitVec 256)) (next : List (List Int)) (final : List Bool) (S : Nat → Prop) (H : Heap) (ht : TabIn S H v cells next final) (hpow : PowH Tryd.prog H) (hE : EscH H) :
    Pure Tryd.prog 3 #[v] H (.bool true) := by
  refine FnOk.of_vc Tryd.func3 rfl (Tryd.call3 _) ?_
  (conv => whnf); refine tab_box ht fun l hl hv => ?_
  intro p H1 hp hs1 hb1 ha1
  have st1 := (St.nil H).box hp hs1 hb1 ha1
  have hba := both_of cells next final
  have hmd : IsMade (autoOf cells next final) := ⟨_, _, _, rfl⟩
  have hso := hmd.steps
  (conv => whnf); refine VDraw.heldG (Old H1) [] (.f 0 (sq [1,2,5] (.f 3 (.f 4 (.f 6 (.f 7 (.f 8 (sq [9] (.f 10 .e))))))))) rfl (by kernel_rfl) ?_
  (conv => whnf); refine pures (speaks07_p (hpow.agr st1.old) (hE.agr st1.old)) fun H2 ha2 => ?_
  have st2 := st1.call ha2
  refine ⟨ha2, ?_⟩
  (conv => whnf); refine tab_load hl hv (st2.blk 0 rfl) (st1.blk 0 rfl).lt ?_
  (conv => whnf); refine tab_load hl hv (st2.blk 0 rfl) (st1.blk 0 rfl).lt ?_
  (conv => whnf); refine VCall.mk (auto07_c v cells next final S H2 (ht.frame st2.old)) ?_
  rintro va H3 ⟨ha3, hs3, hva⟩
  have st3 := st2.call ha3
  have h13 := ha2.trans (ha3.mono fun k hk => old_lt ha2 hk)
  refine ⟨h13, ?_⟩
  (conv => whnf); refine VCall.mk (canon_c (S := Fresh H2 H3) (fun k hk => hk.2) hva hmd.ok (hpow.agr st3.old)) ?_
  rintro vm H4 ⟨ha4, hcan⟩
  have st4 := st3.call ha4
  have h14 := h13.trans (ha4.mono fun k hk => old_lt h13 hk)
  refine ⟨h14, ?_⟩
  (conv => whnf); refine VCall.mk (made_c v cells next final S H4 (ht.frame st4.old)) ?_
  rintro vD H5 ⟨ha5, hs5, hvD⟩
  have st5 := st4.call ha5
  have h15 := h14.trans (ha5.mono fun k hk => old_lt h14 hk)
  refine ⟨h15, ?_⟩
  obtain ⟨by_, hR⟩ := repD_of cells next final
  (conv => whnf); refine VCall.mk (canon7_c (S := Fresh H4 H5) (fun k hk => hk.2) hvD hba.ok hba.docM (paO_ok hso) hR) ?_
  rintro vE H6 ⟨ha6, D', hw, hd⟩
  have st6 := st5.call ha6
  have h16 := h15.trans (ha6.mono fun k hk => old_lt h15 hk)
  refine ⟨h16, ?_⟩
  have h46 : Agr (Old H4) H4 H6 := ha5.trans (ha6.mono fun k hk => old_lt ha5 hk)
  (conv => whnf); refine pures (canons_p (S := Old H6) (paO_ok hso) (fun k hk => hk) hcan (h46.mono fun k hk => hk.2) (fun k hk => old_lt h46 hk) hw hd) fun H7 ha7 => ?_
  have h17 := h16.trans (ha7.mono fun k hk => old_lt h16 hk)
  refine ⟨h17, ?_⟩
  (conv => whnf)
  refine ⟨h17, ?_⟩
  (conv => whnf)
  exact ⟨rfl, st1.old.trans (h17.mono fun k hk => old_lt st1.old hk)⟩
/-- The document's table is the program's. -/
theorem doc_tab {o : Option AM} {a : Option AM} {D D' : DM} {by_ : List Nat} (hm : IsMade o) (hc : IsCan o a) (hd : DocC D (paO o) by_ D') : tableM (cellsD D') D'.next.length (fun q b => (stepD D' (q : Int) b).toNat) (fun q => finD D' (q : Int)) = tabM a := by
  obtain ⟨C, hC, lC, hnl, hok, -⟩ := hd
  obtain ⟨O, hO, ⟨P, hP, -⟩, lO, hn⟩ := hc.ex
  have hC2 : InLang (paO o) C := inLang_of (paO_ok hm.steps) hP (hC P hP) lC.lt
  obtain ⟨e1, e2, e3⟩ := canon_like hO hC2 lO lC rfl
  have hcell : cellsM a = cellsD D' := by
    rw [hc.made.sim]
    exact cellsG_congr (simO_refl _) fun b g hb hg => simO_D (by omega) (fun q b hq hb => e3 q b (by omega) hb) hb hg
  unfold tabM
  rw [hcell, show D'.next.length = stN a by omega]
  exact table_congr (fun i x hi hx => by
    show (stepD D' (i : Int) x).toNat = (stepM a (i : Int) x).toNat
    rw [e3 i x (by omega) hx]) fun i hi => (e2 i (by omega)).symm
set_option maxHeartbeats 4000000 in
theorem minimTables_p (v : Value) (cells : List (BitVec 256)) (next : List (List Int)) (final : List Bool) (S : Nat → Prop) (H : Heap) (ht : TabIn S H v cells next final) (hpow : PowH Tryd.prog H) (hE : EscH H) :
    Pure Tryd.prog 4 #[v] H (.bool true) := by
  refine FnOk.of_vc Tryd.func4 rfl (Tryd.call4 _) ?_
  (conv => whnf); refine tab_box ht fun l hl hv => ?_
  intro p H1 hp hs1 hb1 ha1
  have st1 := (St.nil H).box hp hs1 hb1 ha1
  have hba := both_of cells next final
  have hmd : IsMade (autoOf cells next final) := ⟨_, _, _, rfl⟩
  have hso := hmd.steps
  (conv => whnf); refine VDraw.heldG (Old H1) [] (.f 0 (sq [1,2,5] (.f 3 (.f 4 (.f 6 (.f 7 (sq [8,9] (.f 10 .e)))))))) rfl (by kernel_rfl) ?_
  (conv => whnf); refine pures (speaks07_p (hpow.agr st1.old) (hE.agr st1.old)) fun H2 ha2 => ?_
  have st2 := st1.call ha2
  refine ⟨ha2, ?_⟩
  (conv => whnf); refine tab_load hl hv (st2.blk 0 rfl) (st1.blk 0 rfl).lt ?_
  (conv => whnf); refine tab_load hl hv (st2.blk 0 rfl) (st1.blk 0 rfl).lt ?_
  (conv => whnf); refine VCall.mk (auto07_c v cells next final S H2 (ht.frame st2.old)) ?_
  rintro va H3 ⟨ha3, hs3, hva⟩
  have st3 := st2.call ha3
  have h13 := ha2.trans (ha3.mono fun k hk => old_lt ha2 hk)
  refine ⟨h13, ?_⟩
  (conv => whnf); refine VCall.mk (table_c (S := Fresh H2 H3) (fun k hk => hk.2) hva hmd (hpow.agr st3.old) (hE.agr st3.old)) ?_
  rintro _ H4 ⟨ha4, a, hcan, rfl⟩
  have st4 := st3.call ha4
  have h14 := h13.trans (ha4.mono fun k hk => old_lt h13 hk)
  refine ⟨h14, ?_⟩
  (conv => whnf); refine VCall.mk (made_c v cells next final S H4 (ht.frame st4.old)) ?_
  rintro vD H5 ⟨ha5, hs5, hvD⟩
  have st5 := st4.call ha5
  have h15 := h14.trans (ha5.mono fun k hk => old_lt h14 hk)
  refine ⟨h15, ?_⟩
  obtain ⟨by_, hR⟩ := repD_of cells next final
  (conv => whnf); refine VCall.mk (reftable7_c (S := Fresh H4 H5) (fun k hk => hk.2) hvD hba.ok hba.docM (paO_ok hso) hR) ?_
  rintro _ H6 ⟨ha6, D', hd, rfl⟩
  have st6 := st5.call ha6
  have h16 := h15.trans (ha6.mono fun k hk => old_lt h15 hk)
  refine ⟨h16, ?_⟩
  rw [doc_tab hmd hcan hd]
  have e1 : ((bA (tabM a)).toList == (bA (tabM a)).toList) = true := beq_self_eq_true _
  (conv => whnf); rw [e1]
  (conv => whnf)
  refine ⟨h16, ?_⟩
  (conv => whnf)
  exact ⟨rfl, st1.old.trans (h16.mono fun k hk => old_lt st1.old hk)⟩
end Go.Proofs.YthomdogheamfpaaDoor
/- The library's table of powers, out of a row's list. -/
set_option linter.unusedVariables false
set_option maxRecDepth 100000
namespace Go.Proofs.YthomdogheamfpaaDoor
open Go.VC Go.Lib
theorem pow_g : Tryd.prog.globalNamed powN = some 1 := by kernel_rfl
theorem pow_gt : (Tryd.prog.globals[1]?).map (·.type) = some 225 := by kernel_rfl
theorem pow_c : Tryd.prog.cellsOf 225 = 20 := by kernel_rfl
theorem pow_c1 : Tryd.prog.cellsOf 69 = 1 := by kernel_rfl
theorem pow_data : (Rows.laid_internal_strconv_uint64pow10 : DataW Unit) = tabData .u64 pow10Tab := by kernel_rfl
end Go.Proofs.YthomdogheamfpaaDoor
/- A world for the witness: the tables of the library hold what their initialisers lay. -/
set_option linter.unusedVariables false
set_option maxRecDepth 100000
namespace Go.Proofs.YthomdogheamfpaaDoor
open Go.VC Go.Lib
def tab32 : List Int := [0, 1, 28, 2, 29, 14, 24, 3, 30, 22, 20, 15, 25, 17, 4, 8, 31, 27, 13, 23, 21, 19, 16, 7, 26, 12, 18, 6, 11, 5, 10, 9]
def tab32V : Array Value := (tab32.map (Value.int .u8)).toArray
def tab64 : List Int := [0, 1, 56, 2, 57, 49, 28, 3, 61, 58, 42, 50, 38, 29, 17, 4, 62, 47, 59, 36, 45, 43, 51, 22, 53, 39, 33, 30, 24, 18, 12, 5, 63, 55, 48, 27, 60, 41, 37, 16, 46, 35, 44, 21, 52, 32, 23, 11, 54, 26, 40, 15, 34, 20, 31, 10, 25, 14, 19, 9, 13, 8, 7, 6]
def tab64V : Array Value := (tab64.map (Value.int .u8)).toArray
def tabP10 : List Int := [1, 10, 100, 1000, 10000, 100000, 1000000, 10000000, 100000000, 1000000000, 10000000000, 100000000000, 1000000000000, 10000000000000, 100000000000000, 1000000000000000, 10000000000000000, 100000000000000000, 1000000000000000000, 10000000000000000000]
def tabP10V : Array Value := (tabP10.map (Value.int .u64)).toArray
def putTab (vs : Array Value) : Obj → Obj
  | .cells _ t frozen => .cells vs t frozen
  | o => o
noncomputable def laidW (os : Os) : World :=
  { World.holding Tryd.prog os ⟨#[], #[], []⟩ with heap := (((World.holding Tryd.prog os ⟨#[], #[], []⟩).heap.modify 3 (putTab tab32V)).modify 4 (putTab tab64V)).modify 1 (putTab tabP10V) }
end Go.Proofs.YthomdogheamfpaaDoor
/- The library's table of powers and the table of escapes, out of a Minim row's list; a world for the witness. -/
set_option linter.unusedVariables false
set_option linter.unusedSimpArgs false
set_option maxRecDepth 100000
namespace Go.Proofs.YthomdogheamfpaaDoor
open Go.VC Go.Lib
open Go.ChangeShapes Go.WideShapes Go.ChangeAt Go.RowKit
theorem esc_g : Tryd.prog.globalNamed "loupe/class.escapes" = some 0 := by kernel_rfl
theorem esc_gt : (Tryd.prog.globals[0]?).map (·.type) = some 200 := by kernel_rfl
theorem esc_c : Tryd.prog.cellsOf 200 = 6 := by kernel_rfl
theorem esc_c2 : Tryd.prog.cellsOf 199 = 2 := by kernel_rfl
theorem esc_u : Tryd.prog.underlying 200 = some (.array 3 199) := by kernel_rfl
theorem pair_u8 {enc : TypeId × Value → Unit} {w : World} {base : Nat} {sp : Nat → Bool} {held : Bool} {fuel : Nat} {cs : List Value} {a b : Int} {p : List MemPlace}
    (h : DataW.trod enc Tryd.prog w base sp held fuel 199 cs = some (.agg [.lit (.int .u8 a), .lit (.int .u8 b)], p)) : cs = [.int .u8 a, .int .u8 b] := by
  obtain ⟨y0, y1, m, e, hl, h0, h1⟩ := trod_struct2 Tryd.underlying199 h
  obtain ⟨n0, e0, r0, -⟩ := DataW.trod_int Tryd.underlying5 h0
  obtain ⟨n1, e1, r1, -⟩ := DataW.trod_int Tryd.underlying5 h1
  subst r0; subst r1
  injection e with e2 e3
  injection e2 with e2
  simp only [List.cons.injEq, DataW.lit.injEq, Lit.int.injEq, true_and, and_true] at e2
  rw [esc_c2] at hl
  match cs, hl with
  | [x, y], _ =>
    have e0 : [x] = [Value.int .u8 n0] := e0
    have e1 : [y] = [Value.int .u8 n1] := e1
    injection e0 with e0
    injection e1 with e1
    rw [e0, e1, ← e2.1, ← e2.2]
theorem esc_cells {enc : TypeId × Value → Unit} {w : World} {base : Nat} {sp : Nat → Bool} {held : Bool} {fuel : Nat} {cs : List Value} {p : List MemPlace}
    (h : DataW.trod enc Tryd.prog w base sp held fuel 200 cs = some (Rows.laid_loupe_class_escapes, p)) : cs = escL := by
  obtain ⟨xs, m, -, e, hl, hx, hi⟩ := DataW.trod_array esc_u h
  rw [esc_c] at hl
  injection e with e1 e2
  have e1 : (Rows.laid_loupe_class_escapes : DataW Unit) = .agg (xs.map (·.1)) := e1
  unfold Rows.laid_loupe_class_escapes at e1
  injection e1 with e1
  match xs, hx with
  | [x0, x1, x2], _ =>
    simp only [List.map_cons, List.map_nil, List.cons.injEq, and_true] at e1
    obtain ⟨r0, r1, r2⟩ := e1
    have h0 := hi 0 (by decide)
    have h1 := hi 1 (by decide)
    have h2 := hi 2 (by decide)
    rw [esc_c2] at h0 h1 h2
    have k0 := pair_u8 (p := x0.2) (h0.trans (by rw [r0]; rfl))
    have k1 := pair_u8 (p := x1.2) (h1.trans (by rw [r1]; rfl))
    have k2 := pair_u8 (p := x2.2) (h2.trans (by rw [r2]; rfl))
    match cs, hl with
    | [a, b, c, d, e, f], _ =>
      have k0 : [a, b] = _ := k0
      have k1 : [c, d] = _ := k1
      have k2 : [e, f] = _ := k2
      simp only [List.cons.injEq, and_true] at k0 k1 k2
      obtain ⟨rfl, rfl⟩ := k0
      obtain ⟨rfl, rfl⟩ := k1
      obtain ⟨rfl, rfl⟩ := k2
      rfl
theorem tabs_of_laid {W : World} (h : laidMetH Tryd.prog Rows.minimCanonsUptoRow.laid W) : PowH Tryd.prog W.heap ∧ EscH W.heap := by
  obtain ⟨ps, ⟨g0, t0, cs0, f0, p0, q0, hg0, ht0, hv0, hd0, ⟨g1, t1, cs1, f1, p1, q1, hg1, ht1, hv1, hd1, ⟨g2, t2, cs2, f2, p2, q2, hg2, ht2, hv2, hd2, ⟨g3, t3, cs3, f3, p3, q3, hg3, ht3, hv3, hd3, -, -⟩, -⟩, -⟩, -⟩, -⟩ := h
  constructor
  · have hW : TabIs Tryd.prog W powN .u64 pow10Tab := by
      obtain rfl := Option.some.inj (pow_g.symm.trans hg2)
      obtain rfl := Option.some.inj (pow_gt.symm.trans ht2)
      rw [pow_data] at hd2
      unfold TabIs
      rw [hv2, ← cells_of_tab Tryd.underlying225 Tryd.underlying69 pow_c1 pow_c hd2]
    intro w hw
    exact var_agr hW fun k _ => by rw [hw]
  · obtain rfl := Option.some.inj (esc_g.symm.trans hg3)
    obtain rfl := Option.some.inj (esc_gt.symm.trans ht3)
    have hc := esc_cells hd3
    refine ⟨fun j v hj => ?_, ?_⟩
    · have := World.var?_cell esc_g hv3 j
      rw [Nat.zero_add]
      have h2 : cs3[j]? = some v := by
        rw [← Array.getElem?_toList, hc]
        exact hj
      rw [h2] at this
      exact this
    · unfold World.var? at hv3
      rw [esc_g] at hv3
      apply Classical.byContradiction
      intro hn
      simp only [Option.bind_some] at hv3
      rw [Array.getElem?_eq_none (by omega)] at hv3
      simp at hv3
noncomputable def laidW7 (os : Os) : World :=
  { laidW os with heap := (laidW os).heap.modify 0 (putTab escL.toArray) }
end Go.Proofs.YthomdogheamfpaaDoor
