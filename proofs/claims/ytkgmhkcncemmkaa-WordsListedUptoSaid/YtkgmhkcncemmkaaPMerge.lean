/- What merge makes. -/
import Derived.Test.YtkgmhkcncemmkaaPSound
import Derived.Test.YtkgmhkcncemmkaaVMem
set_option linter.unusedVariables false
set_option linter.unusedSimpArgs false
set_option maxRecDepth 100000
namespace Go.Proofs.Ytkgmhkcncemmkaa
open Go.VC

/-- The cells of an Auto. -/
def autoL (cv : Value) (cell : List Nat) (nv fv av : Value) : List Value :=
  cv :: (cell.map (fun n : Nat => Value.int .u8 (n : Int)) ++ List.replicate (256 - cell.length) (.int .u8 0)) ++ [nv, fv, av]
section
variable {cv nv fv av x : Value} {cell : List Nat}
theorem autoL_len (h : cell.length ≤ 256) : (autoL cv cell nv fv av).length = 260 := by simp [autoL]; omega
theorem autoL_0 : (autoL cv cell nv fv av)[0]? = some cv := by simp [autoL]
theorem autoL_set0 : (autoL cv cell nv fv av).set 0 x = autoL x cell nv fv av := by simp [autoL]
theorem autoL_get (h : cell.length ≤ 256) (j : Nat) : (autoL cv cell nv fv av)[257 + j]? = [nv, fv, av][j]? := by
  unfold autoL
  rw [List.cons_append, show 257 + j = (256 + j) + 1 by omega, List.getElem?_cons_succ, List.getElem?_append_right (by simp; omega)]
  congr 1
  simp; omega
theorem autoL_257 (h : cell.length ≤ 256) : (autoL cv cell nv fv av)[257]? = some nv := autoL_get h 0
theorem autoL_258 (h : cell.length ≤ 256) : (autoL cv cell nv fv av)[258]? = some fv := autoL_get h 1
theorem autoL_259 (h : cell.length ≤ 256) : (autoL cv cell nv fv av)[259]? = some av := autoL_get h 2
theorem autoL_setn (h : cell.length ≤ 256) (j : Nat) : (autoL cv cell nv fv av).set (257 + j) x = cv :: (cell.map (fun n : Nat => Value.int .u8 (n : Int)) ++ List.replicate (256 - cell.length) (.int .u8 0)) ++ [nv, fv, av].set j x := by
  unfold autoL
  rw [List.cons_append, show 257 + j = (256 + j) + 1 by omega, List.set_cons_succ, List.set_append_right (h := by simp; omega)]
  have e : 256 + j - (List.map (fun n : Nat => Value.int .u8 (n : Int)) cell ++ List.replicate (256 - cell.length) (Value.int .u8 0)).length = j := by simp; omega
  rw [e]; rfl
theorem autoL_set257 (h : cell.length ≤ 256) : (autoL cv cell nv fv av).set 257 x = autoL cv cell x fv av := autoL_setn h 0
theorem autoL_set259 (h : cell.length ≤ 256) : (autoL cv cell nv fv av).set 259 x = autoL cv cell nv fv x := autoL_setn h 2
theorem autoL_cell (h : cell.length < 256) (p : Nat) : (autoL cv cell nv fv av).set (1 + cell.length) (.int .u8 (p : Int)) = autoL cv (cell ++ [p]) nv fv av := by
  unfold autoL
  rw [List.cons_append, show 1 + cell.length = cell.length + 1 by omega, List.set_cons_succ, List.append_assoc, List.set_append_right (h := by simp)]
  have e : cell.length - (List.map (fun n : Nat => Value.int .u8 (n : Int)) cell).length = 0 := by simp
  rw [e, show 256 - cell.length = (256 - (cell.length + 1)) + 1 by omega, List.replicate_succ]
  simp
end

/-- The row that merge makes of a row. -/
def rowOf (cols : List Nat) (row : List Int) : List Int := cols.map fun c => row.getD c 0

set_option maxHeartbeats 4000000 in
theorem merge_c (pb : Nat) (fv av : Value) (ca na : Option Addr) (cc nc : Nat) (cells : List (BitVec 256)) (next : List (List Int)) (fl : Nat) (S : Nat → Prop) (H : Heap) (hS : ∀ k, S k → k < H.size ∧ k ≠ pb)
    (hb : Blk H pb 102 (autoL (.slice none 0 0) [] (.slice none 0 0) fv av)) (hc : SlD tSet S H ca cc cells) (hn : SlD tRows S H na nc next) (hs : soundB cells next fl = true) :
    FnOk Try.prog 71 #[.pointer (some ⟨pb, 0, none⟩), .slice ca cells.length cc, .slice na next.length nc] H fun v H' =>
      let st := mRun next cells (fun b => spanS b b) 256
      Agr (fun k => k < H.size ∧ k ≠ pb) H H' ∧ H.size ≤ H'.size ∧ ∃ ac capc an capn, Blk H' pb 102 (autoL (.slice ac st.sets.length capc) st.cell (.slice an next.length capn) fv av) ∧
        SlD tSet (fun k => H.size ≤ k ∧ k < H'.size) H' ac capc st.sets ∧ SlD tRows (fun k => H.size ≤ k ∧ k < H'.size) H' an capn (next.map (rowOf st.cols)) := by
  have lc := hc.le
  have ln := hn.le
  unfold maxLen at lc ln
  obtain ⟨n1, n2, n3, hrows⟩ := soundB_rows hs
  refine FnOk.of_vc Try.func71 rfl (Try.call71 _) ?_
  have hpb := hb.lt
  generalize hsp : (fun b => spanS b b) = sp
  have hcell : ∀ b, b < 256 → cellOf cells b < cells.length := fun b hb => (soundB_cells hs hb).1
  (conv => whnf); refine vmake1 sl23 rfl (by omega) (by omega) (by omega) (by omega) ?_
  intro nb H1 hnb hs1 hb1 ha1
  (conv => whnf); refine fa fl102_2 ?_
  (conv => whnf); refine st1 ct23 (hb.agr ha1 (show pb < nb by omega)) (by rw [autoL_len (by simp)]; omega) rfl ?_
  intro H2 hb2 ha2 hs2
  rw [Nat.zero_add, autoL_set257 (by simp)] at hb2
  replace hb1 := hb1.agr ha2 (show nb ≠ pb by omega)
  rw [Int.toNat_natCast] at hb1
  have hA2 : Agr (fun k => k < H.size ∧ k ≠ pb) H H2 := (ha1.mono fun k hk => by omega).trans (ha2.mono fun k hk => hk.2)
  (conv => whnf)
  refine VLoop.mk [6, 22] (fun x : Nat × Value => [x.2, .int .i64 x.1]) (fun x H3 => x.1 ≤ 256 ∧ Agr (fun k => k < H.size ∧ k ≠ pb) H H3 ∧ H2.size ≤ H3.size ∧
    SlO tI (fun _ => False) H3 (nb + 1) 3 x.2 ((mRun next cells sp x.1).cols.map Nat.cast) ∧ Blk H3 nb 36 (List.replicate next.length (.slice none 0 0)) ∧
    ∃ cv, SlO tSet (fun _ => False) H3 (nb + 1) 78 cv (mRun next cells sp x.1).sets ∧ (∀ k, slB x.2 k → ¬ slB cv k) ∧
      Blk H3 pb 102 (autoL cv (mRun next cells sp x.1).cell (.slice (some ⟨nb, 0, none⟩) next.length next.length) fv av)) (fun x _ => 256 - x.1) ?_ ?_
  · (conv => whnf)
    exact ⟨(0, _), rfl, by omega, hA2, Nat.le_refl _, SlO.nil, hb1, _, SlO.nil, (by rintro k ⟨o, n, c, h⟩; cases h), hb2⟩
  · rintro ⟨b, v6⟩ H3 junk ⟨hb256, hA3, hs3, hcols, hb3n, cv, hsets, hdis, hb3⟩
    dsimp only at hb256 hcols hsets hdis hb3
    obtain ⟨ac, capc, rfl, -, -⟩ := hcols.view (S' := fun k => slB v6 k) (fun k hk => hk) (fun k hk => hk.elim)
    (conv => whnf); refine VIte.mk (fun h => ?_) (fun h => ?_) <;> simp only [decide_eq_true_eq, decide_eq_false_iff_not] at h
    · have hok := mRun_ok (next := next) (sp := sp) hcell b (by omega)
      generalize hst : mRun next cells sp b = st at *
      obtain ⟨hfb, hfhas⟩ := soundB_cells hs (b := b) (by omega)
      (conv => whnf)
      -- the cell of b
      refine VLoop.mk [8] (fun f : Nat => [.int .i64 f]) (fun f H4 => Agr (Old H3) H3 H4 ∧ f ≤ cellOf cells b) (fun f _ => cells.length - f) ?_ ?_
      · (conv => whnf); exact ⟨0, rfl, Agr.refl _ _, by omega⟩
      · rintro f H4 junk2 ⟨ha4, hf⟩
        have hA4 : Agr (fun k => k < H.size ∧ k ≠ pb) H H4 := hA3.trans (ha4.mono fun k hk => by unfold Old; omega)
        obtain ⟨c, hcf⟩ := get_some (l := cells) (k := f) (by omega)
        (conv => whnf); refine ixr sl80 (hc.frame (hA4.mono fun k hk => hS k hk)) hcf rfl ?_
        rintro b' o cs hSb hcells rfl
        (conv => whnf); refine ldN (cs := setL c) ag78 hcells trivial ?_
        (conv => whnf); rw [w8 (x := (b : Int)) (by omega) (by omega)]
        refine pures (has_c c b (by omega) H4) ?_
        intro H5 ha5
        have hs34 := old_size ha4
        have ha35 : Agr (Old H3) H3 H5 := ha4.trans (ha5.mono fun k hk => by unfold Old at *; omega)
        by_cases hfeq : f = cellOf cells b
        · have hbit : c.getLsbD b = true := hfhas c (hfeq ▸ hcf)
          rw [hbit]
          (conv => whnf)
          subst hfeq
          generalize hfr : cellOf cells b = fr at *
          have hcols5 := hcols.agr ha35 (fun k hk => (hcols.lt hk).2) (fun k hk => hk.elim)
          have hs35 := old_size ha35
          -- the columns
          refine VSeq.cut [9] (fun pl : Option Nat => [.int .i64 (match pl with | none => -1 | some i => (i : Int))]) (fun pl H6 => pl = mFind next st.cols fr ∧ Agr (Old H5) H5 H6) ?_ ?_
          · obtain ⟨ac', capc', he, hview, hblk⟩ := hcols5.view (S' := Old H5) (fun k hk => (hcols5.lt hk).2) (fun k hk => hk.elim)
            cases he
            have hrl : ∀ row ∈ next, row.length = cells.length := fun row hr => (hrows row hr).1
            (conv => whnf)
            refine VLoop.mk [9, 37] (fun k : Nat => [.int .i64 (-1), .int .i64 k]) (fun k H6 => Agr (Old H5) H5 H6 ∧ k ≤ st.cols.length ∧ (st.cols.take k).findIdx? (fun c => alikeB next c fr) = none) (fun k _ => st.cols.length - k) ?_ ?_
            · (conv => whnf); exact ⟨0, rfl, Agr.refl _ _, by omega, rfl⟩
            · rintro k H6 junk3 ⟨ha6, hk, hnone⟩
              have hle := hok.le
              (conv => whnf); rw [List.length_map]; refine VIte.mk (fun h => ?_) (fun h => ?_) <;> simp only [decide_eq_true_eq, decide_eq_false_iff_not] at h
              · obtain ⟨c0, hc0⟩ := get_some (l := st.cols) (k := k) (by omega)
                have hc0m := hok.cols c0 (List.mem_of_getElem? hc0)
                (conv => whnf); refine ixrn (x := (c0 : Int)) sl36 (hview.frame ha6) (by simp) (by simp [hc0]) rfl ?_
                rintro b2 o2 cs2 hSb2 hcells2 ⟨rfl, -⟩
                (conv => whnf); refine ld1 ct3 hcells2.one trivial ?_
                have hn6 : SlD tRows S H6 na nc next := hn.frame ((hA3.trans ((ha35.trans (ha6.mono fun k hk => by unfold Old at *; omega)).mono fun k hk => by unfold Old; omega)).mono fun k hk => hS k hk)
                (conv => whnf); refine pures (alike_p na nc c0 fr cells.length next S H6 hn6 hrl hc0m hfb (by omega)) ?_
                intro H7 ha7
                have hs56 := old_size ha6
                have ha57 : Agr (Old H5) H5 H7 := ha6.trans (ha7.mono fun k hk => by unfold Old at *; omega)
                (conv => whnf); refine VIte.mk (fun h7 => ?_) (fun h7 => ?_)
                · (conv => whnf)
                  refine ⟨rfl, some k, rfl, ?_, ha57⟩
                  unfold mFind
                  rw [← List.take_append_drop k st.cols, List.findIdx?_append, hnone]
                  have : st.cols.drop k = c0 :: st.cols.drop (k + 1) := by
                    rw [List.getElem?_eq_some_iff] at hc0
                    obtain ⟨h1, h2⟩ := hc0
                    rw [List.drop_eq_getElem_cons h1, h2]
                  rw [this, List.findIdx?_cons, h7]
                  simp; omega
                · (conv => whnf); rw [w64 (x := (k : Int) + 1) (by omega) (by omega)]
                  refine ⟨rfl, k + 1, by simp, ⟨ha57, by omega, ?_⟩, by omega⟩
                  rw [take_succ_snoc hc0, List.findIdx?_append, hnone]
                  simp [h7]
              · (conv => whnf)
                refine ⟨rfl, none, rfl, ?_, ha6⟩
                have : k = st.cols.length := by omega
                subst this
                rw [List.take_length] at hnone
                exact hnone.symm
          · rintro pl H6 junk3 ⟨hpl, ha6⟩
            have ha36 : Agr (Old H3) H3 H6 := ha35.trans (ha6.mono fun k hk => by unfold Old at *; omega)
            have hs36 := old_size ha36
            have hcols6 := hcols.agr ha36 (fun k hk => (hcols.lt hk).2) (fun k hk => hk.elim)
            have hsets6 := hsets.agr ha36 (fun k hk => (hsets.lt hk).2) (fun k hk => hk.elim)
            have hb6n := hb3n.agr ha36 hb3n.lt
            have hb6 := hb3.agr ha36 hb3.lt
            have hA6 : Agr (fun k => k < H.size ∧ k ≠ pb) H H6 := hA3.trans (ha36.mono fun k hk => by unfold Old; omega)
            have hcl : st.cell.length ≤ 256 := by rw [hok.cell]; omega
            (conv => whnf)
            refine VSeq.cut [6, 9] (fun x : Value × Nat => [x.1, .int .i64 x.2]) (fun x H7 => Agr (fun k => k < H.size ∧ k ≠ pb) H H7 ∧ H2.size ≤ H7.size ∧ x.2 = (mNew next st.cols st.sets fr).2.2 ∧
              SlO tI (fun _ => False) H7 (nb + 1) 3 x.1 ((mNew next st.cols st.sets fr).1.map Nat.cast) ∧ Blk H7 nb 36 (List.replicate next.length (.slice none 0 0)) ∧
              ∃ cv, SlO tSet (fun _ => False) H7 (nb + 1) 78 cv (mNew next st.cols st.sets fr).2.1 ∧ (∀ k, slB x.1 k → ¬ slB cv k) ∧
                Blk H7 pb 102 (autoL cv st.cell (.slice (some ⟨nb, 0, none⟩) next.length next.length) fv av)) ?_ ?_
            · cases hf : mFind next st.cols fr with
              | some i =>
                rw [hpl, hf]
                have hm : mNew next st.cols st.sets fr = (st.cols, st.sets, i) := by unfold mNew; rw [hf]
                rw [hm]
                (conv => whnf)
                exact ⟨rfl, (_, i), rfl, hA6, by omega, rfl, hcols6, hb6n, cv, hsets6, hdis, hb6⟩
              | none =>
                rw [hpl, hf]
                have hm : mNew next st.cols st.sets fr = (st.cols ++ [fr], st.sets ++ [0#256], st.cols.length) := by unfold mNew; rw [hf]
                rw [hm]
                (conv => whnf); rw [List.length_map]; refine vbuild1 sl36 [.int .i64 (fr : Int)] rfl rfl (by decide) (by decide) ?_
                intro q H7 hq hs7 hb7 ha7
                have hle := hok.le
                have hcols7 := hcols6.agr ha7 (fun k hk => by have := (hcols6.lt hk).2; omega) (fun k hk => hk.elim)
                (conv => whnf); refine vappendO (T := tI) (S := fun _ => False) (ys := [(fr : Int)]) (ds := [.int .i64 (fr : Int)]) (lo := nb + 1) (xs := st.cols.map Nat.cast) sl36 (by simpa using hcols7) (by omega) (fun k hk => hk.elim)
                  (hb7.cells (fun j v hv => by simpa using hv)) (Ty.reps_one ⟨rfl, inI64 (by omega)⟩) rfl (by intro u hu; cases List.mem_singleton.1 hu; rfl) (by simp only [maxLen, List.length_map, List.length_singleton]; omega) (by simp only [List.length_map, List.length_singleton]; omega) ?_
                intro v8 H8 hcols8 ha8 hs8 hfresh8
                have hold8 : ∀ k, k < H6.size → ¬ slB (.slice ac (st.cols.map (Nat.cast : Nat → Int)).length capc) k → H8[k]? = H6[k]? := fun k h1 h2 => by
                  rw [ha8 k ⟨by omega, by simpa using h2⟩, ha7 k (by omega)]
                have hsets8 : SlO tSet (fun _ => False) H8 (nb + 1) 78 cv st.sets := hsets6.agr (S' := fun k => k < H6.size ∧ ¬ slB (.slice ac (st.cols.map (Nat.cast : Nat → Int)).length capc) k) (fun k hk => hold8 k hk.1 hk.2)
                  (fun k hk => ⟨(hsets6.lt hk).2, fun h => hdis k h hk⟩) (fun k hk => hk.elim)
                have hnlt : ∀ k, k ≤ nb → ¬ slB (.slice ac (st.cols.map (Nat.cast : Nat → Int)).length capc) k := fun k hk h => by have := (hcols6.lt h).1; omega
                have hb8n := hb6n.eq (hold8 nb hb6n.lt (hnlt nb (by omega)))
                have hb8 := hb6.eq (hold8 pb hb6.lt (hnlt pb (by omega)))
                (conv => whnf); refine fa fl102_0 ?_
                (conv => whnf); refine ld1 (v := cv) ct80 (by rw [hb8.cell]; exact autoL_0) trivial ?_
                (conv => whnf); refine vbuildA ar78 (setV 0) rfl (setL 0) rfl ?_
                (conv => whnf); refine vbuild1 sl80 (setL 0) rfl rfl (by decide) (by decide) ?_
                intro q2 H9 hq2 hs9 hb9 ha9
                have hlt8 := hb8.lt
                have hlt8n := hb8n.lt
                (conv => whnf); refine vappendO (T := tSet) (S := fun _ => False) (ys := [0#256]) (ds := setL 0) (lo := nb + 1) (xs := st.sets) sl80 (hsets8.agr ha9 (fun k hk => by have := (hsets8.lt hk).2; omega) (fun k hk => hk.elim)) (by omega) (fun k hk => hk.elim)
                  (hb9.cells (fun j v hv => by simpa using hv)) (Ty.reps_one rfl) rfl (by intro u hu; simp only [setL, List.mem_cons, List.not_mem_nil, or_false] at hu; rcases hu with rfl | rfl | rfl | rfl <;> rfl)
                  (by have := hok.len; simp only [maxLen, List.length_singleton]; omega) (by have := hok.len; simp only [List.length_singleton]; omega) ?_
                intro v9 H10 hsets10 ha10 hs10 hfresh10
                have hdcv : ∀ k, k ≤ nb → ¬ slB cv k := fun k hk h => by have := (hsets6.lt h).1; omega
                have hb10 := (hb8.agr ha9 (by omega)).agr ha10 ⟨by omega, hdcv pb (by omega)⟩
                (conv => whnf); refine fa fl102_0 ?_
                (conv => whnf); refine st1 ct80 hb10 (by rw [autoL_len hcl]; omega) hsets10.one ?_
                intro H11 hb11 ha11 hs11
                (conv => whnf)
                have hcols8lt : ∀ k, slB v8 k → k < H8.size ∧ nb + 1 ≤ k := fun k hk => ⟨(hcols8.lt hk).2, (hcols8.lt hk).1⟩
                have hdis8 : ∀ k, slB v8 k → ¬ slB cv k := fun k hk hc => by
                  rcases hfresh8 k hk with h | h
                  · exact hdis k (by simpa using h) hc
                  · have := (hsets6.lt hc).2; omega
                have hcols10 := (hcols8.agr ha9 (fun k hk => by have := hcols8lt k hk; omega) (fun k hk => hk.elim)).agr ha10 (fun k hk => ⟨by have := hcols8lt k hk; omega, hdis8 k hk⟩) (fun k hk => hk.elim)
                have hb10n := (hb8n.agr ha9 (by omega)).agr ha10 ⟨by omega, hdcv nb (by omega)⟩
                refine ⟨rfl, (v8, st.cols.length), rfl, ?_, by omega, rfl, ?_, hb10n.agr ha11 (by omega), v9, hsets10.agr ha11 (fun k hk => by have := (hsets10.lt hk).1; omega) (fun k hk => hk.elim), ?_, ?_⟩
                · intro k hk
                  rw [ha11 k hk.2, ha10 k ⟨by omega, hdcv k (by omega)⟩, ha9 k (by omega), hold8 k (by omega) (hnlt k (by omega)), hA6 k hk]
                · have := hcols10.agr ha11 (fun k hk => by have := hcols8lt k hk; omega) (fun k hk => hk.elim)
                  simpa using this
                · intro k hk hk9
                  rcases hfresh10 k hk9 with h | h
                  · exact hdis8 k hk h
                  · have := hcols8lt k hk; omega
                · rw [Nat.add_zero, autoL_set0] at hb11; exact hb11
            · rintro ⟨v7, p⟩ H7 junk4 ⟨hA7, hs7, hp, hcols7, hb7n, cv7, hsets7, hdis7, hb7⟩
              dsimp only at hp hcols7 hdis7
              have hok2 := mNew_ok (next := next) hok.len hok.le hok.cols hfb
              have hmr : mRun next cells sp (b + 1) = mStep next cells st b (sp b) := by rw [← hst]; rfl
              generalize hr : mNew next st.cols st.sets fr = r at *
              obtain ⟨cols', sets', p'⟩ := r
              dsimp only at hp hcols7 hsets7 hok2
              subst hp
              obtain ⟨h21, h22, h23, h24, h25⟩ := hok2
              have hmr2 : mRun next cells sp (b + 1) = ⟨cols', sets'.set p (sets'.getD p 0#256 ||| sp b), st.cell ++ [p]⟩ := by
                rw [hmr]; unfold mStep; rw [hfr, hr]
              obtain ⟨bq, capq, lq, csq, rfl, hloq, hblkq, hlenq, hgetq, hrepsq, hputq⟩ := hsets7.place (i := p) (by omega)
              have hpb7 := hb7.lt
              (conv => whnf); refine fa fl102_1 ?_
              (conv => whnf); refine ixa ar100 (by omega) (by omega) ?_
              rw [w8 (x := (p : Int)) (by omega) (by omega)]
              (conv => whnf); refine st1 ct5 hb7 (by rw [autoL_len hcl]; omega) rfl ?_
              intro H8 hb8 ha8 hs8
              rw [show 0 + 1 + (b : Int).toNat * 1 = 1 + st.cell.length by rw [hok.cell]; omega, autoL_cell (by rw [hok.cell]; omega)] at hb8
              (conv => whnf)
              refine VDraw.held (Old H8) 19 (sq [0,1,2,3,4,5,6,7,8,9,10,11,12,13,14,15] (.f 16 (.f 17 (sq [18] (.f 19 .e))))) rfl (by kernel_rfl) ?_
              (conv => whnf); refine fa fl102_0 ?_
              (conv => whnf); refine ld1 (v := .slice (some ⟨bq, 0, none⟩) sets'.length capq) ct80 (by rw [hb8.cell]; exact autoL_0) (show pb < H8.size by omega) ?_
              (conv => whnf); refine fa fl102_0 ?_
              (conv => whnf); refine ld1 (v := .slice (some ⟨bq, 0, none⟩) sets'.length capq) ct80 (by rw [hb8.cell]; exact autoL_0) (show pb < H8.size by omega) ?_
              (conv => whnf); refine ix sl80 (by omega) (by omega) ?_
              obtain ⟨x0, hx0⟩ := get_some (l := sets') (k := p) (by omega)
              obtain ⟨c0, hc0, rfl⟩ := hgetq x0 hx0
              have hbqb : bq ≠ pb := by omega
              (conv => whnf); refine ldN (cs := setL x0) ag78 (by rw [Nat.zero_add, Int.toNat_natCast]; exact hc0.eq (ha8 bq hbqb)) (show bq < H8.size by have := hblkq.lt; omega) ?_
              (conv => whnf); rw [w8 (x := (b : Int)) (by omega) (by omega)]
              refine pures (span_p b b (by omega) (by omega) H8) ?_
              intro H9 ha9
              refine ⟨ha9, ?_⟩
              (conv => whnf); refine pures (union_c x0 (spanS b b) H9) ?_
              intro H10 ha10
              have hs89 := old_size ha9
              have ha810 : Agr (Old H8) H8 H10 := ha9.trans (ha10.mono fun k hk => by unfold Old at *; omega)
              refine ⟨ha810, ?_⟩
              (conv => whnf); refine ix sl80 (by omega) (by omega) ?_
              have hs810 := old_size ha810
              have hblk10 := (hblkq.agr ha8 hbqb).agr ha810 (show bq < H8.size by have := hblkq.lt; omega)
              (conv => whnf); refine stN rfl hblk10 (by rw [Nat.zero_add, Int.toNat_natCast]; exact hlenq) rfl ?_
              intro H11 hb11 ha11 hs11
              (conv => whnf); rw [w64 (x := (b : Int) + 1) (by omega) (by omega)]
              have hlt7 : ∀ k, slB v7 k → nb + 1 ≤ k ∧ k < H7.size := fun k hk => hcols7.lt hk
              have hcols11 := ((hcols7.agr ha8 (fun k hk => by have := hlt7 k hk; omega) (fun k hk => hk.elim)).agr ha810 (fun k hk => by have := hlt7 k hk; unfold Old; omega) (fun k hk => hk.elim)).agr ha11
                (fun k hk hkb => by subst hkb; exact hdis7 _ hk ⟨0, _, _, rfl⟩) (fun k hk => hk.elim)
              have hb11n := (((hb7n.agr ha8 (show nb ≠ pb by omega)).agr ha810 (show nb < H8.size by have := hb7n.lt; omega)).agr ha11 (show nb ≠ bq by omega))
              have hb11p := (hb8.agr ha810 (show pb < H8.size by omega)).agr ha11 (show pb ≠ bq from Ne.symm hbqb)
              refine ⟨rfl, (b + 1, v7), by simp, ⟨by omega, ?_, by omega, ?_, hb11n, .slice (some ⟨bq, 0, none⟩) sets'.length capq, ?_, hdis7, ?_⟩, by omega⟩
              · intro k hk
                rw [ha11 k (by omega), ha810 k (by unfold Old; omega), ha8 k hk.2, hA7 k hk]
              · rw [hmr2]; exact hcols11
              · rw [hmr2]
                have hg : sets'.getD p 0#256 = x0 := by rw [List.getD_eq_getElem?_getD, hx0]; rfl
                rw [hg, ← hsp]
                rw [Nat.zero_add, Int.toNat_natCast] at hb11
                have := hputq H11 (setL (x0 ||| spanS b b)) (x0 ||| spanS b b) hb11 (fun k hk => hk.elim) rfl
                exact this
              · rw [hmr2]; exact hb11p
        · have hbit : c.getLsbD b = false := cellOf_before (by omega) hcf
          rw [hbit]
          (conv => whnf); rw [w64 (x := (f : Int) + 1) (by omega) (by omega)]
          exact ⟨rfl, f + 1, by simp, ⟨ha35, by omega⟩, by omega⟩
    · have hb' : b = 256 := by omega
      subst hb'
      have hok := mRun_ok (next := next) (sp := sp) hcell 256 (by omega)
      generalize hst : mRun next cells sp 256 = st at *
      have hlec := hok.le
      have hlen := hok.len
      (conv => whnf)
      refine VLoop.mk [95] (fun q : Nat => [.int .i64 q]) (fun q H4 => q ≤ next.length ∧ Agr (fun k => k < H3.size ∧ k ≠ nb) H3 H4 ∧ H3.size ≤ H4.size ∧ ∃ vs : List Value, vs.length = next.length ∧ Blk H4 nb 36 vs ∧
        (∀ i, q ≤ i → i < next.length → vs[i]? = some (.slice none 0 0)) ∧ ∀ i v row, i < q → vs[i]? = some v → next[i]? = some row → SlO tI (fun _ => False) H4 H3.size 3 v (rowOf st.cols row)) (fun q _ => next.length - q) ?_ ?_
      · (conv => whnf)
        refine ⟨0, rfl, by omega, Agr.refl _ _, Nat.le_refl _, _, by simp, hb3n, fun i _ hi => by simp [hi], fun i v row hi => by omega⟩
      · rintro q H4 junk2 ⟨hq, ha4, hs4, vs, hvl, hb4n, hnil, hdone⟩
        have hnb3 := hb3n.lt
        have hpb3 := hb3.lt
        have hA4 : Agr (fun k => k < H.size ∧ k ≠ pb) H H4 := hA3.trans (ha4.mono fun k hk => by omega)
        (conv => whnf); refine VIte.mk (fun h => ?_) (fun h => ?_) <;> simp only [decide_eq_true_eq, decide_eq_false_iff_not] at h
        · obtain ⟨row, hrow⟩ := get_some (l := next) (k := q) (by omega)
          obtain ⟨hrl, hrq⟩ := hrows row (List.mem_of_getElem? hrow)
          have hn4 := hn.frame (hA4.mono fun k hk => hS k hk)
          (conv => whnf); refine ixr sl23 hn4 hrow rfl ?_
          rintro b2 o2 cs2 hSb2 hcells2 ⟨ra, rc, rfl, hr⟩
          (conv => whnf); refine ld1 ct36 hcells2.one trivial ?_
          (conv => whnf); rw [List.length_map]
          refine VLoop.mk [102] (fun j : Nat => [.int .i64 j]) (fun j H5 => j ≤ st.cols.length ∧ Agr (fun k => k < H4.size ∧ k ≠ nb) H4 H5 ∧ H4.size ≤ H5.size ∧ ∃ vcur, Blk H5 nb 36 (vs.set q vcur) ∧
            SlO tI (fun _ => False) H5 H4.size 3 vcur (rowOf (st.cols.take j) row)) (fun j _ => st.cols.length - j) ?_ ?_
          · (conv => whnf)
            refine ⟨0, rfl, by omega, Agr.refl _ _, Nat.le_refl _, .slice none 0 0, ?_, SlO.nil⟩
            have : vs.set q (.slice none 0 0) = vs := by
              have h1 := hnil q (Nat.le_refl _) (by omega)
              rw [List.getElem?_eq_some_iff] at h1
              obtain ⟨h2, h3⟩ := h1
              rw [← h3]; exact List.set_getElem_self h2
            rw [this]; exact hb4n
          · rintro j H5 junk3 ⟨hj, ha5, hs5, vcur, hb5n, hcur⟩
            have hA35 : Agr (fun k => k < H3.size ∧ k ≠ nb) H3 H5 := ha4.trans (ha5.mono fun k hk => by omega)
            have hb5 := hb3.agr hA35 ⟨hpb3, by omega⟩
            have hcols5 := hcols.agr hA35 (fun k hk => by have := hcols.lt hk; omega) (fun k hk => hk.elim)
            obtain ⟨av5, capv5, he5, hview, hblk⟩ := hcols5.view (S' := fun k => k < H3.size) (fun k hk => (hcols.lt hk).2) (fun k hk => hk.elim)
            cases he5
            (conv => whnf); refine VIte.mk (fun h => ?_) (fun h => ?_) <;> simp only [decide_eq_true_eq, decide_eq_false_iff_not] at h
            · obtain ⟨c0, hc0⟩ := get_some (l := st.cols) (k := j) (by omega)
              have hc0m := hok.cols c0 (List.mem_of_getElem? hc0)
              (conv => whnf); refine ixrn (x := (c0 : Int)) sl36 hview (by simp) (by simp [hc0]) rfl ?_
              rintro b3 o3 cs3 hSb3 hcells3 ⟨rfl, -⟩
              (conv => whnf); refine ld1 ct3 hcells3.one trivial ?_
              obtain ⟨acu, capcu, rfl, -, -⟩ := hcur.view (S' := fun k => slB vcur k) (fun k hk => hk) (fun k hk => hk.elim)
              (conv => whnf)
              refine VDraw.held (fun k => k < H4.size) 19 (sq [0,1,2,3,4,5,6,7,8,9,10,11,12,13,14,15] (.f 16 (.f 17 (sq [18] (.f 19 .e))))) rfl (by kernel_rfl) ?_
              have hb5nq : cell H5 nb (0 + (q : Int).toNat * 1) = some (.slice acu (rowOf (st.cols.take j) row).length capcu) := by
                rw [hb5n.cell, show 0 + (q : Int).toNat * 1 = q by omega, List.getElem?_set_self (by omega)]
              have hr5 := hr.frame (ha5.mono fun k hk => by have := hS k hk; omega)
              have hv257 : cell H5 pb (0 + 257) = some (.slice (some ⟨nb, 0, none⟩) next.length next.length) := by
                rw [hb5.cell, Nat.zero_add]; exact autoL_257 (by rw [hok.cell]; omega)
              (conv => whnf); refine fa fl102_2 ?_
              (conv => whnf); refine ld1 ct23 hv257 (show pb < H4.size by omega) ?_
              (conv => whnf); refine fa fl102_2 ?_
              (conv => whnf); refine ld1 ct23 hv257 (show pb < H4.size by omega) ?_
              (conv => whnf); refine ix sl23 (by omega) (by omega) ?_
              (conv => whnf); refine ld1 ct36 hb5nq (show nb < H4.size by omega) ?_
              obtain ⟨x0, hx0⟩ := get_some (l := row) (k := c0) (by omega)
              (conv => whnf); refine ixr sl36 hr5 hx0 rfl ?_
              rintro b4 o4 cs4 hSb4 hcells4 ⟨rfl, hx0k⟩
              (conv => whnf); refine ld1 ct3 hcells4.one (show b4 < H4.size by have := hS b4 hSb4; omega) ?_
              (conv => whnf); refine vbuild1 sl36 [.int .i64 x0] rfl rfl (by decide) (by decide) ?_
              intro q6 H6 hq6 hs6 hb6 ha6
              refine ⟨ha6.mono fun k hk => by omega, ?_⟩
              have hcur6 := hcur.agr ha6 (fun k hk => by have := (hcur.lt hk).2; omega) (fun k hk => hk.elim)
              have hrl2 : (rowOf (st.cols.take j) row).length ≤ 256 := by simp [rowOf]; omega
              (conv => whnf); refine vappendO (T := tI) (S := fun _ => False) (ys := [x0]) (ds := [.int .i64 x0]) (lo := H4.size) (xs := rowOf (st.cols.take j) row) sl36 hcur6 (by omega) (fun k hk => hk.elim)
                  (hb6.cells (fun j v hv => by simpa using hv)) (Ty.reps_one ⟨rfl, hx0k⟩) rfl (by intro u hu; cases List.mem_singleton.1 hu; rfl) (by simp only [maxLen, List.length_singleton]; omega) (by simp only [List.length_singleton]; omega) ?_
              intro v7 H7 hcur7 ha7 hs7 hfresh7
              refine ⟨fun k hk => ?_, ?_⟩
              · rw [ha7 k ⟨by omega, fun h => by have := (hcur.lt h).1; omega⟩, ha6 k (by omega)]
              have hb7n := (hb5n.agr ha6 (by omega)).agr ha7 ⟨by omega, fun h => by have := (hcur.lt h).1; omega⟩
              (conv => whnf); refine ix sl23 (by omega) (by omega) ?_
              (conv => whnf); refine st1 ct36 hb7n (by simp; omega) hcur7.one ?_
              intro H8 hb8 ha8 hs8
              (conv => whnf); rw [w64 (x := (j : Int) + 1) (by omega) (by omega)]
              refine ⟨rfl, j + 1, by simp, ⟨by omega, ?_, by omega, v7, ?_, ?_⟩, by omega⟩
              · intro k hk
                rw [ha8 k hk.2, ha7 k ⟨by omega, fun h => by have := (hcur.lt h).1; omega⟩, ha6 k (by omega), ha5 k hk]
              · rw [show 0 + (q : Int).toNat * 1 = q by omega, List.set_set] at hb8
                exact hb8
              · have := hcur7.agr ha8 (fun k hk => by have := (hcur7.lt hk).1; omega) (fun k hk => hk.elim)
                have e1 : rowOf (st.cols.take (j + 1)) row = rowOf (st.cols.take j) row ++ [x0] := by
                  unfold rowOf
                  rw [take_succ_snoc hc0, List.map_append]
                  simp [hx0]
                rw [e1]; exact this
            · have hj' : j = st.cols.length := by omega
              subst hj'
              rw [List.take_length] at hcur
              (conv => whnf); rw [w64 (x := (q : Int) + 1) (by omega) (by omega)]
              refine ⟨rfl, q + 1, by simp, ⟨by omega, hA35, by omega, vs.set q vcur, by simp [hvl], hb5n, ?_, ?_⟩, by omega⟩
              · intro i h1 h2
                rw [List.getElem?_set_ne (by omega)]
                exact hnil i (by omega) h2
              · intro i v row' hi hv hrow'
                by_cases hiq : i = q
                · subst hiq
                  rw [List.getElem?_set_self (by omega)] at hv
                  rw [hrow] at hrow'
                  cases hv; cases hrow'
                  exact hcur.lower (by omega)
                · rw [List.getElem?_set_ne (by omega)] at hv
                  have hd := hdone i v row' (by omega) hv hrow'
                  exact hd.agr ha5 (fun k hk => by have := hd.lt hk; omega) (fun k hk => hk.elim)
        · have hq' : q = next.length := by omega
          subst hq'
          (conv => whnf)
          have hs23 : H2.size ≤ H3.size := hs3
          obtain ⟨ac9, capc9, he9, hview9, -⟩ := (hsets.agr ha4 (fun k hk => by have := hsets.lt hk; omega) (fun k hk => hk.elim)).view (S' := fun k => H.size ≤ k ∧ k < H4.size)
            (fun k hk => by have := hsets.lt hk; omega) (fun k hk => hk.elim)
          subst he9
          refine ⟨hA4, by omega, ac9, capc9, some ⟨nb, 0, none⟩, next.length, hb3.agr ha4 ⟨hpb3, by omega⟩, hview9, SlD.intro (show H.size ≤ nb ∧ nb < H4.size by omega) (by simp) (by simp [maxLen]; omega) (hb4n.cells (cs := vs) (fun j v hv => by simpa using hv)) ?_⟩
          refine reps_of_ones (by simp [hvl]) fun i v x hv hx => ?_
          rw [List.getElem?_map] at hx
          obtain ⟨row, hrow, rfl⟩ := Option.map_eq_some_iff.1 hx
          have hd := hdone i v row (List.getElem?_eq_some_iff.1 hrow).1 hv hrow
          obtain ⟨a0, cap0, rfl, hv0, -⟩ := hd.view (S' := fun k => H.size ≤ k ∧ k < H4.size) (fun k hk => by have := hd.lt hk; omega) (fun k hk => hk.elim)
          exact ⟨a0, cap0, rfl, hv0⟩

end Go.Proofs.Ytkgmhkcncemmkaa
