/- Parts of the proof: PDp2, PPa2, PPa3, PPa4, PRd4, PRd5, PPa5, PPa6, PPa7, PDp3 -/
import Derived.Test.YtlnmhfhdjnenoaaGreatDoorKNr3
import Derived.Test.YtlnmhfhdjnenoaaGreatDoorKNr2
import Derived.Test.YtlnmhfhdjnenoaaGreatDoorKNr1
/- The document's parser: add, settle, fold, close: the walks. -/
set_option linter.unusedVariables false
set_option linter.unusedSimpArgs false
set_option maxRecDepth 100000
namespace Go.Proofs.YtlnmhfhdjnenoaaGreatDoor
open Go.VC Go.Lib
abbrev tSt : TypeId := 83
abbrev stP (sb fb : Nat) (na : Option Addr) (nc fc n : Nat) (ds : List RnM) (frs : List FrD) (rest : List Pc) : List Pc :=
  pB tSt sb [.slice na ds.length nc, .slice (some ⟨fb, 0, none⟩) n fc] :: pS tRn 94 na ds.length nc ds :: pS tFr 85 (some ⟨fb, 0, none⟩) n fc frs :: rest
/-- The parser's state in memory. -/
structure Dst (B : Nat → Prop) (H0 H : Heap) (sb fb : Nat) (ds : List RnM) (frs : List FrD) (rest : List Pc) : Prop where
  ex : ∃ na nc fc n, StB B H0 H (stP sb fb na nc fc n ds frs rest)
def NumOk (x : Int) : Prop := -4294967296 < x ∧ x < 4294967296
theorem num_in {x : Int} (h : NumOk x) : inK .i64 x := by
  unfold NumOk at h
  unfold inK
  show (-9223372036854775808 : Int) ≤ x ∧ x ≤ 9223372036854775807
  omega
theorem bin_ok {op x y : Int} (h1 : NumOk op) (h2 : NumOk x) (h3 : NumOk y) : (binN op x y).Ok := ⟨num_in h1, num_in h2, num_in h3, num_in (x := 0) (by unfold NumOk; omega), num_in (x := 0) (by unfold NumOk; omega)⟩
section
variable {B : Nat → Prop} {H0 H : Heap} {sb fb nc fc n : Nat} {na : Option Addr} {ds : List RnM} {frs : List FrD} {rest : List Pc}
theorem add_c {op x y : Int} (st : StB B H0 H (stP sb fb na nc fc n ds frs rest)) (h1 : NumOk op) (h2 : NumOk x) (h3 : NumOk y) (hl : ds.length ≤ 16777216) :
    FnOk Tryz.prog 55 #[.pointer (some ⟨sb, 0, none⟩), .int .i64 op, .int .i64 x, .int .i64 y] H
      (fun v H' => v = .int .i64 (ds.length : Int) ∧ Agr (fun k => k = fb) H H' ∧ ∃ na' nc', StB B H0 H' (stP sb fb na' nc' fc n (ds ++ [binN op x y]) frs rest)) := by
  have f1 : fb ≠ sb := fun e => st.apart2 (i := 0) (j := 2) rfl rfl (by decide) sb rfl (.inl ⟨0, n, fc, by rw [e]⟩)
  have f2 : ¬ slB (.slice na ds.length nc) fb := fun e => st.apart2 (i := 1) (j := 2) rfl rfl (by decide) fb (.inl e) (.inl ⟨0, n, fc, rfl⟩)
  have f3 : fb < H.size := st.ltE 2 rfl
  refine FnOk.of_vc Tryz.func55 rfl (Tryz.call55 _) ?_
  (conv => whnf); refine VC.fa fl83_0 ?_
  (conv => whnf); refine ld1 (v := .slice na ds.length nc) ct30 (by rw [(st.blk 0 rfl).cell]; rfl) trivial ?_
  (conv => whnf); refine rn_build2 op x y ?_
  (conv => whnf); refine vbuild1 sl30 (rnL (binN op x y)) rfl (rnL_len _) (by decide) (by decide) ?_
  intro z H1 hz hs1 hb1 ha1
  have st1 := st.skip hz ha1
  (conv => whnf); refine appG (ys := [binN op x y]) st1 1 sl30 rfl (hb1.cells (o := 0) (cs := rnL (binN op x y)) fun j v hv => by rw [Nat.zero_add]; exact hv) (Ty.reps_one ⟨rfl, bin_ok h1 h2 h3⟩) rfl (fun u hu => List.all_eq_true.1 (rn_ones _) u hu) (by simp [maxLen]; omega) (by simp; omega) fun a9 c9 H9 st9 ha9 => ?_
  have el : ds.length + [binN op x y].length = (ds ++ [binN op x y]).length := by simp
  rw [el] at st9 ⊢
  (conv => whnf); refine VC.fa fl83_0 ?_
  (conv => whnf); refine st1Ba st9 0 ct30 rfl (show 0 < 2 by decide) rfl fun H10 st10 ja js => ?_
  (conv => whnf); refine VC.fa fl83_0 ?_
  (conv => whnf); refine ld1 (v := .slice a9 (ds ++ [binN op x y]).length c9) ct30 (by rw [(st10.blk 0 rfl).cell]; rfl) trivial ?_
  have w1 : IntKind.wrap .i64 (((ds ++ [binN op x y]).length : Int) - 1) = (ds.length : Int) := by
    rw [List.length_append, List.length_singleton, w64 (by omega) (by omega)]; omega
  (conv => whnf); rw [w1]
  (conv => whnf)
  refine ⟨rfl, ?_, a9, c9, st10⟩
  rintro k rfl
  rw [ja _ f1, ha9 _ ⟨by have : z = H.size := hz; omega, f2⟩, ha1 _ (by have : z = H.size := hz; omega)]
-- generated below
theorem fr_cell {fr : List FrD} {f : FrD} {k : Nat} {v : Value} (st : StB B H0 H (stP sb fb na nc fc n ds (fr ++ [f]) rest)) (hk : (frL f)[k]? = some v) : cell H fb (fr.length * tFr.size + k) = some v := by
  obtain ⟨c, hc, rfl⟩ := st.cellsE 2 rfl (x := f) (j := fr.length) (by simp)
  exact hc k v hk
theorem fr_lt {fr : List FrD} {f : FrD} (st : StB B H0 H (stP sb fb na nc fc n ds (fr ++ [f]) rest)) : n = fr.length + 1 := by
  have := st.len 2 rfl
  rw [this]; simp
theorem st1F {t k : Nat} {v : Value} {fr : List FrD} {f f' : FrD} {K : Heap → Prop} (st : StB B H0 H (stP sb fb na nc fc n ds (fr ++ [f]) rest)) (ht : CellT Tryz.prog t) (hk : k < 6) (hv : v.oneCell' = true) (hr : (frL f).set k v = frL f')
    (kk : ∀ H', StB B H0 H' (stP sb fb na nc fc n ds (fr ++ [f']) rest) → Agr (fun q => q ≠ fb) H H' → K H') : VEffU Tryz.prog (Instr.storeAt t (.pointer (some ⟨fb, fr.length * tFr.size + k, none⟩)) v) H K := by
  refine st1E (T := tFr) (x := f) (x' := f') st 2 ht rfl (by simp) hk hv (fun H' c hc => by rw [show c = frL f from hc]; exact hr) fun H' st' ha => ?_
  rw [show (fr ++ [f]).set fr.length f' = fr ++ [f'] from by simp] at st'
  exact kk H' st' ha
structure FrN (f : FrD) : Prop where
  alt : NumOk f.alt
  meet : NumOk f.meet
  row : NumOk f.row
  factor : NumOk f.factor
theorem num_m1 : NumOk (-1) := by unfold NumOk; omega
theorem num_len {m : Nat} (h : m ≤ 16777216) : NumOk (m : Int) := by unfold NumOk; omega
theorem settleD_num {ds : List RnM} {f : FrD} (h : FrN f) (hl : ds.length ≤ 16777216) : FrN (settleD ds f).2 := by
  unfold settleD
  split
  · exact h
  · split
    · exact ⟨h.alt, h.meet, h.factor, num_m1⟩
    · exact ⟨h.alt, h.meet, num_len hl, num_m1⟩
theorem emptyD_num {ds : List RnM} {f : FrD} (h : FrN f) (hl : ds.length ≤ 16777216) : FrN (emptyD ds f).2 := by
  unfold emptyD
  split
  · exact ⟨h.alt, h.meet, num_len hl, h.factor⟩
  · exact h
theorem meetD_num {ds : List RnM} {f : FrD} (h : FrN f) (hl : ds.length ≤ 16777216) : FrN (meetD ds f).2 := by
  unfold meetD
  split
  · exact ⟨h.alt, h.row, num_m1, h.factor⟩
  · exact ⟨h.alt, num_len hl, num_m1, h.factor⟩
theorem foldD_num {ds : List RnM} {f : FrD} (h : FrN f) (hl : ds.length ≤ 16777200) : FrN (foldD ds f).2 := by
  unfold foldD
  have h1 := settleD_len ds f
  have h2 := emptyD_len (settleD ds f).1 (settleD ds f).2
  exact meetD_num (emptyD_num (settleD_num h (by omega)) (by omega)) (by omega)
set_option maxHeartbeats 4000000 in
theorem dsettle_c {fr : List FrD} {f : FrD} (st : StB B H0 H (stP sb fb na nc fc n ds (fr ++ [f]) rest)) (hn : FrN f) (hl : ds.length ≤ 16777216) :
    FnOk Tryz.prog 33 #[.pointer (some ⟨sb, 0, none⟩)] H (fun _ H' => ∃ na' nc', StB B H0 H' (stP sb fb na' nc' fc n (settleD ds f).1 (fr ++ [(settleD ds f).2]) rest)) := by
  have hlen := fr_lt st
  have hmx := st.max 2 rfl
  simp only [List.length_append, List.length_singleton, maxLen] at hmx
  refine FnOk.of_vc Tryz.func33 rfl (Tryz.call33 _) ?_
  (conv => whnf); refine VDraw.lex rfl (by kernel_rfl) ?_
  (conv => whnf); refine VC.fa fl83_1 ?_
  (conv => whnf); refine ld1 (v := .slice (some ⟨fb, 0, none⟩) n fc) ct81 (by rw [(st.blk 0 rfl).cell]; rfl) trivial ?_
  (conv => whnf); refine VC.fa fl83_1 ?_
  (conv => whnf); refine ld1 (v := .slice (some ⟨fb, 0, none⟩) n fc) ct81 (by rw [(st.blk 0 rfl).cell]; rfl) trivial ?_
  (conv => whnf); rw [w64 (x := (n : Int) - 1) (by omega) (by omega)]
  (conv => whnf); refine ixE (j := fr.length) sl81 st 2 rfl (by simp) (by omega) ?_
  (conv => whnf); refine VC.fa fl85_5 ?_
  (conv => whnf); refine ld1 (v := .int .i64 f.factor) ct3 (fr_cell st (k := 5) rfl) trivial ?_
  by_cases h1 : f.factor < 0
  · have d1 : decide (f.factor < 0) = true := decide_eq_true h1
    have e : settleD ds f = (ds, f) := by unfold settleD; rw [if_pos h1]
    (conv => whnf); rw [d1]
    (conv => whnf)
    rw [e]
    exact ⟨na, nc, st⟩
  · have d1 : decide (f.factor < 0) = false := decide_eq_false h1
    (conv => whnf); rw [d1]
    (conv => whnf); try (refine VSeq.run ?_)
    (conv => whnf); refine VC.fa fl85_4 ?_
    (conv => whnf); refine ld1 (v := .int .i64 f.row) ct3 (fr_cell st (k := 4) rfl) trivial ?_
    by_cases h2 : f.row < 0
    · have d2 : decide (f.row < 0) = true := decide_eq_true h2
      have e : settleD ds f = (ds, { f with row := f.factor, factor := -1 }) := by unfold settleD; rw [if_neg h1, if_pos h2]
      (conv => whnf); rw [d2]
      (conv => whnf); refine VC.fa fl85_5 ?_
      (conv => whnf); refine ld1 (v := .int .i64 f.factor) ct3 (fr_cell st (k := 5) rfl) trivial ?_
      (conv => whnf); refine VC.fa fl85_4 ?_
      (conv => whnf); refine st1F (k := 4) (f' := { f with row := f.factor }) st ct3 (by decide) rfl rfl fun G1 sg1 ja => ?_
      (conv => whnf); refine VC.fa fl85_5 ?_
      (conv => whnf); refine st1F (k := 5) (f' := { f with row := f.factor, factor := -1 }) sg1 ct3 (by decide) rfl rfl fun G2 sg2 ja => ?_
      (conv => whnf)
      rw [e]
      exact ⟨na, nc, sg2⟩
    · have d2 : decide (f.row < 0) = false := decide_eq_false h2
      have e : settleD ds f = (ds ++ [binN 2 f.row f.factor], { f with row := ds.length, factor := -1 }) := by unfold settleD; rw [if_neg h1, if_neg h2]
      (conv => whnf); rw [d2]
      (conv => whnf); refine VDraw.heldZ (fun k => k = fb) [13] (sq [0,1,2,3,4,5,6,7,8,9] (.f 10 (sq [11,12] (.f 13 .e)))) rfl (by kernel_rfl) ?_
      (conv => whnf); refine VC.fa fl85_4 ?_
      (conv => whnf); refine ld1 (v := .int .i64 f.row) ct3 (fr_cell st (k := 4) rfl) rfl ?_
      (conv => whnf); refine VC.fa fl85_5 ?_
      (conv => whnf); refine ld1 (v := .int .i64 f.factor) ct3 (fr_cell st (k := 5) rfl) rfl ?_
      (conv => whnf); refine VCall.mk (add_c (op := 2) st (by unfold NumOk; omega) hn.row hn.factor hl) ?_
      rintro _ G1 ⟨rfl, af, na1, nc1, sg1⟩
      refine ⟨af, ?_⟩
      (conv => whnf); refine VC.fa fl85_4 ?_
      (conv => whnf); refine st1F (k := 4) (f' := { f with row := ds.length }) sg1 ct3 (by decide) rfl rfl fun G2 sg2 ja => ?_
      (conv => whnf); refine VC.fa fl85_5 ?_
      (conv => whnf); refine st1F (k := 5) (f' := { f with row := ds.length, factor := -1 }) sg2 ct3 (by decide) rfl rfl fun G3 sg3 ja => ?_
      (conv => whnf)
      rw [e]
      exact ⟨na1, nc1, sg3⟩
set_option maxHeartbeats 8000000 in
theorem dfold_c {fr : List FrD} {f : FrD} (st : StB B H0 H (stP sb fb na nc fc n ds (fr ++ [f]) rest)) (hn : FrN f) (hl : ds.length ≤ 16777200) :
    FnOk Tryz.prog 32 #[.pointer (some ⟨sb, 0, none⟩)] H (fun _ H' => ∃ na' nc', StB B H0 H' (stP sb fb na' nc' fc n (foldD ds f).1 (fr ++ [(foldD ds f).2]) rest)) := by
  have hlen := fr_lt st
  have hmx := st.max 2 rfl
  simp only [List.length_append, List.length_singleton, maxLen] at hmx
  refine FnOk.of_vc Tryz.func32 rfl (Tryz.call32 _) ?_
  (conv => whnf); refine VCall.mk (dsettle_c st hn (by omega)) ?_
  rintro v1 H1 ⟨na1, nc1, st1⟩
  have hn1 := settleD_num hn (ds := ds) (by omega)
  have hl1 := settleD_len ds f
  have e0 : foldD ds f = meetD (emptyD (settleD ds f).1 (settleD ds f).2).1 (emptyD (settleD ds f).1 (settleD ds f).2).2 := rfl
  obtain ⟨ds1, f1, hq⟩ : ∃ ds1 f1, settleD ds f = (ds1, f1) := ⟨_, _, rfl⟩
  rw [hq] at st1 hn1 hl1 e0
  replace st1 : StB B H0 H1 (stP sb fb na1 nc1 fc n ds1 (fr ++ [f1]) rest) := st1
  replace hn1 : FrN f1 := hn1
  replace hl1 : ds1.length ≤ ds.length + 1 := hl1
  replace e0 : foldD ds f = meetD (emptyD ds1 f1).1 (emptyD ds1 f1).2 := e0
  (conv => whnf); refine VDraw.lex rfl (by kernel_rfl) ?_
  (conv => whnf); refine VC.fa fl83_1 ?_
  (conv => whnf); refine ld1 (v := .slice (some ⟨fb, 0, none⟩) n fc) ct81 (by rw [(st1.blk 0 rfl).cell]; rfl) trivial ?_
  (conv => whnf); refine VC.fa fl83_1 ?_
  (conv => whnf); refine ld1 (v := .slice (some ⟨fb, 0, none⟩) n fc) ct81 (by rw [(st1.blk 0 rfl).cell]; rfl) trivial ?_
  (conv => whnf); rw [w64 (x := (n : Int) - 1) (by omega) (by omega)]
  (conv => whnf); refine ixE (j := fr.length) sl81 st1 2 rfl (by simp) (by omega) ?_
  (conv => whnf); try (refine VSeq.run ?_)
  (conv => whnf); refine VC.fa fl85_4 ?_
  (conv => whnf); refine ld1 (v := .int .i64 f1.row) ct3 (fr_cell st1 (k := 4) rfl) trivial ?_
  by_cases h2 : f1.row < 0
  · have d2 : decide (f1.row < 0) = true := decide_eq_true h2
    have e1 : meetD (emptyD ds1 f1).1 (emptyD ds1 f1).2 = meetD (ds1 ++ [binN 0 0 0]) { f1 with row := (ds1.length : Int) } := by unfold emptyD; rw [if_pos h2]
    (conv => whnf); rw [d2]
    (conv => whnf); refine VCall.mk (add_c (op := 0) (x := 0) (y := 0) st1 (by unfold NumOk; omega) (by unfold NumOk; omega) (by unfold NumOk; omega) (by omega)) ?_
    rintro _ G8 ⟨rfl, af8, na8, nc8, sg8⟩
    (conv => whnf); refine VC.fa fl85_4 ?_
    (conv => whnf); refine st1F (k := 4) (f' := { f1 with row := (ds1.length : Int) }) sg8 ct3 (by decide) rfl rfl fun G9 sg9 ja => ?_
    have hn2 : FrN { f1 with row := (ds1.length : Int) } := ⟨hn1.alt, hn1.meet, num_len (by omega), hn1.factor⟩
    (conv => whnf); try (refine VSeq.run ?_)
    (conv => whnf); refine VC.fa fl85_2 ?_
    (conv => whnf); refine ld1 (v := .int .i64 ({ f1 with row := (ds1.length : Int) }).meet) ct3 (fr_cell sg9 (k := 2) rfl) trivial ?_
    by_cases m1 : f1.meet < 0
    · have d3 : decide (f1.meet < 0) = true := decide_eq_true m1
      have e : foldD ds f = (ds1 ++ [binN 0 0 0], { ({ f1 with row := (ds1.length : Int) }) with meet := ({ f1 with row := (ds1.length : Int) }).row, row := -1 }) := by rw [e0, e1]; unfold meetD; rw [if_pos m1]
      (conv => whnf); rw [d3]
      (conv => whnf); refine VC.fa fl85_4 ?_
      (conv => whnf); refine ld1 (v := .int .i64 ({ f1 with row := (ds1.length : Int) }).row) ct3 (fr_cell sg9 (k := 4) rfl) trivial ?_
      (conv => whnf); refine VC.fa fl85_2 ?_
      (conv => whnf); refine st1F (k := 2) (f' := { ({ f1 with row := (ds1.length : Int) }) with meet := ({ f1 with row := (ds1.length : Int) }).row }) sg9 ct3 (by decide) rfl rfl fun G5 sg5 ja => ?_
      (conv => whnf); refine VC.fa fl85_4 ?_
      (conv => whnf); refine st1F (k := 4) (f' := { ({ f1 with row := (ds1.length : Int) }) with meet := ({ f1 with row := (ds1.length : Int) }).row, row := -1 }) sg5 ct3 (by decide) rfl rfl fun G6 sg6 ja => ?_
      (conv => whnf)
      rw [e]
      exact ⟨_, _, sg6⟩
    · have d3 : decide (f1.meet < 0) = false := decide_eq_false m1
      (conv => whnf); rw [d3]
      (conv => whnf); try (refine VSeq.run ?_)
      (conv => whnf); refine VC.fa fl85_3 ?_
      (conv => whnf); refine ld1 (v := .int .u8 (({ f1 with row := (ds1.length : Int) }).sign : Int)) ct5 (fr_cell sg9 (k := 3) rfl) trivial ?_
      by_cases s1 : f1.sign = 38
      · have d4 : ((f1.sign : Int) == 38) = true := by rw [s1]; rfl
        have e : foldD ds f = (ds1 ++ [binN 0 0 0] ++ [binN 5 ({ f1 with row := (ds1.length : Int) }).meet ({ f1 with row := (ds1.length : Int) }).row], { ({ f1 with row := (ds1.length : Int) }) with meet := ((ds1 ++ [binN 0 0 0]).length : Int), row := -1 }) := by rw [e0, e1]; unfold meetD; rw [if_neg m1]; show (_ ++ [binN (if f1.sign = 38 then 5 else 6) _ _], _) = _; rw [if_pos s1]
        (conv => whnf); rw [d4]
        (conv => whnf); refine VDraw.heldZ (fun k => k = fb) [13] (sq [0,1,2,3,4,5,6,7,8,9] (.f 10 (sq [11,12] (.f 13 .e)))) rfl (by kernel_rfl) ?_
        (conv => whnf); refine VC.fa fl85_2 ?_
        (conv => whnf); refine ld1 (v := .int .i64 ({ f1 with row := (ds1.length : Int) }).meet) ct3 (fr_cell sg9 (k := 2) rfl) rfl ?_
        (conv => whnf); refine VC.fa fl85_4 ?_
        (conv => whnf); refine ld1 (v := .int .i64 ({ f1 with row := (ds1.length : Int) }).row) ct3 (fr_cell sg9 (k := 4) rfl) rfl ?_
        (conv => whnf); refine VCall.mk (add_c (op := 5) sg9 (by unfold NumOk; omega) hn2.meet hn2.row (by simp; omega)) ?_
        rintro _ G1 ⟨rfl, af, na1, nc1, sg1⟩
        refine ⟨af, ?_⟩
        (conv => whnf); refine VC.fa fl85_2 ?_
        (conv => whnf); refine st1F (k := 2) (f' := { ({ f1 with row := (ds1.length : Int) }) with meet := ((ds1 ++ [binN 0 0 0]).length : Int) }) sg1 ct3 (by decide) rfl rfl fun G2 sg2 ja => ?_
        (conv => whnf); refine VC.fa fl85_4 ?_
        (conv => whnf); refine st1F (k := 4) (f' := { ({ f1 with row := (ds1.length : Int) }) with meet := ((ds1 ++ [binN 0 0 0]).length : Int), row := -1 }) sg2 ct3 (by decide) rfl rfl fun G6 sg6 ja => ?_
        (conv => whnf)
        rw [e]
        exact ⟨_, _, sg6⟩
      · have d4 : ((f1.sign : Int) == 38) = false := beq_eq_false_iff_ne.2 (by omega)
        have e : foldD ds f = (ds1 ++ [binN 0 0 0] ++ [binN 6 ({ f1 with row := (ds1.length : Int) }).meet ({ f1 with row := (ds1.length : Int) }).row], { ({ f1 with row := (ds1.length : Int) }) with meet := ((ds1 ++ [binN 0 0 0]).length : Int), row := -1 }) := by rw [e0, e1]; unfold meetD; rw [if_neg m1]; show (_ ++ [binN (if f1.sign = 38 then 5 else 6) _ _], _) = _; rw [if_neg s1]
        (conv => whnf); rw [d4]
        (conv => whnf); refine VDraw.heldZ (fun k => k = fb) [13] (sq [0,1,2,3,4,5,6,7,8,9] (.f 10 (sq [11,12] (.f 13 .e)))) rfl (by kernel_rfl) ?_
        (conv => whnf); refine VC.fa fl85_2 ?_
        (conv => whnf); refine ld1 (v := .int .i64 ({ f1 with row := (ds1.length : Int) }).meet) ct3 (fr_cell sg9 (k := 2) rfl) rfl ?_
        (conv => whnf); refine VC.fa fl85_4 ?_
        (conv => whnf); refine ld1 (v := .int .i64 ({ f1 with row := (ds1.length : Int) }).row) ct3 (fr_cell sg9 (k := 4) rfl) rfl ?_
        (conv => whnf); refine VCall.mk (add_c (op := 6) sg9 (by unfold NumOk; omega) hn2.meet hn2.row (by simp; omega)) ?_
        rintro _ G1 ⟨rfl, af, na1, nc1, sg1⟩
        refine ⟨af, ?_⟩
        (conv => whnf); refine VC.fa fl85_2 ?_
        (conv => whnf); refine st1F (k := 2) (f' := { ({ f1 with row := (ds1.length : Int) }) with meet := ((ds1 ++ [binN 0 0 0]).length : Int) }) sg1 ct3 (by decide) rfl rfl fun G2 sg2 ja => ?_
        (conv => whnf); refine VC.fa fl85_4 ?_
        (conv => whnf); refine st1F (k := 4) (f' := { ({ f1 with row := (ds1.length : Int) }) with meet := ((ds1 ++ [binN 0 0 0]).length : Int), row := -1 }) sg2 ct3 (by decide) rfl rfl fun G6 sg6 ja => ?_
        (conv => whnf)
        rw [e]
        exact ⟨_, _, sg6⟩
  · have d2 : decide (f1.row < 0) = false := decide_eq_false h2
    have e1 : meetD (emptyD ds1 f1).1 (emptyD ds1 f1).2 = meetD ds1 f1 := by unfold emptyD; rw [if_neg h2]
    (conv => whnf); rw [d2]
    (conv => whnf); try (refine VSeq.run ?_)
    (conv => whnf); refine VC.fa fl85_2 ?_
    (conv => whnf); refine ld1 (v := .int .i64 (f1).meet) ct3 (fr_cell st1 (k := 2) rfl) trivial ?_
    by_cases m1 : f1.meet < 0
    · have d3 : decide (f1.meet < 0) = true := decide_eq_true m1
      have e : foldD ds f = (ds1, { (f1) with meet := (f1).row, row := -1 }) := by rw [e0, e1]; unfold meetD; rw [if_pos m1]
      (conv => whnf); rw [d3]
      (conv => whnf); refine VC.fa fl85_4 ?_
      (conv => whnf); refine ld1 (v := .int .i64 (f1).row) ct3 (fr_cell st1 (k := 4) rfl) trivial ?_
      (conv => whnf); refine VC.fa fl85_2 ?_
      (conv => whnf); refine st1F (k := 2) (f' := { (f1) with meet := (f1).row }) st1 ct3 (by decide) rfl rfl fun G5 sg5 ja => ?_
      (conv => whnf); refine VC.fa fl85_4 ?_
      (conv => whnf); refine st1F (k := 4) (f' := { (f1) with meet := (f1).row, row := -1 }) sg5 ct3 (by decide) rfl rfl fun G6 sg6 ja => ?_
      (conv => whnf)
      rw [e]
      exact ⟨_, _, sg6⟩
    · have d3 : decide (f1.meet < 0) = false := decide_eq_false m1
      (conv => whnf); rw [d3]
      (conv => whnf); try (refine VSeq.run ?_)
      (conv => whnf); refine VC.fa fl85_3 ?_
      (conv => whnf); refine ld1 (v := .int .u8 ((f1).sign : Int)) ct5 (fr_cell st1 (k := 3) rfl) trivial ?_
      by_cases s1 : f1.sign = 38
      · have d4 : ((f1.sign : Int) == 38) = true := by rw [s1]; rfl
        have e : foldD ds f = (ds1 ++ [binN 5 (f1).meet (f1).row], { (f1) with meet := ((ds1).length : Int), row := -1 }) := by rw [e0, e1]; unfold meetD; rw [if_neg m1]; show (_ ++ [binN (if f1.sign = 38 then 5 else 6) _ _], _) = _; rw [if_pos s1]
        (conv => whnf); rw [d4]
        (conv => whnf); refine VDraw.heldZ (fun k => k = fb) [13] (sq [0,1,2,3,4,5,6,7,8,9] (.f 10 (sq [11,12] (.f 13 .e)))) rfl (by kernel_rfl) ?_
        (conv => whnf); refine VC.fa fl85_2 ?_
        (conv => whnf); refine ld1 (v := .int .i64 (f1).meet) ct3 (fr_cell st1 (k := 2) rfl) rfl ?_
        (conv => whnf); refine VC.fa fl85_4 ?_
        (conv => whnf); refine ld1 (v := .int .i64 (f1).row) ct3 (fr_cell st1 (k := 4) rfl) rfl ?_
        (conv => whnf); refine VCall.mk (add_c (op := 5) st1 (by unfold NumOk; omega) hn1.meet hn1.row (by omega)) ?_
        rintro _ G1 ⟨rfl, af, na1, nc1, sg1⟩
        refine ⟨af, ?_⟩
        (conv => whnf); refine VC.fa fl85_2 ?_
        (conv => whnf); refine st1F (k := 2) (f' := { (f1) with meet := ((ds1).length : Int) }) sg1 ct3 (by decide) rfl rfl fun G2 sg2 ja => ?_
        (conv => whnf); refine VC.fa fl85_4 ?_
        (conv => whnf); refine st1F (k := 4) (f' := { (f1) with meet := ((ds1).length : Int), row := -1 }) sg2 ct3 (by decide) rfl rfl fun G6 sg6 ja => ?_
        (conv => whnf)
        rw [e]
        exact ⟨_, _, sg6⟩
      · have d4 : ((f1.sign : Int) == 38) = false := beq_eq_false_iff_ne.2 (by omega)
        have e : foldD ds f = (ds1 ++ [binN 6 (f1).meet (f1).row], { (f1) with meet := ((ds1).length : Int), row := -1 }) := by rw [e0, e1]; unfold meetD; rw [if_neg m1]; show (_ ++ [binN (if f1.sign = 38 then 5 else 6) _ _], _) = _; rw [if_neg s1]
        (conv => whnf); rw [d4]
        (conv => whnf); refine VDraw.heldZ (fun k => k = fb) [13] (sq [0,1,2,3,4,5,6,7,8,9] (.f 10 (sq [11,12] (.f 13 .e)))) rfl (by kernel_rfl) ?_
        (conv => whnf); refine VC.fa fl85_2 ?_
        (conv => whnf); refine ld1 (v := .int .i64 (f1).meet) ct3 (fr_cell st1 (k := 2) rfl) rfl ?_
        (conv => whnf); refine VC.fa fl85_4 ?_
        (conv => whnf); refine ld1 (v := .int .i64 (f1).row) ct3 (fr_cell st1 (k := 4) rfl) rfl ?_
        (conv => whnf); refine VCall.mk (add_c (op := 6) st1 (by unfold NumOk; omega) hn1.meet hn1.row (by omega)) ?_
        rintro _ G1 ⟨rfl, af, na1, nc1, sg1⟩
        refine ⟨af, ?_⟩
        (conv => whnf); refine VC.fa fl85_2 ?_
        (conv => whnf); refine st1F (k := 2) (f' := { (f1) with meet := ((ds1).length : Int) }) sg1 ct3 (by decide) rfl rfl fun G2 sg2 ja => ?_
        (conv => whnf); refine VC.fa fl85_4 ?_
        (conv => whnf); refine st1F (k := 4) (f' := { (f1) with meet := ((ds1).length : Int), row := -1 }) sg2 ct3 (by decide) rfl rfl fun G6 sg6 ja => ?_
        (conv => whnf)
        rw [e]
        exact ⟨_, _, sg6⟩
set_option maxHeartbeats 8000000 in
theorem dclose_c {fr : List FrD} {f : FrD} (st : StB B H0 H (stP sb fb na nc fc n ds (fr ++ [f]) rest)) (hn : FrN f) (hl : ds.length ≤ 16777200) :
    FnOk Tryz.prog 31 #[.pointer (some ⟨sb, 0, none⟩)] H (fun _ H' => ∃ na' nc', StB B H0 H' (stP sb fb na' nc' fc n (closeD ds f).1 (fr ++ [(closeD ds f).2]) rest)) := by
  have hlen := fr_lt st
  have hmx := st.max 2 rfl
  simp only [List.length_append, List.length_singleton, maxLen] at hmx
  refine FnOk.of_vc Tryz.func31 rfl (Tryz.call31 _) ?_
  (conv => whnf); refine VCall.mk (dfold_c st hn (by omega)) ?_
  rintro v1 H1 ⟨na1, nc1, st1⟩
  have hn1 := foldD_num hn (ds := ds) (by omega)
  have hl1 := foldD_len ds f
  have e0 : closeD ds f = altD (foldD ds f).1 (foldD ds f).2 := rfl
  obtain ⟨ds1, f1, hq⟩ : ∃ ds1 f1, foldD ds f = (ds1, f1) := ⟨_, _, rfl⟩
  rw [hq] at st1 hn1 hl1 e0
  replace st1 : StB B H0 H1 (stP sb fb na1 nc1 fc n ds1 (fr ++ [f1]) rest) := st1
  replace hn1 : FrN f1 := hn1
  replace hl1 : ds1.length ≤ ds.length + 3 := hl1
  replace e0 : closeD ds f = altD ds1 f1 := e0
  (conv => whnf); refine VDraw.lex rfl (by kernel_rfl) ?_
  (conv => whnf); refine VC.fa fl83_1 ?_
  (conv => whnf); refine ld1 (v := .slice (some ⟨fb, 0, none⟩) n fc) ct81 (by rw [(st1.blk 0 rfl).cell]; rfl) trivial ?_
  (conv => whnf); refine VC.fa fl83_1 ?_
  (conv => whnf); refine ld1 (v := .slice (some ⟨fb, 0, none⟩) n fc) ct81 (by rw [(st1.blk 0 rfl).cell]; rfl) trivial ?_
  (conv => whnf); rw [w64 (x := (n : Int) - 1) (by omega) (by omega)]
  (conv => whnf); refine ixE (j := fr.length) sl81 st1 2 rfl (by simp) (by omega) ?_
  (conv => whnf); try (refine VSeq.run ?_)
  (conv => whnf); refine VC.fa fl85_1 ?_
  (conv => whnf); refine ld1 (v := .int .i64 f1.alt) ct3 (fr_cell st1 (k := 1) rfl) trivial ?_
  by_cases h2 : f1.alt < 0
  · have d2 : decide (f1.alt < 0) = true := decide_eq_true h2
    have e : closeD ds f = (ds1, { f1 with alt := f1.meet, meet := -1 }) := by rw [e0]; unfold altD; rw [if_pos h2]
    (conv => whnf); rw [d2]
    (conv => whnf); refine VC.fa fl85_2 ?_
    (conv => whnf); refine ld1 (v := .int .i64 f1.meet) ct3 (fr_cell st1 (k := 2) rfl) trivial ?_
    (conv => whnf); refine VC.fa fl85_1 ?_
    (conv => whnf); refine st1F (k := 1) (f' := { f1 with alt := f1.meet }) st1 ct3 (by decide) rfl rfl fun G5 sg5 ja => ?_
    (conv => whnf); refine VC.fa fl85_2 ?_
    (conv => whnf); refine st1F (k := 2) (f' := { f1 with alt := f1.meet, meet := -1 }) sg5 ct3 (by decide) rfl rfl fun G6 sg6 ja => ?_
    (conv => whnf)
    rw [e]
    exact ⟨_, _, sg6⟩
  · have d2 : decide (f1.alt < 0) = false := decide_eq_false h2
    have e : closeD ds f = (ds1 ++ [binN 3 f1.alt f1.meet], { f1 with alt := (ds1.length : Int), meet := -1 }) := by rw [e0]; unfold altD; rw [if_neg h2]
    (conv => whnf); rw [d2]
    (conv => whnf); refine VDraw.heldZ (fun k => k = fb) [13] (sq [0,1,2,3,4,5,6,7,8,9] (.f 10 (sq [11,12] (.f 13 .e)))) rfl (by kernel_rfl) ?_
    (conv => whnf); refine VC.fa fl85_1 ?_
    (conv => whnf); refine ld1 (v := .int .i64 f1.alt) ct3 (fr_cell st1 (k := 1) rfl) rfl ?_
    (conv => whnf); refine VC.fa fl85_2 ?_
    (conv => whnf); refine ld1 (v := .int .i64 f1.meet) ct3 (fr_cell st1 (k := 2) rfl) rfl ?_
    (conv => whnf); refine VCall.mk (add_c (op := 3) st1 (by unfold NumOk; omega) hn1.alt hn1.meet (by omega)) ?_
    rintro _ G1 ⟨rfl, af, na1, nc1, sg1⟩
    refine ⟨af, ?_⟩
    (conv => whnf); refine VC.fa fl85_1 ?_
    (conv => whnf); refine st1F (k := 1) (f' := { f1 with alt := (ds1.length : Int) }) sg1 ct3 (by decide) rfl rfl fun G2 sg2 ja => ?_
    (conv => whnf); refine VC.fa fl85_2 ?_
    (conv => whnf); refine st1F (k := 2) (f' := { f1 with alt := (ds1.length : Int), meet := -1 }) sg2 ct3 (by decide) rfl rfl fun G6 sg6 ja => ?_
    (conv => whnf)
    rw [e]
    exact ⟨_, _, sg6⟩
end
end Go.Proofs.YtlnmhfhdjnenoaaGreatDoor
/- Rules in memory: how they are grown; leaf, join, star, maybe: the walks. -/
set_option linter.unusedVariables false
set_option linter.unusedSimpArgs false
set_option maxRecDepth 100000
namespace Go.VC
theorem StB.rebase {B : Nat → Prop} {H0 H : Heap} {ps : List Pc} (st : StB B H0 H ps) : StB B H H ps := ⟨Agr.refl _ _, fun k hk => st.up hk, Nat.le_refl _, st.oks, st.rng, st.dis⟩
/-- What is new may belong to what stays. -/
theorem StB.widen {B : Nat → Prop} {H0 H H' : Heap} {ps : List Pc} (st : StB B H0 H ps) (ha : Agr (Old H) H H') (N : Nat → Prop) (hN : ∀ k, N k → H.size ≤ k ∧ k < H'.size) : StB (fun k => B k ∨ N k) H' H' ps := by
  have st' := st.call ha
  refine ⟨Agr.refl _ _, fun k hk => ?_, Nat.le_refl _, st'.oks, fun p hp k hk => ⟨fun hB => ?_, (st'.rng p hp k hk).2⟩, st'.dis⟩
  · rcases hk with hk | hk
    · exact st'.up hk
    · exact (hN k hk).2
  · rcases hB with hB | hB
    · exact (st.rng p hp k hk).1 hB
    · have := (st.rng p hp k hk).2; have := (hN k hB).1; omega
end Go.VC
namespace Go.Proofs.YtlnmhfhdjnenoaaGreatDoor
open Go.VC Go.Lib
inductive ROp
  | alt
  | cat
  | and_
  | minus
def opR : ROp → ReM → ReM → ReM
  | .alt => .alt
  | .cat => .cat
  | .and_ => .and_
  | .minus => .minus
def opF : ROp → FuncId
  | .alt => 53
  | .cat => 101
  | .and_ => 79
  | .minus => 80
theorem opR_nodes (op : ROp) (a b : ReM) : (opR op a b).nodes = 1 + a.nodes + b.nodes := by cases op <;> rfl
def szR (r : ReM) : Nat := min r.nodes 2001
def ruleL (r : ReM) (fn : Value) : List Value := [.int .i64 ((szR r : Nat) : Int), fn]
/-- A function value that grows a tree: its captured cells lie in B. -/
inductive GrowV (B : Nat → Prop) (H : Heap) : Value → ReM → Prop
  | leaf {b : Nat} {r : ReM} : B b → Blk H b 24 [nodeV r] → GrowV B H (.func (.func 108) #[] #[.pointer (some ⟨b, 0, none⟩)]) r
  | join {b1 b2 b3 : Nat} {va vb : Value} {ra rb : ReM} (op : ROp) : B b1 → B b2 → B b3 → Blk H b1 135 [.func (.func (opF op)) #[] #[]] → Blk H b2 77 (ruleL ra va) → Blk H b3 77 (ruleL rb vb) →
      GrowV B H va ra → GrowV B H vb rb → GrowV B H (.func (.func 82) #[] #[.pointer (some ⟨b1, 0, none⟩), .pointer (some ⟨b2, 0, none⟩), .pointer (some ⟨b3, 0, none⟩)]) (opR op ra rb)
  | star {b : Nat} {va : Value} {ra : ReM} : B b → Blk H b 77 (ruleL ra va) → GrowV B H va ra → GrowV B H (.func (.func 124) #[] #[.pointer (some ⟨b, 0, none⟩)]) (.star ra)
theorem GrowV.frame {B B' : Nat → Prop} {H H' : Heap} {v : Value} {r : ReM} (h : GrowV B H v r) (k : Agr B H H') (s : ∀ k, B k → B' k) : GrowV B' H' v r := by
  induction h with
  | leaf h1 h2 => exact .leaf (s _ h1) (h2.agr k h1)
  | join op h1 h2 h3 h4 h5 h6 _ _ ih1 ih2 => exact .join op (s _ h1) (s _ h2) (s _ h3) (h4.agr k h1) (h5.agr k h2) (h6.agr k h3) ih1 ih2
  | star h1 h2 _ ih => exact .star (s _ h1) (h2.agr k h1) ih
theorem agr_lt_of {B : Nat → Prop} {H H' : Heap} (ha : Agr B H H') (hB : ∀ k, B k → k < H.size) {k : Nat} (hk : B k) : k < H'.size := by
  have h := ha k hk
  rw [Array.getElem?_eq_getElem (hB k hk)] at h
  exact (Array.getElem?_eq_some_iff.1 h).1
theorem op_p (op : ROp) (a b : ReM) (H : Heap) : Pure Tryz.prog (opF op) #[nodeV a, nodeV b] H (nodeV (opR op a b)) := by
  obtain ⟨T1, v1, e1⟩ := nodeV_if a
  obtain ⟨T2, v2, e2⟩ := nodeV_if b
  cases op with
  | alt =>
    show Pure Tryz.prog 53 #[nodeV a, nodeV b] H (.iface 163 (.agg #[nodeV a, nodeV b]))
    rw [e1, e2]
    refine FnOk.of_vc Tryz.func53 rfl (Tryz.call53 _) ?_
    (conv => whnf); refine vbuildS Tryz.underlying163 rfl _ rfl [.iface T1 v1, .iface T2 v2] rfl ?_
    (conv => whnf)
    exact ⟨rfl, Agr.refl _ _⟩
  | cat =>
    show Pure Tryz.prog 101 #[nodeV a, nodeV b] H (.iface 132 (.agg #[nodeV a, nodeV b]))
    rw [e1, e2]
    refine FnOk.of_vc Tryz.func101 rfl (Tryz.call101 _) ?_
    (conv => whnf); refine vbuildS Tryz.underlying132 rfl _ rfl [.iface T1 v1, .iface T2 v2] rfl ?_
    (conv => whnf)
    exact ⟨rfl, Agr.refl _ _⟩
  | and_ =>
    show Pure Tryz.prog 79 #[nodeV a, nodeV b] H (.iface 166 (.agg #[nodeV a, nodeV b]))
    rw [e1, e2]
    refine FnOk.of_vc Tryz.func79 rfl (Tryz.call79 _) ?_
    (conv => whnf); refine vbuildS Tryz.underlying166 rfl _ rfl [.iface T1 v1, .iface T2 v2] rfl ?_
    (conv => whnf)
    exact ⟨rfl, Agr.refl _ _⟩
  | minus =>
    show Pure Tryz.prog 80 #[nodeV a, nodeV b] H (.iface 167 (.agg #[nodeV a, nodeV b]))
    rw [e1, e2]
    refine FnOk.of_vc Tryz.func80 rfl (Tryz.call80 _) ?_
    (conv => whnf); refine vbuildS Tryz.underlying167 rfl _ rfl [.iface T1 v1, .iface T2 v2] rfl ?_
    (conv => whnf)
    exact ⟨rfl, Agr.refl _ _⟩
theorem cap_arr (cap : Array Value) : (((#[] : Array Value).toList ++ ([] : List Value)) ++ cap.toList).toArray = cap := by simp
/-- What grows a rule. -/
theorem grow_p {B : Nat → Prop} {H : Heap} {v : Value} {r : ReM} (h : GrowV B H v r) (hB : ∀ k, B k → k < H.size) : ∃ g cap, v = .func (.func g) #[] cap ∧ ∀ H', Agr B H H' → Pure Tryz.prog g cap H' (nodeV r) := by
  induction h with
  | @leaf b r h1 h2 =>
    refine ⟨_, _, rfl, fun H' ha => ?_⟩
    have hb := h2.agr ha h1
    refine FnOk.of_vc Tryz.func108 rfl (Tryz.call108 _) ?_
    (conv => whnf); refine ld1 (v := nodeV r) ct24 (by rw [hb.cell]; rfl) trivial ?_
    (conv => whnf)
    exact ⟨rfl, Agr.refl _ _⟩
  | @join b1 b2 b3 va vb ra rb op h1 h2 h3 h4 h5 h6 _ _ ih1 ih2 =>
    refine ⟨_, _, rfl, fun H' ha => ?_⟩
    have k4 := h4.agr ha h1
    have k5 := h5.agr ha h2
    have k6 := h6.agr ha h3
    obtain ⟨g1, c1, rfl, p1⟩ := ih1
    obtain ⟨g2, c2, rfl, p2⟩ := ih2
    refine FnOk.of_vc Tryz.func82 rfl (Tryz.call82 _) ?_
    (conv => whnf); refine VDraw.held (Old H') 9 (sq [0,1,2,4,5] (.f 3 (.f 6 (.f 7 (.f 8 .e))))) rfl (by kernel_rfl) ?_
    (conv => whnf); refine ld1 (v := .func (.func (opF op)) #[] #[]) ct135 (by rw [k4.cell]; rfl) k4.lt ?_
    (conv => whnf); refine VC.fa fl77_1 ?_
    (conv => whnf); refine ld1 (v := .func (.func g1) #[] c1) ct75 (by rw [k5.cell]; rfl) k5.lt ?_
    (conv => whnf); refine VC.fa fl77_1 ?_
    (conv => whnf); refine ld1 (v := .func (.func g2) #[] c2) ct75 (by rw [k6.cell]; rfl) k6.lt ?_
    (conv => whnf); rw [cap_arr]; refine pures (p1 H' ha) fun G1 ga1 => ?_
    refine ⟨ga1, ?_⟩
    have ha2 : Agr B H G1 := ha.trans (ga1.mono fun k hk => agr_lt_of ha hB hk)
    (conv => whnf); rw [cap_arr]; refine pures (p2 G1 ha2) fun G2 ga2 => ?_
    have ga3 := ga1.trans (ga2.mono fun k hk => old_lt ga1 hk)
    refine ⟨ga3, ?_⟩
    (conv => whnf); refine pures (op_p op ra rb G2) fun G3 ga4 => ?_
    have ga5 := ga3.trans (ga4.mono fun k hk => old_lt ga3 hk)
    refine ⟨ga5, ?_⟩
    (conv => whnf)
    refine ⟨ga5, ?_⟩
    exact ⟨rfl, ga5⟩
  | @star b va ra h1 h2 _ ih =>
    refine ⟨_, _, rfl, fun H' ha => ?_⟩
    have k2 := h2.agr ha h1
    obtain ⟨g1, c1, rfl, p1⟩ := ih
    refine FnOk.of_vc Tryz.func124 rfl (Tryz.call124 _) ?_
    (conv => whnf); refine VC.fa fl77_1 ?_
    (conv => whnf); refine ld1 (v := .func (.func g1) #[] c1) ct75 (by rw [k2.cell]; rfl) trivial ?_
    (conv => whnf); rw [cap_arr]; refine pures (p1 H' ha) fun G1 ga1 => ?_
    obtain ⟨T1, v1, e1⟩ := nodeV_if ra
    show _
    rw [show nodeV (.star ra) = .iface 165 (.agg #[nodeV ra]) from rfl]
    rw [e1]
    (conv => whnf); refine vbuildS Tryz.underlying165 rfl _ rfl [.iface T1 v1] rfl ?_
    (conv => whnf)
    exact ⟨rfl, ga1⟩
end Go.Proofs.YtlnmhfhdjnenoaaGreatDoor
/- leaf, join, star, maybe, times: the walks. -/
set_option linter.unusedVariables false
set_option linter.unusedSimpArgs false
set_option maxRecDepth 100000
namespace Go.Proofs.YtlnmhfhdjnenoaaGreatDoor
open Go.VC Go.Lib
/-- A rule that was made: its cells belong to what stays. -/
structure RuleR (B : Nat → Prop) (H : Heap) (ps : List Pc) (r : ReM) (v : Value) (H' : Heap) : Prop where
  ex : ∃ (B' : Nat → Prop) (fn : Value), v = .agg (ruleL r fn).toArray ∧ (∀ k, B k → B' k) ∧ Agr (Old H) H H' ∧ StB B' H' H' ps ∧ GrowV B' H' fn r
theorem GrowV.fn {B : Nat → Prop} {H : Heap} {v : Value} {r : ReM} (h : GrowV B H v r) : ∃ g c, v = .func (.func g) #[] c := by
  cases h <;> exact ⟨_, _, rfl⟩
theorem spl2 {l : List Value} {r : ReM} {v : Value} (h : l.length = 2) : splice l 0 (ruleL r v) = ruleL r v := splAll (by rw [h]; rfl)
theorem ld_rule {H : Heap} {b : Nat} {r : ReM} {v : Value} (h : Blk H b 77 (ruleL r v)) : Cells H b 0 (ruleL r v) := h.cells (fun j v hv => by rw [Nat.zero_add]; exact hv)
def rule0 : List Value := [.int .i64 0, .nilFunc]
theorem rule_z : (Tryz.prog.info? 77).bind (·.zero) = some (.agg rule0.toArray) := by kernel_rfl
theorem capped_p (n : Nat) (hn : n < 1152921504606846976) (H : Heap) : Pure Tryz.prog 81 #[.int .i64 (n : Int)] H (.int .i64 ((min n 2001 : Nat) : Int)) := by
  refine FnOk.of_vc Tryz.func81 rfl (Tryz.call81 _) ?_
  (conv => whnf); refine vmin_ ?_
  (conv => whnf)
  refine ⟨?_, Agr.refl _ _⟩
  congr 1
  split <;> omega
theorem szR_le (r : ReM) : szR r ≤ 2001 := Nat.min_le_right _ _
set_option maxHeartbeats 2000000 in
theorem leaf_c {B : Nat → Prop} {H0 H : Heap} {ps : List Pc} {r : ReM} (st : StB B H0 H ps) (hr : r.nodes = 1) : FnOk Tryz.prog 98 #[nodeV r] H (RuleR B H ps r) := by
  refine FnOk.of_vc Tryz.func98 rfl (Tryz.call98 _) ?_
  obtain ⟨T1, v1, e1⟩ := nodeV_if r
  rw [e1]
  (conv => whnf); refine vbox [.iface T1 v1] rfl ?_
  intro b1 H1 hq1 hs1 hb1 ha1
  (conv => whnf); refine valloc (.agg rule0.toArray) rule0 rule_z rfl ?_
  intro q H2 hq2 hs2 hb2 ha2
  (conv => whnf); refine vbuildS Tryz.underlying77 rfl _ rfl (ruleL r (.func (.func 108) #[] #[.pointer (some ⟨b1, 0, none⟩)])) (by unfold ruleL szR; rw [hr]; rfl) ?_
  (conv => whnf); refine VC.stN (cs := ruleL r (.func (.func 108) #[] #[.pointer (some ⟨b1, 0, none⟩)])) rfl hb2 (by simp [ruleL, rule0]) rfl ?_
  intro H3 hb3 ha3 hs3
  rw [spl2 rfl] at hb3
  (conv => whnf); refine ldN (cs := ruleL r (.func (.func 108) #[] #[.pointer (some ⟨b1, 0, none⟩)])) ag77 (ld_rule hb3) trivial ?_
  have ag2 : Agr (Old H) H H2 := (ha1.mono fun k hk => by have : k < H.size := hk; omega).trans (ha2.mono fun k hk => by have : k < H.size := hk; omega)
  have ag3 : Agr (Old H) H H3 := ag2.trans (ha3.mono fun k hk => by have : k < H.size := hk; omega)
  have k1 : Blk H3 b1 24 [nodeV r] := by
    rw [e1]
    exact (hb1.agr ha2 (show b1 < q by omega)).agr ha3 (show b1 ≠ q by omega)
  exact ⟨_, _, rfl, fun k hk => .inl hk, ag3, st.widen ag3 (fun k => k = b1) (fun k hk => by omega), .leaf (.inr rfl) k1⟩
set_option maxHeartbeats 2000000 in
theorem join_c {B : Nat → Prop} {H0 H : Heap} {ps : List Pc} {ra rb : ReM} {va vb : Value} (op : ROp) (st : StB B H0 H ps) (ga : GrowV B H va ra) (gb : GrowV B H vb rb) :
    FnOk Tryz.prog 52 #[.agg (ruleL ra va).toArray, .agg (ruleL rb vb).toArray, .func (.func (opF op)) #[] #[]] H (RuleR B H ps (opR op ra rb)) := by
  obtain ⟨g1, c1, rfl⟩ := ga.fn
  obtain ⟨g2, c2, rfl⟩ := gb.fn
  have z1 := szR_le ra
  have z2 := szR_le rb
  refine FnOk.of_vc Tryz.func52 rfl (Tryz.call52 _) ?_
  (conv => whnf); refine vbox (ruleL ra (.func (.func g1) #[] c1)) rfl ?_
  intro b2 H1 hq1 hs1 hb1 ha1
  (conv => whnf); refine vbox (ruleL rb (.func (.func g2) #[] c2)) rfl ?_
  intro b3 H2 hq2 hs2 hb2 ha2
  (conv => whnf); refine vbox [.func (.func (opF op)) #[] #[]] rfl ?_
  intro b1 H3 hq3 hs3 hb3 ha3
  (conv => whnf); refine valloc (.agg rule0.toArray) rule0 rule_z rfl ?_
  intro q H4 hq4 hs4 hb4 ha4
  have k2 : Blk H4 b2 77 (ruleL ra (.func (.func g1) #[] c1)) := ((hb1.agr ha2 (show b2 < b3 by omega)).agr ha3 (show b2 < b1 by omega)).agr ha4 (show b2 < q by omega)
  have k3 : Blk H4 b3 77 (ruleL rb (.func (.func g2) #[] c2)) := (hb2.agr ha3 (show b3 < b1 by omega)).agr ha4 (show b3 < q by omega)
  have k1 : Blk H4 b1 135 [.func (.func (opF op)) #[] #[]] := hb3.agr ha4 (show b1 < q by omega)
  (conv => whnf); refine VC.fa fl77_0 ?_
  (conv => whnf); refine ld1 (v := .int .i64 ((szR ra : Nat) : Int)) ct3 (by rw [k2.cell]; rfl) trivial ?_
  (conv => whnf); rw [w64 (x := 1 + ((szR ra : Nat) : Int)) (by omega) (by omega)]
  (conv => whnf); refine VC.fa fl77_0 ?_
  (conv => whnf); refine ld1 (v := .int .i64 ((szR rb : Nat) : Int)) ct3 (by rw [k3.cell]; rfl) trivial ?_
  (conv => whnf); rw [w64 (x := 1 + ((szR ra : Nat) : Int) + ((szR rb : Nat) : Int)) (by omega) (by omega)]
  rw [show 1 + ((szR ra : Nat) : Int) + ((szR rb : Nat) : Int) = ((1 + szR ra + szR rb : Nat) : Int) by omega]
  (conv => whnf); refine pures (capped_p (1 + szR ra + szR rb) (by omega) H4) fun H5 ha5 => ?_
  have hsz : min (1 + szR ra + szR rb) 2001 = szR (opR op ra rb) := by unfold szR; rw [opR_nodes]; omega
  rw [hsz]
  have fnv := ruleL (opR op ra rb) (.func (.func 82) #[] #[.pointer (some ⟨b1, 0, none⟩), .pointer (some ⟨b2, 0, none⟩), .pointer (some ⟨b3, 0, none⟩)])
  (conv => whnf); refine vbuildS Tryz.underlying77 rfl _ rfl (ruleL (opR op ra rb) (.func (.func 82) #[] #[.pointer (some ⟨b1, 0, none⟩), .pointer (some ⟨b2, 0, none⟩), .pointer (some ⟨b3, 0, none⟩)])) rfl ?_
  (conv => whnf); refine VC.stN (cs := ruleL (opR op ra rb) (.func (.func 82) #[] #[.pointer (some ⟨b1, 0, none⟩), .pointer (some ⟨b2, 0, none⟩), .pointer (some ⟨b3, 0, none⟩)])) rfl (hb4.agr ha5 hb4.lt) (by simp [ruleL, rule0]) rfl ?_
  intro H6 hb6 ha6 hs6
  rw [spl2 rfl] at hb6
  (conv => whnf); refine ldN (cs := ruleL (opR op ra rb) (.func (.func 82) #[] #[.pointer (some ⟨b1, 0, none⟩), .pointer (some ⟨b2, 0, none⟩), .pointer (some ⟨b3, 0, none⟩)])) ag77 (ld_rule hb6) trivial ?_
  have ag4 : Agr (Old H) H H4 := (((ha1.mono fun k hk => by have : k < H.size := hk; omega).trans (ha2.mono fun k hk => by have : k < H.size := hk; omega)).trans (ha3.mono fun k hk => by have : k < H.size := hk; omega)).trans (ha4.mono fun k hk => by have : k < H.size := hk; omega)
  have ag6 : Agr (Old H) H H6 := (ag4.trans (ha5.mono fun k hk => old_lt ag4 hk)).trans (ha6.mono fun k hk => by have : k < H.size := hk; omega)
  have l5 := old_size ha5
  have m : ∀ {b : Nat} {e : TypeId} {l : List Value}, Blk H4 b e l → b ≠ q → Blk H6 b e l := fun h hne => (h.agr ha5 h.lt).agr ha6 hne
  have agB : Agr B H H6 := ag6.mono fun k hk => st.up hk
  exact ⟨_, _, rfl, fun k hk => .inl hk, ag6, st.widen ag6 (fun k => k = b1 ∨ k = b2 ∨ k = b3) (fun k hk => by rcases hk with rfl | rfl | rfl <;> omega),
    .join op (.inr (.inl rfl)) (.inr (.inr (.inl rfl))) (.inr (.inr (.inr rfl))) (m k1 (by omega)) (m k2 (by omega)) (m k3 (by omega)) (ga.frame agB fun k hk => .inl hk) (gb.frame agB fun k hk => .inl hk)⟩
set_option maxHeartbeats 2000000 in
theorem star_c {B : Nat → Prop} {H0 H : Heap} {ps : List Pc} {ra : ReM} {va : Value} (st : StB B H0 H ps) (ga : GrowV B H va ra) :
    FnOk Tryz.prog 109 #[.agg (ruleL ra va).toArray] H (RuleR B H ps (.star ra)) := by
  obtain ⟨g1, c1, rfl⟩ := ga.fn
  have z1 := szR_le ra
  refine FnOk.of_vc Tryz.func109 rfl (Tryz.call109 _) ?_
  (conv => whnf); refine vbox (ruleL ra (.func (.func g1) #[] c1)) rfl ?_
  intro b2 H1 hq1 hs1 hb1 ha1
  (conv => whnf); refine valloc (.agg rule0.toArray) rule0 rule_z rfl ?_
  intro q H4 hq4 hs4 hb4 ha4
  have k2 : Blk H4 b2 77 (ruleL ra (.func (.func g1) #[] c1)) := hb1.agr ha4 (show b2 < q by omega)
  (conv => whnf); refine VC.fa fl77_0 ?_
  (conv => whnf); refine ld1 (v := .int .i64 ((szR ra : Nat) : Int)) ct3 (by rw [k2.cell]; rfl) trivial ?_
  (conv => whnf); rw [w64 (x := 1 + ((szR ra : Nat) : Int)) (by omega) (by omega)]
  rw [show 1 + ((szR ra : Nat) : Int) = ((1 + szR ra : Nat) : Int) by omega]
  (conv => whnf); refine pures (capped_p (1 + szR ra) (by omega) H4) fun H5 ha5 => ?_
  have hsz : min (1 + szR ra) 2001 = szR (.star ra) := by unfold szR; show _ = min (1 + ra.nodes) 2001; omega
  rw [hsz]
  (conv => whnf); refine vbuildS Tryz.underlying77 rfl _ rfl (ruleL (.star ra) (.func (.func 124) #[] #[.pointer (some ⟨b2, 0, none⟩)])) rfl ?_
  (conv => whnf); refine VC.stN (cs := ruleL (.star ra) (.func (.func 124) #[] #[.pointer (some ⟨b2, 0, none⟩)])) rfl (hb4.agr ha5 hb4.lt) (by simp [ruleL, rule0]) rfl ?_
  intro H6 hb6 ha6 hs6
  rw [spl2 rfl] at hb6
  (conv => whnf); refine ldN (cs := ruleL (.star ra) (.func (.func 124) #[] #[.pointer (some ⟨b2, 0, none⟩)])) ag77 (ld_rule hb6) trivial ?_
  have ag4 : Agr (Old H) H H4 := (ha1.mono fun k hk => by have : k < H.size := hk; omega).trans (ha4.mono fun k hk => by have : k < H.size := hk; omega)
  have ag6 : Agr (Old H) H H6 := (ag4.trans (ha5.mono fun k hk => old_lt ag4 hk)).trans (ha6.mono fun k hk => by have : k < H.size := hk; omega)
  have l5 := old_size ha5
  have agB : Agr B H H6 := ag6.mono fun k hk => st.up hk
  exact ⟨_, _, rfl, fun k hk => .inl hk, ag6, st.widen ag6 (fun k => k = b2) (fun k hk => by omega), .star (.inr rfl) ((k2.agr ha5 k2.lt).agr ha6 (show b2 ≠ q by omega)) (ga.frame agB fun k hk => .inl hk)⟩
set_option maxHeartbeats 2000000 in
theorem maybe_c {B : Nat → Prop} {H0 H : Heap} {ps : List Pc} {ra : ReM} {va : Value} (st : StB B H0 H ps) (ga : GrowV B H va ra) :
    FnOk Tryz.prog 110 #[.agg (ruleL ra va).toArray] H (RuleR B H ps (maybeR ra)) := by
  obtain ⟨g1, c1, rfl⟩ := ga.fn
  refine FnOk.of_vc Tryz.func110 rfl (Tryz.call110 _) ?_
  (conv => whnf); refine vbox (ruleL ra (.func (.func g1) #[] c1)) rfl ?_
  intro b2 H1 hq1 hs1 hb1 ha1
  (conv => whnf); refine valloc (.agg rule0.toArray) rule0 rule_z rfl ?_
  intro q H4 hq4 hs4 hb4 ha4
  have k2 : Blk H4 b2 77 (ruleL ra (.func (.func g1) #[] c1)) := hb1.agr ha4 (show b2 < q by omega)
  have ag4 : Agr (Old H) H H4 := (ha1.mono fun k hk => by have : k < H.size := hk; omega).trans (ha4.mono fun k hk => by have : k < H.size := hk; omega)
  have st4 := (st.skip hq1 ha1).box hq4 hs4 hb4 ha4
  (conv => whnf); refine VDraw.heldZ (Old H4) [5] (sq [0,1,2] (.f 3 (.f 4 (.f 5 .e)))) rfl (by kernel_rfl) ?_
  (conv => whnf); refine ldN (cs := ruleL ra (.func (.func g1) #[] c1)) ag77 (ld_rule k2) k2.lt ?_
  (conv => whnf); refine vbuildS Tryz.underlying127 rfl _ rfl [] rfl ?_
  (conv => whnf); refine VCall.mk (leaf_c (r := .eps) st4 rfl) ?_
  rintro _ H5 ⟨B1, f1, rfl, s1, a1, st5, ge⟩
  refine ⟨a1, ?_⟩
  have agB5 : Agr B H H5 := (ag4.trans (a1.mono fun k hk => old_lt ag4 hk)).mono fun k hk => st.up hk
  (conv => whnf); refine VCall.mk (join_c .alt st5 (ga.frame agB5 s1) ge) ?_
  rintro _ H6 ⟨B2, f2, rfl, s2, a2, st6, gj⟩
  have a12 := a1.trans (a2.mono fun k hk => old_lt a1 hk)
  refine ⟨a12, ?_⟩
  obtain ⟨g2, c2, rfl⟩ := gj.fn
  (conv => whnf); refine stNBa (cs := ruleL (maybeR ra) (.func (.func g2) #[] c2)) st6 _ rfl (lgR0 _ _) (by simp [ruleL, rule0]) rfl fun H7 st7 ha7 hs7 => ?_
  rw [lsR0, spl2 rfl] at st7
  have hb7 : Blk H7 q 77 (ruleL (maybeR ra) (.func (.func g2) #[] c2)) := st7.blk _ (lgR0 _ _)
  (conv => whnf); refine ldN (cs := ruleL (maybeR ra) (.func (.func g2) #[] c2)) ag77 (ld_rule hb7) trivial ?_
  have ag6 : Agr (Old H) H H6 := ag4.trans (a12.mono fun k hk => old_lt ag4 hk)
  exact ⟨B2, _, rfl, fun k hk => s2 k (s1 k hk), ag6.trans (ha7.mono fun k hk => by have : k < H.size := hk; omega), st7.lft.rebase, gj.frame st7.old fun k hk => hk⟩
end Go.Proofs.YtlnmhfhdjnenoaaGreatDoor
/- times: the walk. -/
set_option linter.unusedVariables false
set_option linter.unusedSimpArgs false
set_option maxRecDepth 100000
namespace Go.Proofs.YtlnmhfhdjnenoaaGreatDoor
open Go.VC Go.Lib
theorem repO_one (a : ReM) (m : Nat) : repO a m 1 = some (if 0 < m then a else maybeR a) := rfl
theorem repO_some (a : ReM) (m k : Nat) (h : 1 ≤ k) : ∃ r, repO a m k = some r := by
  obtain ⟨j, rfl⟩ : ∃ j, k = j + 1 := ⟨k - 1, by omega⟩
  exact ⟨_, rfl⟩
theorem repO_next (a : ReM) (m k : Nat) (h : 1 ≤ k) : (repO a m (k + 1)).getD .eps = .cat ((repO a m k).getD .eps) (if k < m then a else maybeR a) := by
  obtain ⟨r, hr⟩ := repO_some a m k h
  show (some (catO (repO a m k) (if k < m then a else maybeR a))).getD .eps = _
  rw [hr]; rfl
/-- The pieces while a repeat is made. -/
def timP (ps : List Pc) (b3 q6 q7 : Nat) (a out : ReM) (va fn : Value) : List Pc := ps ++ [pB 77 b3 (ruleL a va), pB 77 q6 rule0, pB 77 q7 (ruleL out fn)]
structure TimI (B : Nat → Prop) (H : Heap) (ps : List Pc) (b3 q6 q7 : Nat) (a out : ReM) (va : Value) (G : Heap) : Prop where
  ex : ∃ (B' : Nat → Prop) (fn : Value), (∀ k, B k → B' k) ∧ Agr (Old H) H G ∧ StB B' G G (timP ps b3 q6 q7 a out va fn) ∧ GrowV B' G va a ∧ GrowV B' G fn out
set_option maxHeartbeats 8000000 in
theorem times_c {B : Nat → Prop} {H0 H : Heap} {ps : List Pc} {a : ReM} {va : Value} {m : Nat} {n : Int} (st : StB B H0 H ps) (ga : GrowV B H va a) (hm : m ≤ 255) (hn1 : -1 ≤ n) (hn2 : n ≤ 255) (hmn : 0 ≤ n → (m : Int) ≤ n) :
    FnOk Tryz.prog 126 #[.agg (ruleL a va).toArray, .int .i64 (m : Int), .int .i64 n] H (RuleR B H ps (repR a m n)) := by
  obtain ⟨g1, c1, rfl⟩ := ga.fn
  refine FnOk.of_vc Tryz.func126 rfl (Tryz.call126 _) ?_
  (conv => whnf); refine vbox (ruleL a (.func (.func g1) #[] c1)) rfl ?_
  intro b3 H1 hq1 hs1 hb1 ha1
  have st1 := st.box hq1 hs1 hb1 ha1
  (conv => whnf); refine valloc (.agg rule0.toArray) rule0 rule_z rfl ?_
  intro q6 H2 hq2 hs2 hb2 ha2
  have st2 := st1.box hq2 hs2 hb2 ha2
  have ag2 : Agr (Old H) H H2 := (ha1.mono fun k hk => by have : k < H.size := hk; omega).trans (ha2.mono fun k hk => by have : k < H.size := hk; omega)
  have agB2 : Agr B H H2 := ag2.mono fun k hk => st.up hk
  rw [List.append_assoc] at st2
  have ga2 := ga.frame agB2 fun k hk => hk
  have bb3 : Blk H2 b3 77 (ruleL a (.func (.func g1) #[] c1)) := st2.blk _ (lgR0 _ _)
  by_cases h1 : m = 0 ∧ n < 0
  · have d1 : ((m : Int) == 0) = true := by rw [h1.1]; rfl
    have d2 : decide (n < 0) = true := decide_eq_true h1.2
    (conv => whnf); rw [d1]
    (conv => whnf); rw [d2]
    (conv => whnf); refine ldN (cs := ruleL a (.func (.func g1) #[] c1)) ag77 (ld_rule bb3) trivial ?_
    (conv => whnf); refine VCall.mk (star_c st2 ga2) ?_
    rintro _ H3 ⟨B1, f1, rfl, s1, a1, st3, gs⟩
    obtain ⟨g2, c2, rfl⟩ := gs.fn
    (conv => whnf); refine stNBa (cs := ruleL (.star a) (.func (.func g2) #[] c2)) st3 _ rfl (lgR ps _ 1) (by simp [ruleL, rule0]) rfl fun H4 st4 ha4 hs4 => ?_
    rw [lsR, spl2 rfl] at st4
    have hb4 : Blk H4 q6 77 (ruleL (.star a) (.func (.func g2) #[] c2)) := st4.blk _ (lgR ps _ 1)
    (conv => whnf); refine ldN (cs := ruleL (.star a) (.func (.func g2) #[] c2)) ag77 (ld_rule hb4) trivial ?_
    have e : repR a m n = .star a := by unfold repR; rw [if_pos h1.2, if_pos h1.1]
    rw [e]
    exact ⟨B1, _, rfl, s1, (ag2.trans (a1.mono fun k hk => old_lt ag2 hk)).trans (ha4.mono fun k hk => by have : k < H.size := hk; omega), st4.lft.rebase, gs.frame st4.old fun k hk => hk⟩
  by_cases h2 : m = 0 ∧ n = 0
  · have d1 : ((m : Int) == 0) = true := by rw [h2.1]; rfl
    have d2 : decide (n < 0) = false := decide_eq_false (by omega)
    have d3 : (n == 0) = true := by rw [h2.2]; rfl
    (conv => whnf); rw [d1]
    (conv => whnf); rw [d2]
    (conv => whnf); rw [d1]
    (conv => whnf); rw [d3]
    (conv => whnf); refine vbuildS Tryz.underlying127 rfl _ rfl [] rfl ?_
    (conv => whnf); refine VCall.mk (leaf_c (r := .eps) st2 rfl) ?_
    rintro _ H3 ⟨B1, f1, rfl, s1, a1, st3, gs⟩
    obtain ⟨g2, c2, rfl⟩ := gs.fn
    (conv => whnf); refine stNBa (cs := ruleL .eps (.func (.func g2) #[] c2)) st3 _ rfl (lgR ps _ 1) (by simp [ruleL, rule0]) rfl fun H4 st4 ha4 hs4 => ?_
    rw [lsR, spl2 rfl] at st4
    have hb4 : Blk H4 q6 77 (ruleL .eps (.func (.func g2) #[] c2)) := st4.blk _ (lgR ps _ 1)
    (conv => whnf); refine ldN (cs := ruleL .eps (.func (.func g2) #[] c2)) ag77 (ld_rule hb4) trivial ?_
    have e : repR a m n = .eps := by unfold repR; rw [if_neg (by omega), if_pos h2.2]
    rw [e]
    exact ⟨B1, _, rfl, s1, (ag2.trans (a1.mono fun k hk => old_lt ag2 hk)).trans (ha4.mono fun k hk => by have : k < H.size := hk; omega), st4.lft.rebase, gs.frame st4.old fun k hk => hk⟩
  -- the first one
  by_cases hm0 : m = 0
  · have d1 : ((m : Int) == 0) = true := by rw [hm0]; rfl
    have d2 : decide (n < 0) = false := decide_eq_false (by omega)
    have d3 : (n == 0) = false := beq_eq_false_iff_ne.2 (by omega)
    (conv => whnf); rw [d1]
    (conv => whnf); rw [d2]
    (conv => whnf); rw [d1]
    (conv => whnf); rw [d3]
    (conv => whnf); refine ldN (cs := ruleL a (.func (.func g1) #[] c1)) ag77 (ld_rule bb3) trivial ?_
    (conv => whnf); refine valloc (.agg rule0.toArray) rule0 rule_z rfl ?_
    intro q7 H3 hq3 hs3 hb3 ha3
    have st3 := st2.box hq3 hs3 hb3 ha3
    rw [List.append_assoc] at st3
    (conv => whnf); refine stNBa (cs := ruleL a (.func (.func g1) #[] c1)) st3 _ rfl (lgR ps _ 2) (by simp [ruleL, rule0]) rfl fun H4 st4 ha4 hs4 => ?_
    rw [lsR] at st4
    replace st4 : StB B H0 H4 (timP ps b3 q6 q7 a a (.func (.func g1) #[] c1) (.func (.func g1) #[] c1)) := by
      have e : splice rule0 0 (ruleL a (.func (.func g1) #[] c1)) = ruleL a (.func (.func g1) #[] c1) := spl2 rfl
      have := st4
      rw [e] at this
      exact this
    have ag4 : Agr (Old H) H H4 := (ag2.trans (ha3.mono fun k hk => by have := old_lt ag2 hk; omega)).trans (ha4.mono fun k hk => by have : k < H.size := hk; omega)
    have agB4 : Agr B H H4 := ag4.mono fun k hk => st.up hk
    have n3 : H.size ≤ q7 := by have := old_size ag2; omega
    have n6 : H.size ≤ q6 := by have := old_size (show Agr (Old H) H H1 from ha1.mono fun k hk => by have : k < H.size := hk; omega); omega
    (conv => whnf)
    refine VSeq.cut [] (fun _ : Unit => []) (fun _ G => TimI B H ps b3 q6 q7 a ((repO a m 1).getD .eps) (.func (.func g1) #[] c1) G) ?_ ?_
    · (conv => whnf); rw [d1]
      (conv => whnf); refine ldN (cs := ruleL a (.func (.func g1) #[] c1)) ag77 (ld_rule (st4.blk _ (lgR0 _ _))) trivial ?_
      (conv => whnf); refine VCall.mk (maybe_c st4 (ga.frame agB4 fun k hk => hk)) ?_
      rintro _ H5 ⟨B1, f1, rfl, s1, a1, st5, gs⟩
      obtain ⟨g2, c2, rfl⟩ := gs.fn
      (conv => whnf); refine stNBa (cs := ruleL (maybeR a) (.func (.func g2) #[] c2)) st5 _ rfl (lgR ps _ 2) (by simp [ruleL]) rfl fun H6 st6 ha6 hs6 => ?_
      unfold timP at st6
      rw [lsR] at st6
      have e6 : splice (ruleL a (.func (.func g1) #[] c1)) 0 (ruleL (maybeR a) (.func (.func g2) #[] c2)) = ruleL (maybeR a) (.func (.func g2) #[] c2) := spl2 rfl
      rw [e6] at st6
      (conv => whnf)
      have ag6 : Agr (Old H) H H6 := (ag4.trans (a1.mono fun k hk => old_lt ag4 hk)).trans (ha6.mono fun k hk => by have : k < H.size := hk; omega)
      refine ⟨rfl, (), rfl, ⟨B1, .func (.func g2) #[] c2, s1, ag6, ?_, ga.frame (ag6.mono fun k hk => st.up hk) s1, ?_⟩⟩
      · rw [repO_one, if_neg (by omega)]; exact st6.rebase
      · rw [repO_one, if_neg (by omega)]; exact gs.frame st6.old fun k hk => hk
    · rintro ⟨⟩ G0 junk0 tim0
      (conv => whnf)
      refine VLoop.mk [8] (fun k : Nat => [.int .i64 (k : Int)]) (fun k G => 1 ≤ k ∧ k ≤ max m 1 ∧ TimI B H ps b3 q6 q7 a ((repO a m k).getD .eps) (.func (.func g1) #[] c1) G) (fun k _ => max m 1 - k) ?_ ?_
      · (conv => whnf)
        exact ⟨1, rfl, Nat.le_refl _, by omega, tim0⟩
      · rintro k G junk1 ⟨hk1, hkm, ⟨B1, f1, s1, ag, sg, gv, gf⟩⟩
        obtain ⟨gg, cc, rfl⟩ := gf.fn
        (conv => whnf); refine VIte.mk (fun hz => ?_) (fun hz => ?_) <;> simp only [decide_eq_true_eq, decide_eq_false_iff_not] at hz
        · (conv => whnf); try (refine VSeq.run ?_)
          (conv => whnf); refine ldN (cs := ruleL ((repO a m k).getD .eps) (.func (.func gg) #[] cc)) ag77 (ld_rule (sg.blk _ (lgR ps _ 2))) trivial ?_
          (conv => whnf); refine ldN (cs := ruleL a (.func (.func g1) #[] c1)) ag77 (ld_rule (sg.blk _ (lgR0 ps _))) trivial ?_
          (conv => whnf); refine VCall.mk (join_c .cat sg gf gv) ?_
          rintro _ G1 ⟨B2, f2, rfl, s2, a2, sg2, gj⟩
          obtain ⟨g2, c2, rfl⟩ := gj.fn
          (conv => whnf); refine stNBa (cs := ruleL (opR .cat ((repO a m k).getD .eps) a) (.func (.func g2) #[] c2)) sg2 _ rfl (lgR ps _ 2) (by simp [ruleL]) rfl fun G3 sg3 ja3 js3 => ?_
          unfold timP at sg3
          rw [lsR] at sg3
          have e : splice (ruleL ((repO a m k).getD .eps) (.func (.func gg) #[] cc)) 0 (ruleL (opR .cat ((repO a m k).getD .eps) a) (.func (.func g2) #[] c2)) = ruleL (opR .cat ((repO a m k).getD .eps) a) (.func (.func g2) #[] c2) := spl2 rfl
          rw [e] at sg3
          (conv => whnf); rw [w64 (x := (k : Int) + 1) (by omega) (by omega)]
          have ag3 : Agr (Old H) H G3 := (ag.trans (a2.mono fun k hk => old_lt ag hk)).trans (ja3.mono fun k hk => by have : k < H.size := hk; omega)
          refine ⟨rfl, k + 1, rfl, ⟨by omega, by omega, ⟨B2, .func (.func g2) #[] c2, fun k hk => s2 k (s1 k hk), ag3, ?_, ga.frame (ag3.mono fun k hk => st.up hk) fun k hk => s2 k (s1 k hk), ?_⟩⟩, by omega⟩
          · rw [repO_next _ _ _ hk1, if_pos (by omega)]; exact sg3.rebase
          · rw [repO_next _ _ _ hk1, if_pos (by omega)]; exact gj.frame sg3.old fun k hk => hk
        · obtain rfl : k = max m 1 := by omega
          by_cases hn : n < 0
          · have d2 : decide (n < 0) = true := decide_eq_true hn
            have hm1 : max m 1 = m := by omega
            rw [hm1] at gf sg
            (conv => whnf); try (refine VSeq.run ?_)
            (conv => whnf); rw [d2]
            (conv => whnf); refine VDraw.heldZ (Old G) [4] (sq [0,1] (.f 2 (.f 3 (.f 4 .e)))) rfl (by kernel_rfl) ?_
            (conv => whnf); refine ldN (cs := ruleL ((repO a m m).getD .eps) (.func (.func gg) #[] cc)) ag77 (ld_rule (sg.blk _ (lgR ps _ 2))) ((sg.in_ _ (lgR ps _ 2) (k := q7) rfl).2) ?_
            (conv => whnf); refine ldN (cs := ruleL a (.func (.func g1) #[] c1)) ag77 (ld_rule (sg.blk _ (lgR0 ps _))) ((sg.in_ _ (lgR0 ps _) (k := b3) rfl).2) ?_
            (conv => whnf); refine VCall.mk (star_c sg gv) ?_
            rintro _ G1 ⟨B2, f2, rfl, s2, a2, sg2, gs⟩
            refine ⟨a2, ?_⟩
            have agB2' : Agr B1 G G1 := a2.mono fun k hk => sg.up hk
            (conv => whnf); refine VCall.mk (join_c .cat sg2 (gf.frame agB2' s2) gs) ?_
            rintro _ G2 ⟨B3, f3, rfl, s3, a3, sg3, gj⟩
            have a23 := a2.trans (a3.mono fun k hk => old_lt a2 hk)
            refine ⟨a23, ?_⟩
            obtain ⟨g2, c2, rfl⟩ := gj.fn
            (conv => whnf); refine stNBa (cs := ruleL (opR .cat ((repO a m m).getD .eps) (.star a)) (.func (.func g2) #[] c2)) sg3 _ rfl (lgR ps _ 1) (by simp [ruleL, rule0]) rfl fun G3 sg4 ja3 js3 => ?_
            unfold timP at sg4
            rw [lsR, spl2 rfl] at sg4
            have hb4 : Blk G3 q6 77 (ruleL (opR .cat ((repO a m m).getD .eps) (.star a)) (.func (.func g2) #[] c2)) := sg4.blk _ (lgR ps _ 1)
            (conv => whnf); refine ldN (cs := ruleL (opR .cat ((repO a m m).getD .eps) (.star a)) (.func (.func g2) #[] c2)) ag77 (ld_rule hb4) trivial ?_
            have e : repR a m n = opR .cat ((repO a m m).getD .eps) (.star a) := by unfold repR; rw [if_pos hn, if_neg (by omega)]; rfl
            rw [e]
            exact ⟨B3, _, rfl, fun k hk => s3 k (s2 k (s1 k hk)), (ag.trans (a23.mono fun k hk => old_lt ag hk)).trans (ja3.mono fun k hk => by have : k < H.size := hk; omega), sg4.lft.rebase, gj.frame sg4.old fun k hk => hk⟩
          · have d2 : decide (n < 0) = false := decide_eq_false hn
            obtain ⟨nn, rfl⟩ := Int.eq_ofNat_of_zero_le (show 0 ≤ n by omega)
            (conv => whnf); try (refine VSeq.run ?_)
            (conv => whnf)
            refine VLoop.mk [8] (fun k : Nat => [.int .i64 (k : Int)]) (fun k G => max m 1 ≤ k ∧ k ≤ nn ∧ TimI B H ps b3 q6 q7 a ((repO a m k).getD .eps) (.func (.func g1) #[] c1) G) (fun k _ => nn - k) ?_ ?_
            · (conv => whnf)
              exact ⟨max m 1, rfl, Nat.le_refl _, by omega, ⟨B1, .func (.func gg) #[] cc, s1, ag, sg, gv, gf⟩⟩
            · clear s1 ag sg gv gf B1
              rintro k G junk2 ⟨hk1, hkm, ⟨B1, f1, s1, ag, sg, gv, gf⟩⟩
              obtain ⟨gg, cc, rfl⟩ := gf.fn
              (conv => whnf); refine VIte.mk (fun hz => ?_) (fun hz => ?_) <;> simp only [decide_eq_true_eq, decide_eq_false_iff_not] at hz
              · (conv => whnf); try (refine VSeq.run ?_)
                (conv => whnf); refine VDraw.heldZ (Old G) [4] (sq [0,1] (.f 2 (.f 3 (.f 4 .e)))) rfl (by kernel_rfl) ?_
                (conv => whnf); refine ldN (cs := ruleL ((repO a m k).getD .eps) (.func (.func gg) #[] cc)) ag77 (ld_rule (sg.blk _ (lgR ps _ 2))) ((sg.in_ _ (lgR ps _ 2) (k := q7) rfl).2) ?_
                (conv => whnf); refine ldN (cs := ruleL a (.func (.func g1) #[] c1)) ag77 (ld_rule (sg.blk _ (lgR0 ps _))) ((sg.in_ _ (lgR0 ps _) (k := b3) rfl).2) ?_
                (conv => whnf); refine VCall.mk (maybe_c sg gv) ?_
                rintro _ G1 ⟨B2, f2, rfl, s2, a2, sg2, gs⟩
                refine ⟨a2, ?_⟩
                have agB2' : Agr B1 G G1 := a2.mono fun k hk => sg.up hk
                (conv => whnf); refine VCall.mk (join_c .cat sg2 (gf.frame agB2' s2) gs) ?_
                rintro _ G2 ⟨B3, f3, rfl, s3, a3, sg3, gj⟩
                have a23 := a2.trans (a3.mono fun k hk => old_lt a2 hk)
                refine ⟨a23, ?_⟩
                obtain ⟨g2, c2, rfl⟩ := gj.fn
                (conv => whnf); refine stNBa (cs := ruleL (opR .cat ((repO a m k).getD .eps) (maybeR a)) (.func (.func g2) #[] c2)) sg3 _ rfl (lgR ps _ 2) (by simp [ruleL]) rfl fun G3 sg4 ja3 js3 => ?_
                unfold timP at sg4
                rw [lsR] at sg4
                have e : splice (ruleL ((repO a m k).getD .eps) (.func (.func gg) #[] cc)) 0 (ruleL (opR .cat ((repO a m k).getD .eps) (maybeR a)) (.func (.func g2) #[] c2)) = ruleL (opR .cat ((repO a m k).getD .eps) (maybeR a)) (.func (.func g2) #[] c2) := spl2 rfl
                rw [e] at sg4
                (conv => whnf); rw [w64 (x := (k : Int) + 1) (by omega) (by omega)]
                have ag3 : Agr (Old H) H G3 := (ag.trans (a23.mono fun k hk => old_lt ag hk)).trans (ja3.mono fun k hk => by have : k < H.size := hk; omega)
                refine ⟨rfl, k + 1, rfl, ⟨by omega, by omega, ⟨B3, .func (.func g2) #[] c2, fun k hk => s3 k (s2 k (s1 k hk)), ag3, ?_, ga.frame (ag3.mono fun k hk => st.up hk) fun k hk => s3 k (s2 k (s1 k hk)), ?_⟩⟩, by omega⟩
                · rw [repO_next _ _ _ (by omega), if_neg (by omega)]; exact sg4.rebase
                · rw [repO_next _ _ _ (by omega), if_neg (by omega)]; exact gj.frame sg4.old fun k hk => hk
              · obtain rfl : k = nn := by omega
                (conv => whnf); refine ldN (cs := ruleL ((repO a m k).getD .eps) (.func (.func gg) #[] cc)) ag77 (ld_rule (sg.blk _ (lgR ps _ 2))) trivial ?_
                (conv => whnf); refine stNBa (cs := ruleL ((repO a m k).getD .eps) (.func (.func gg) #[] cc)) sg _ rfl (lgR ps _ 1) (by simp [ruleL, rule0]) rfl fun G3 sg4 ja3 js3 => ?_
                unfold timP at sg4
                rw [lsR, spl2 rfl] at sg4
                have hb4 : Blk G3 q6 77 (ruleL ((repO a m k).getD .eps) (.func (.func gg) #[] cc)) := sg4.blk _ (lgR ps _ 1)
                (conv => whnf); refine ldN (cs := ruleL ((repO a m k).getD .eps) (.func (.func gg) #[] cc)) ag77 (ld_rule hb4) trivial ?_
                have e : repR a m (k : Int) = (repO a m k).getD .eps := by unfold repR; rw [if_neg (by omega), if_neg (by omega), Int.toNat_natCast]
                rw [e]
                exact ⟨B1, _, rfl, s1, ag.trans (ja3.mono fun k hk => by have : k < H.size := hk; omega), sg4.lft.rebase, gf.frame sg4.old fun k hk => hk⟩
  · have d1 : ((m : Int) == 0) = false := beq_eq_false_iff_ne.2 (by omega)
    (conv => whnf); rw [d1]
    (conv => whnf); rw [d1]
    (conv => whnf); refine ldN (cs := ruleL a (.func (.func g1) #[] c1)) ag77 (ld_rule bb3) trivial ?_
    (conv => whnf); refine valloc (.agg rule0.toArray) rule0 rule_z rfl ?_
    intro q7 H3 hq3 hs3 hb3 ha3
    have st3 := st2.box hq3 hs3 hb3 ha3
    rw [List.append_assoc] at st3
    (conv => whnf); refine stNBa (cs := ruleL a (.func (.func g1) #[] c1)) st3 _ rfl (lgR ps _ 2) (by simp [ruleL, rule0]) rfl fun H4 st4 ha4 hs4 => ?_
    rw [lsR] at st4
    replace st4 : StB B H0 H4 (timP ps b3 q6 q7 a a (.func (.func g1) #[] c1) (.func (.func g1) #[] c1)) := by
      have e : splice rule0 0 (ruleL a (.func (.func g1) #[] c1)) = ruleL a (.func (.func g1) #[] c1) := spl2 rfl
      have := st4
      rw [e] at this
      exact this
    have ag4 : Agr (Old H) H H4 := (ag2.trans (ha3.mono fun k hk => by have := old_lt ag2 hk; omega)).trans (ha4.mono fun k hk => by have : k < H.size := hk; omega)
    have agB4 : Agr B H H4 := ag4.mono fun k hk => st.up hk
    have n3 : H.size ≤ q7 := by have := old_size ag2; omega
    have n6 : H.size ≤ q6 := by have := old_size (show Agr (Old H) H H1 from ha1.mono fun k hk => by have : k < H.size := hk; omega); omega
    (conv => whnf)
    refine VSeq.cut [] (fun _ : Unit => []) (fun _ G => TimI B H ps b3 q6 q7 a ((repO a m 1).getD .eps) (.func (.func g1) #[] c1) G) ?_ ?_
    · (conv => whnf); rw [d1]
      (conv => whnf)
      refine ⟨rfl, (), rfl, ⟨B, .func (.func g1) #[] c1, fun k hk => hk, ag4, ?_, ga.frame agB4 fun k hk => hk, ?_⟩⟩
      · rw [repO_one, if_pos (by omega)]; exact st4.rebase
      · rw [repO_one, if_pos (by omega)]; exact ga.frame agB4 fun k hk => hk
    · rintro ⟨⟩ G0 junk0 tim0
      (conv => whnf)
      refine VLoop.mk [8] (fun k : Nat => [.int .i64 (k : Int)]) (fun k G => 1 ≤ k ∧ k ≤ max m 1 ∧ TimI B H ps b3 q6 q7 a ((repO a m k).getD .eps) (.func (.func g1) #[] c1) G) (fun k _ => max m 1 - k) ?_ ?_
      · (conv => whnf)
        exact ⟨1, rfl, Nat.le_refl _, by omega, tim0⟩
      · rintro k G junk1 ⟨hk1, hkm, ⟨B1, f1, s1, ag, sg, gv, gf⟩⟩
        obtain ⟨gg, cc, rfl⟩ := gf.fn
        (conv => whnf); refine VIte.mk (fun hz => ?_) (fun hz => ?_) <;> simp only [decide_eq_true_eq, decide_eq_false_iff_not] at hz
        · (conv => whnf); try (refine VSeq.run ?_)
          (conv => whnf); refine ldN (cs := ruleL ((repO a m k).getD .eps) (.func (.func gg) #[] cc)) ag77 (ld_rule (sg.blk _ (lgR ps _ 2))) trivial ?_
          (conv => whnf); refine ldN (cs := ruleL a (.func (.func g1) #[] c1)) ag77 (ld_rule (sg.blk _ (lgR0 ps _))) trivial ?_
          (conv => whnf); refine VCall.mk (join_c .cat sg gf gv) ?_
          rintro _ G1 ⟨B2, f2, rfl, s2, a2, sg2, gj⟩
          obtain ⟨g2, c2, rfl⟩ := gj.fn
          (conv => whnf); refine stNBa (cs := ruleL (opR .cat ((repO a m k).getD .eps) a) (.func (.func g2) #[] c2)) sg2 _ rfl (lgR ps _ 2) (by simp [ruleL]) rfl fun G3 sg3 ja3 js3 => ?_
          unfold timP at sg3
          rw [lsR] at sg3
          have e : splice (ruleL ((repO a m k).getD .eps) (.func (.func gg) #[] cc)) 0 (ruleL (opR .cat ((repO a m k).getD .eps) a) (.func (.func g2) #[] c2)) = ruleL (opR .cat ((repO a m k).getD .eps) a) (.func (.func g2) #[] c2) := spl2 rfl
          rw [e] at sg3
          (conv => whnf); rw [w64 (x := (k : Int) + 1) (by omega) (by omega)]
          have ag3 : Agr (Old H) H G3 := (ag.trans (a2.mono fun k hk => old_lt ag hk)).trans (ja3.mono fun k hk => by have : k < H.size := hk; omega)
          refine ⟨rfl, k + 1, rfl, ⟨by omega, by omega, ⟨B2, .func (.func g2) #[] c2, fun k hk => s2 k (s1 k hk), ag3, ?_, ga.frame (ag3.mono fun k hk => st.up hk) fun k hk => s2 k (s1 k hk), ?_⟩⟩, by omega⟩
          · rw [repO_next _ _ _ hk1, if_pos (by omega)]; exact sg3.rebase
          · rw [repO_next _ _ _ hk1, if_pos (by omega)]; exact gj.frame sg3.old fun k hk => hk
        · obtain rfl : k = max m 1 := by omega
          by_cases hn : n < 0
          · have d2 : decide (n < 0) = true := decide_eq_true hn
            have hm1 : max m 1 = m := by omega
            rw [hm1] at gf sg
            (conv => whnf); try (refine VSeq.run ?_)
            (conv => whnf); rw [d2]
            (conv => whnf); refine VDraw.heldZ (Old G) [4] (sq [0,1] (.f 2 (.f 3 (.f 4 .e)))) rfl (by kernel_rfl) ?_
            (conv => whnf); refine ldN (cs := ruleL ((repO a m m).getD .eps) (.func (.func gg) #[] cc)) ag77 (ld_rule (sg.blk _ (lgR ps _ 2))) ((sg.in_ _ (lgR ps _ 2) (k := q7) rfl).2) ?_
            (conv => whnf); refine ldN (cs := ruleL a (.func (.func g1) #[] c1)) ag77 (ld_rule (sg.blk _ (lgR0 ps _))) ((sg.in_ _ (lgR0 ps _) (k := b3) rfl).2) ?_
            (conv => whnf); refine VCall.mk (star_c sg gv) ?_
            rintro _ G1 ⟨B2, f2, rfl, s2, a2, sg2, gs⟩
            refine ⟨a2, ?_⟩
            have agB2' : Agr B1 G G1 := a2.mono fun k hk => sg.up hk
            (conv => whnf); refine VCall.mk (join_c .cat sg2 (gf.frame agB2' s2) gs) ?_
            rintro _ G2 ⟨B3, f3, rfl, s3, a3, sg3, gj⟩
            have a23 := a2.trans (a3.mono fun k hk => old_lt a2 hk)
            refine ⟨a23, ?_⟩
            obtain ⟨g2, c2, rfl⟩ := gj.fn
            (conv => whnf); refine stNBa (cs := ruleL (opR .cat ((repO a m m).getD .eps) (.star a)) (.func (.func g2) #[] c2)) sg3 _ rfl (lgR ps _ 1) (by simp [ruleL, rule0]) rfl fun G3 sg4 ja3 js3 => ?_
            unfold timP at sg4
            rw [lsR, spl2 rfl] at sg4
            have hb4 : Blk G3 q6 77 (ruleL (opR .cat ((repO a m m).getD .eps) (.star a)) (.func (.func g2) #[] c2)) := sg4.blk _ (lgR ps _ 1)
            (conv => whnf); refine ldN (cs := ruleL (opR .cat ((repO a m m).getD .eps) (.star a)) (.func (.func g2) #[] c2)) ag77 (ld_rule hb4) trivial ?_
            have e : repR a m n = opR .cat ((repO a m m).getD .eps) (.star a) := by unfold repR; rw [if_pos hn, if_neg (by omega)]; rfl
            rw [e]
            exact ⟨B3, _, rfl, fun k hk => s3 k (s2 k (s1 k hk)), (ag.trans (a23.mono fun k hk => old_lt ag hk)).trans (ja3.mono fun k hk => by have : k < H.size := hk; omega), sg4.lft.rebase, gj.frame sg4.old fun k hk => hk⟩
          · have d2 : decide (n < 0) = false := decide_eq_false hn
            obtain ⟨nn, rfl⟩ := Int.eq_ofNat_of_zero_le (show 0 ≤ n by omega)
            (conv => whnf); try (refine VSeq.run ?_)
            (conv => whnf)
            refine VLoop.mk [8] (fun k : Nat => [.int .i64 (k : Int)]) (fun k G => max m 1 ≤ k ∧ k ≤ nn ∧ TimI B H ps b3 q6 q7 a ((repO a m k).getD .eps) (.func (.func g1) #[] c1) G) (fun k _ => nn - k) ?_ ?_
            · (conv => whnf)
              exact ⟨max m 1, rfl, Nat.le_refl _, by omega, ⟨B1, .func (.func gg) #[] cc, s1, ag, sg, gv, gf⟩⟩
            · clear s1 ag sg gv gf B1
              rintro k G junk2 ⟨hk1, hkm, ⟨B1, f1, s1, ag, sg, gv, gf⟩⟩
              obtain ⟨gg, cc, rfl⟩ := gf.fn
              (conv => whnf); refine VIte.mk (fun hz => ?_) (fun hz => ?_) <;> simp only [decide_eq_true_eq, decide_eq_false_iff_not] at hz
              · (conv => whnf); try (refine VSeq.run ?_)
                (conv => whnf); refine VDraw.heldZ (Old G) [4] (sq [0,1] (.f 2 (.f 3 (.f 4 .e)))) rfl (by kernel_rfl) ?_
                (conv => whnf); refine ldN (cs := ruleL ((repO a m k).getD .eps) (.func (.func gg) #[] cc)) ag77 (ld_rule (sg.blk _ (lgR ps _ 2))) ((sg.in_ _ (lgR ps _ 2) (k := q7) rfl).2) ?_
                (conv => whnf); refine ldN (cs := ruleL a (.func (.func g1) #[] c1)) ag77 (ld_rule (sg.blk _ (lgR0 ps _))) ((sg.in_ _ (lgR0 ps _) (k := b3) rfl).2) ?_
                (conv => whnf); refine VCall.mk (maybe_c sg gv) ?_
                rintro _ G1 ⟨B2, f2, rfl, s2, a2, sg2, gs⟩
                refine ⟨a2, ?_⟩
                have agB2' : Agr B1 G G1 := a2.mono fun k hk => sg.up hk
                (conv => whnf); refine VCall.mk (join_c .cat sg2 (gf.frame agB2' s2) gs) ?_
                rintro _ G2 ⟨B3, f3, rfl, s3, a3, sg3, gj⟩
                have a23 := a2.trans (a3.mono fun k hk => old_lt a2 hk)
                refine ⟨a23, ?_⟩
                obtain ⟨g2, c2, rfl⟩ := gj.fn
                (conv => whnf); refine stNBa (cs := ruleL (opR .cat ((repO a m k).getD .eps) (maybeR a)) (.func (.func g2) #[] c2)) sg3 _ rfl (lgR ps _ 2) (by simp [ruleL]) rfl fun G3 sg4 ja3 js3 => ?_
                unfold timP at sg4
                rw [lsR] at sg4
                have e : splice (ruleL ((repO a m k).getD .eps) (.func (.func gg) #[] cc)) 0 (ruleL (opR .cat ((repO a m k).getD .eps) (maybeR a)) (.func (.func g2) #[] c2)) = ruleL (opR .cat ((repO a m k).getD .eps) (maybeR a)) (.func (.func g2) #[] c2) := spl2 rfl
                rw [e] at sg4
                (conv => whnf); rw [w64 (x := (k : Int) + 1) (by omega) (by omega)]
                have ag3 : Agr (Old H) H G3 := (ag.trans (a23.mono fun k hk => old_lt ag hk)).trans (ja3.mono fun k hk => by have : k < H.size := hk; omega)
                refine ⟨rfl, k + 1, rfl, ⟨by omega, by omega, ⟨B3, .func (.func g2) #[] c2, fun k hk => s3 k (s2 k (s1 k hk)), ag3, ?_, ga.frame (ag3.mono fun k hk => st.up hk) fun k hk => s3 k (s2 k (s1 k hk)), ?_⟩⟩, by omega⟩
                · rw [repO_next _ _ _ (by omega), if_neg (by omega)]; exact sg4.rebase
                · rw [repO_next _ _ _ (by omega), if_neg (by omega)]; exact gj.frame sg4.old fun k hk => hk
              · obtain rfl : k = nn := by omega
                (conv => whnf); refine ldN (cs := ruleL ((repO a m k).getD .eps) (.func (.func gg) #[] cc)) ag77 (ld_rule (sg.blk _ (lgR ps _ 2))) trivial ?_
                (conv => whnf); refine stNBa (cs := ruleL ((repO a m k).getD .eps) (.func (.func gg) #[] cc)) sg _ rfl (lgR ps _ 1) (by simp [ruleL, rule0]) rfl fun G3 sg4 ja3 js3 => ?_
                unfold timP at sg4
                rw [lsR, spl2 rfl] at sg4
                have hb4 : Blk G3 q6 77 (ruleL ((repO a m k).getD .eps) (.func (.func gg) #[] cc)) := sg4.blk _ (lgR ps _ 1)
                (conv => whnf); refine ldN (cs := ruleL ((repO a m k).getD .eps) (.func (.func gg) #[] cc)) ag77 (ld_rule hb4) trivial ?_
                have e : repR a m (k : Int) = (repO a m k).getD .eps := by unfold repR; rw [if_neg (by omega), if_neg (by omega), Int.toNat_natCast]
                rw [e]
                exact ⟨B1, _, rfl, s1, ag.trans (ja3.mono fun k hk => by have : k < H.size := hk; omega), sg4.lft.rebase, gf.frame sg4.old fun k hk => hk⟩
end Go.Proofs.YtlnmhfhdjnenoaaGreatDoor
/- louperef01.hex, single: the walks. -/
set_option linter.unusedVariables false
set_option linter.unusedSimpArgs false
set_option maxRecDepth 100000
namespace Go.Proofs.YtlnmhfhdjnenoaaGreatDoor
open Go.VC Go.Lib
def hexI (c : Nat) : Int := match hexM c with
  | some v => (v : Int)
  | none => -1
theorem rhex_p {H : Heap} {c : Nat} (hc : c < 256) : Pure Tryz.prog 85 #[.int .u8 (c : Int)] H (.int .i64 (hexI c)) := by
  refine FnOk.of_vc Tryz.func85 rfl (Tryz.call85 _) ?_
  (conv => whnf)
  by_cases hq00 : 48 ≤ c
  · skip
    have d1 : decide ((c : Int) ≥ 48) = true := decide_eq_true (by omega)
    (conv => whnf); rw [d1]
    clear d1
    by_cases hq01 : c ≤ 57
    · skip
      have d1 : decide ((c : Int) ≤ 57) = true := decide_eq_true (by omega)
      (conv => whnf); rw [d1]
      clear d1
      (conv => whnf); rw [w8 (x := (c : Int) - 48) (by omega) (by omega)]
      (conv => whnf); rw [w64 (x := (c : Int) - 48) (by omega) (by omega)]
      (conv => whnf)
      refine ⟨?_, Agr.refl _ _⟩
      have : hexM c = some (c - 48) := by unfold hexM; rw [if_pos (by omega)]
      unfold hexI; rw [this]
      show Value.int .i64 ((c : Int) - 48) = Value.int .i64 ((c - 48 : Nat) : Int)
      congr 1; omega
    · skip
      have d1 : decide ((c : Int) ≤ 57) = false := decide_eq_false (by omega)
      (conv => whnf); rw [d1]
      clear d1
      by_cases hq00 : 97 ≤ c
      · skip
        have d1 : decide ((c : Int) ≥ 97) = true := decide_eq_true (by omega)
        (conv => whnf); rw [d1]
        clear d1
        by_cases hq01 : c ≤ 102
        · skip
          have d1 : decide ((c : Int) ≤ 102) = true := decide_eq_true (by omega)
          (conv => whnf); rw [d1]
          clear d1
          (conv => whnf); rw [w8 (x := (c : Int) - 97) (by omega) (by omega)]
          (conv => whnf); rw [w64 (x := (c : Int) - 97) (by omega) (by omega)]
          (conv => whnf); rw [w64 (x := (c : Int) - 97 + 10) (by omega) (by omega)]
          (conv => whnf)
          refine ⟨?_, Agr.refl _ _⟩
          have : hexM c = some (c - 87) := by unfold hexM; rw [if_neg (by omega), if_pos (by omega)]
          unfold hexI; rw [this]
          show Value.int .i64 ((c : Int) - 97 + 10) = Value.int .i64 ((c - 87 : Nat) : Int)
          congr 1; omega
        · skip
          have d1 : decide ((c : Int) ≤ 102) = false := decide_eq_false (by omega)
          (conv => whnf); rw [d1]
          clear d1
          (conv => whnf)
          refine ⟨?_, Agr.refl _ _⟩
          have : hexM c = none := by unfold hexM; rw [if_neg (by omega), if_neg (by omega)]
          unfold hexI; rw [this]
      · skip
        have d1 : decide ((c : Int) ≥ 97) = false := decide_eq_false (by omega)
        (conv => whnf); rw [d1]
        clear d1
        (conv => whnf)
        refine ⟨?_, Agr.refl _ _⟩
        have : hexM c = none := by unfold hexM; rw [if_neg (by omega), if_neg (by omega)]
        unfold hexI; rw [this]
  · skip
    have d1 : decide ((c : Int) ≥ 48) = false := decide_eq_false (by omega)
    (conv => whnf); rw [d1]
    clear d1
    have d1 : decide ((c : Int) ≥ 97) = false := decide_eq_false (by omega)
    (conv => whnf); rw [d1]
    clear d1
    (conv => whnf)
    refine ⟨?_, Agr.refl _ _⟩
    have : hexM c = none := by unfold hexM; rw [if_neg (by omega), if_neg (by omega)]
    unfold hexI; rw [this]
/-- What single answers. -/
def sglV (t : ByteArray) (i : Nat) (inner : Bool) : Value := match oneM t (if inner then innS else specS) i with
  | .inl e => .tuple #[.int .u8 0, .int .i64 0, .int .i64 (e : Int)]
  | .inr (c, j) => .tuple #[.int .u8 (c : Int), .int .i64 (j : Int), .int .i64 (-1)]
theorem sglV_l {t : ByteArray} {i e : Nat} {inner : Bool} (h : oneM t (if inner then innS else specS) i = .inl e) : Value.tuple #[.int .u8 0, .int .i64 0, .int .i64 (e : Int)] = sglV t i inner := by unfold sglV; rw [h]
theorem sglV_r {t : ByteArray} {i c j : Nat} {inner : Bool} (h : oneM t (if inner then innS else specS) i = .inr (c, j)) : Value.tuple #[.int .u8 (c : Int), .int .i64 (j : Int), .int .i64 (-1)] = sglV t i inner := by unfold sglV; rw [h]
set_option maxHeartbeats 16000000 in
theorem rsingle_p {H : Heap} {t : ByteArray} {i : Nat} {inner : Bool} (ht : t.size ≤ 1152921504606846976) (hi0 : i ≤ t.size) : Pure Tryz.prog 56 #[.string t, .int .i64 (i : Int), .bool inner] H (sglV t i inner) := by
  refine FnOk.of_vc Tryz.func56 rfl (Tryz.call56 _) ?_
  by_cases hi : i < t.size
  case neg =>
    have h256 := bt_out hi
    have d1 : decide ((i : Int) ≥ (t.size : Int)) = true := decide_eq_true (by omega)
    obtain rfl : i = t.size := by omega
    (conv => whnf); rw [d1]
    (conv => whnf)
    exact ⟨sglV_l (by unfold oneM; rw [h256, if_neg (by decide), if_pos (.inr (.inl (by decide)))]), Agr.refl _ _⟩
  obtain ⟨b, hb1, hb2, hb3⟩ := bt_in hi
  have d0 : decide ((i : Int) ≥ (t.size : Int)) = false := decide_eq_false (by omega)
  (conv => whnf); rw [d0]
  (conv => whnf); refine vidxs rstrT rfl hb1 ?_
  rw [← hb2]
  by_cases h92 : bt t i = 92
  case neg =>
    obtain ⟨c, hc⟩ : ∃ c, c = bt t i := ⟨_, rfl⟩
    rw [← hc] at hb3 h92 ⊢
    have dn : ((c : Int) != (92 : Int)) = true := by rw [bne_iff_ne]; omega
    have ho : oneM t (if inner then innS else specS) i = if c < 32 ∨ 126 < c ∨ spB (if inner then innS else specS) c = true then .inl i else .inr (c, i + 1) := by unfold oneM; rw [← hc, if_neg h92]
    (conv => whnf); rw [dn]
    (conv => whnf)
    by_cases hq00 : c < 32
    · skip
      have d1 : decide ((c : Int) < 32) = true := decide_eq_true (by omega)
      (conv => whnf); rw [d1]
      clear d1
      cases inner with
      | true =>
        (conv => whnf); try (refine VSeq.run ?_)
        (conv => whnf)
        exact ⟨sglV_l (by rw [ho, if_pos (by omega)]), Agr.refl _ _⟩
      | false =>
        (conv => whnf); try (refine VSeq.run ?_)
        (conv => whnf)
        exact ⟨sglV_l (by rw [ho, if_pos (by omega)]), Agr.refl _ _⟩
    · skip
      have d1 : decide ((c : Int) < 32) = false := decide_eq_false (by omega)
      (conv => whnf); rw [d1]
      clear d1
      by_cases hq10 : 126 < c
      · skip
        have d1 : decide ((c : Int) > 126) = true := decide_eq_true (by omega)
        (conv => whnf); rw [d1]
        clear d1
        cases inner with
        | true =>
          (conv => whnf); try (refine VSeq.run ?_)
          (conv => whnf)
          exact ⟨sglV_l (by rw [ho, if_pos (by omega)]), Agr.refl _ _⟩
        | false =>
          (conv => whnf); try (refine VSeq.run ?_)
          (conv => whnf)
          exact ⟨sglV_l (by rw [ho, if_pos (by omega)]), Agr.refl _ _⟩
      · skip
        have d1 : decide ((c : Int) > 126) = false := decide_eq_false (by omega)
        (conv => whnf); rw [d1]
        clear d1
        cases inner with
        | true =>
          (conv => whnf); try (refine VSeq.run ?_)
          (conv => whnf); refine pures (inner_p hb3) fun G ga => ?_
          cases hsp : spB innS c with
          | true =>
            (conv => whnf)
            exact ⟨sglV_l (by rw [ho, if_pos (.inr (.inr hsp))]), ga⟩
          | false =>
            have hb : ¬ (c < 32 ∨ 126 < c ∨ spB (if true = true then innS else specS) c = true) := by
              have : spB (if true = true then innS else specS) c = false := hsp
              rw [this]; simp; omega
            (conv => whnf); rw [w64 (x := (i : Int) + 1) (by omega) (by omega)]
            (conv => whnf)
            exact ⟨sglV_r (j := i + 1) (by rw [ho, if_neg hb]), ga⟩
        | false =>
          (conv => whnf); try (refine VSeq.run ?_)
          (conv => whnf); refine pures (special_p hb3) fun G ga => ?_
          cases hsp : spB specS c with
          | true =>
            (conv => whnf)
            exact ⟨sglV_l (by rw [ho, if_pos (.inr (.inr hsp))]), ga⟩
          | false =>
            have hb : ¬ (c < 32 ∨ 126 < c ∨ spB (if false = true then innS else specS) c = true) := by
              have : spB (if false = true then innS else specS) c = false := hsp
              rw [this]; simp; omega
            (conv => whnf); rw [w64 (x := (i : Int) + 1) (by omega) (by omega)]
            (conv => whnf)
            exact ⟨sglV_r (j := i + 1) (by rw [ho, if_neg hb]), ga⟩
  have ho : oneM t (if inner then innS else specS) i = escM t (i + 1) := by unfold oneM; rw [if_pos h92]
  rw [h92]
  (conv => whnf); rw [w64 (x := (i : Int) + 1) (by omega) (by omega)]
  by_cases hi1 : i + 1 < t.size
  case neg =>
    have h256 := bt_out hi1
    have d1 : decide ((i : Int) + 1 ≥ (t.size : Int)) = true := decide_eq_true (by omega)
    have hsz : i + 1 = t.size := by omega
    (conv => whnf); rw [d1]
    (conv => whnf)
    refine ⟨?_, Agr.refl _ _⟩
    have := sglV_l (inner := inner) (e := i + 1) (by rw [ho]; unfold escM; rw [if_pos h256])
    rw [hsz] at this
    exact this
  obtain ⟨b1, hc1, hc2, hc3⟩ := bt_in hi1
  have d1 : decide ((i : Int) + 1 ≥ (t.size : Int)) = false := decide_eq_false (by omega)
  (conv => whnf); rw [d1]
  clear d1 d0
  (conv => whnf); rw [w64 (x := (i : Int) + 1) (by omega) (by omega)]
  (conv => whnf); refine vidxs (i := i + 1) rstrT rfl hc1 ?_
  rw [← hc2]
  obtain ⟨c, hc⟩ : ∃ c, c = bt t (i + 1) := ⟨_, rfl⟩
  rw [← hc] at hc3 ⊢
  by_cases h110 : c = 110
  · have d1 : ((c : Int) == (110 : Int)) = true := by rw [h110]; rfl
    (conv => whnf); rw [d1]
    (conv => whnf); rw [w64 (x := (i : Int) + 2) (by omega) (by omega)]
    (conv => whnf)
    exact ⟨sglV_r (c := 10) (j := i + 2) (by rw [ho]; unfold escM; rw [← hc, h110]; rfl), Agr.refl _ _⟩
  have e110 : ((c : Int) == (110 : Int)) = false := beq_eq_false_iff_ne.2 (by omega)
  (conv => whnf); rw [e110]
  by_cases h114 : c = 114
  · have d1 : ((c : Int) == (114 : Int)) = true := by rw [h114]; rfl
    (conv => whnf); rw [d1]
    (conv => whnf); rw [w64 (x := (i : Int) + 2) (by omega) (by omega)]
    (conv => whnf)
    exact ⟨sglV_r (c := 13) (j := i + 2) (by rw [ho]; unfold escM; rw [← hc, h114]; rfl), Agr.refl _ _⟩
  have e114 : ((c : Int) == (114 : Int)) = false := beq_eq_false_iff_ne.2 (by omega)
  (conv => whnf); rw [e114]
  by_cases h116 : c = 116
  · have d1 : ((c : Int) == (116 : Int)) = true := by rw [h116]; rfl
    (conv => whnf); rw [d1]
    (conv => whnf); rw [w64 (x := (i : Int) + 2) (by omega) (by omega)]
    (conv => whnf)
    exact ⟨sglV_r (c := 9) (j := i + 2) (by rw [ho]; unfold escM; rw [← hc, h116]; rfl), Agr.refl _ _⟩
  have e116 : ((c : Int) == (116 : Int)) = false := beq_eq_false_iff_ne.2 (by omega)
  (conv => whnf); rw [e116]
  have hes : escM t (i + 1) = (if c = 120 then match hexM (bt t (i + 1 + 1)) with
      | none => .inl (i + 1 + 1)
      | some a => match hexM (bt t (i + 1 + 2)) with
        | none => .inl (i + 1 + 2)
        | some b => .inr (16 * a + b, i + 1 + 3)
    else if c < 32 ∨ 126 < c ∨ (48 ≤ c ∧ c ≤ 57) ∨ (97 ≤ c ∧ c ≤ 122) ∨ (65 ≤ c ∧ c ≤ 90) then .inl (i + 1) else .inr (c, i + 1 + 1)) := by
    unfold escM
    rw [← hc, if_neg (show c ≠ 256 by omega), if_neg h110, if_neg h114, if_neg h116]
    rfl
  by_cases h120 : c = 120
  · have d1 : ((c : Int) == (120 : Int)) = true := by rw [h120]; rfl
    rw [if_pos h120] at hes
    (conv => whnf); rw [d1]
    (conv => whnf)
    refine VLoop.mk [11] (fun k : Nat => [.int .i64 (k : Int)]) (fun k G => 2 ≤ k ∧ k ≤ 4 ∧ (∀ m, 2 ≤ m → m < k → (hexM (bt t (i + m))).isSome = true) ∧ Agr (Old H) H G) (fun k _ => 4 - k) ?_ ?_
    · (conv => whnf)
      exact ⟨2, rfl, by omega, by omega, fun m h1 h2 => by omega, Agr.refl _ _⟩
    · rintro k G junk ⟨hk2, hk4, hall, hag⟩
      (conv => whnf); refine VIte.mk (fun hz => ?_) (fun hz => ?_) <;> simp only [decide_eq_true_eq, decide_eq_false_iff_not] at hz
      · (conv => whnf); try (refine VSeq.run ?_)
        (conv => whnf); rw [w64 (x := (i : Int) + (k : Int)) (by omega) (by omega)]
        have hbadk : hexM (bt t (i + k)) = none → oneM t (if inner then innS else specS) i = .inl (i + k) := fun hn => by
          rw [ho, hes]
          have : k = 2 ∨ k = 3 := by omega
          rcases this with rfl | rfl
          · have hn : hexM (bt t (i + 1 + 1)) = none := hn
            rw [hn]
          · have h2 := hall 2 (by omega) (by omega)
            obtain ⟨a, ha⟩ := Option.isSome_iff_exists.1 h2
            have ha : hexM (bt t (i + 1 + 1)) = some a := ha
            have hn : hexM (bt t (i + 1 + 2)) = none := hn
            rw [ha]
            show (match hexM (bt t (i + 1 + 2)) with | none => _ | some b => _) = _
            rw [hn]
        by_cases hik : i + k < t.size
        case neg =>
          have h256 := bt_out hik
          have d2 : decide ((i : Int) + (k : Int) ≥ (t.size : Int)) = true := decide_eq_true (by omega)
          (conv => whnf); rw [d2]
          (conv => whnf); rw [w64 (x := (i : Int) + (k : Int)) (by omega) (by omega)]
          (conv => whnf)
          refine ⟨?_, hag⟩
          exact sglV_l (e := i + k) (hbadk (by rw [h256]; rfl))
        obtain ⟨bk, hk1, hk2', hk3⟩ := bt_in hik
        have d2 : decide ((i : Int) + (k : Int) ≥ (t.size : Int)) = false := decide_eq_false (by omega)
        (conv => whnf); rw [d2]
        (conv => whnf); rw [w64 (x := (i : Int) + (k : Int)) (by omega) (by omega)]
        (conv => whnf); refine vidxs (i := i + k) rstrT rfl hk1 ?_
        rw [← hk2']
        (conv => whnf); refine pures (rhex_p hk3) fun G2 ga2 => ?_
        have hag2 := hag.trans (ga2.mono fun k hk => old_lt hag hk)
        cases hx : hexM (bt t (i + k)) with
        | none =>
          have d3 : decide (hexI (bt t (i + k)) < 0) = true := by unfold hexI; rw [hx]; rfl
          (conv => whnf); rw [d3]
          (conv => whnf); rw [w64 (x := (i : Int) + (k : Int)) (by omega) (by omega)]
          (conv => whnf)
          exact ⟨sglV_l (e := i + k) (hbadk hx), hag2⟩
        | some v =>
          have d3 : decide (hexI (bt t (i + k)) < 0) = false := by unfold hexI; rw [hx]; show decide ((v : Int) < 0) = false; exact decide_eq_false (by omega)
          (conv => whnf); rw [d3]
          (conv => whnf); rw [w64 (x := (k : Int) + 1) (by omega) (by omega)]
          refine ⟨rfl, k + 1, rfl, ⟨by omega, by omega, fun m h1 h2 => ?_, hag2⟩, by omega⟩
          rcases Nat.lt_succ_iff_lt_or_eq.1 h2 with h | rfl
          · exact hall m h1 h
          · rw [hx]; rfl
      · obtain rfl : k = 4 := by omega
        obtain ⟨a, ha⟩ := Option.isSome_iff_exists.1 (hall 2 (by omega) (by omega))
        obtain ⟨b, hb⟩ := Option.isSome_iff_exists.1 (hall 3 (by omega) (by omega))
        have hal := hexM_lt ha
        have hbl := hexM_lt hb
        have h2l : i + 2 < t.size := bt_lt fun e => by rw [e] at ha; cases ha
        have h3l : i + 3 < t.size := bt_lt fun e => by rw [e] at hb; cases hb
        obtain ⟨x2, p1, p2, p3⟩ := bt_in h2l
        obtain ⟨x3, q1, q2, q3⟩ := bt_in h3l
        have ea : hexI (bt t (i + 2)) = (a : Int) := by unfold hexI; rw [ha]
        have eb : hexI (bt t (i + 3)) = (b : Int) := by unfold hexI; rw [hb]
        (conv => whnf); refine VDraw.held (Old G) 18 (sq [0,1,2,3,6,7,8,9,13,14] (.f 4 (sq [5] (.f 10 (sq [11,12,15,16,17] .e))))) rfl (by kernel_rfl) ?_
        (conv => whnf); rw [w64 (x := (i : Int) + 2) (by omega) (by omega)]
        (conv => whnf); refine vidxs (i := i + 2) rstrT rfl p1 ?_
        rw [← p2]
        (conv => whnf); rw [w64 (x := (i : Int) + 3) (by omega) (by omega)]
        (conv => whnf); refine vidxs (i := i + 3) rstrT rfl q1 ?_
        rw [← q2]
        (conv => whnf); rw [w64 (x := (i : Int) + 4) (by omega) (by omega)]
        (conv => whnf); refine pures (rhex_p p3) fun G2 ga2 => ?_
        refine ⟨ga2, ?_⟩
        rw [ea]
        (conv => whnf); rw [w64 (x := 16 * (a : Int)) (by omega) (by omega)]
        (conv => whnf); refine pures (rhex_p q3) fun G3 ga3 => ?_
        have ga4 := ga2.trans (ga3.mono fun k hk => old_lt ga2 hk)
        refine ⟨ga4, ?_⟩
        rw [eb]
        (conv => whnf); rw [w64 (x := 16 * (a : Int) + (b : Int)) (by omega) (by omega)]
        (conv => whnf); rw [w8 (x := 16 * (a : Int) + (b : Int)) (by omega) (by omega)]
        (conv => whnf)
        refine ⟨?_, hag.trans (ga4.mono fun k hk => old_lt hag hk)⟩
        have := sglV_r (t := t) (i := i) (inner := inner) (c := 16 * a + b) (j := i + 4) (by
          rw [ho, hes]
          have ha : hexM (bt t (i + 1 + 1)) = some a := ha
          have hb : hexM (bt t (i + 1 + 2)) = some b := hb
          rw [ha]
          show (match hexM (bt t (i + 1 + 2)) with | none => _ | some b => _) = _
          rw [hb])
        rw [← this]
        rfl
  have d1 : ((c : Int) == (120 : Int)) = false := beq_eq_false_iff_ne.2 (by omega)
  rw [if_neg h120] at hes
  (conv => whnf); rw [d1]
  clear d1
  (conv => whnf)
  by_cases hq00 : 97 ≤ c
  · skip
    have d1 : decide ((c : Int) ≥ 97) = true := decide_eq_true (by omega)
    (conv => whnf); rw [d1]
    clear d1
    by_cases hq01 : c ≤ 122
    · skip
      have d1 : decide ((c : Int) ≤ 122) = true := decide_eq_true (by omega)
      (conv => whnf); rw [d1]
      clear d1
      have d1 : decide ((c : Int) < 32) = false := decide_eq_false (by omega)
      (conv => whnf); rw [d1]
      clear d1
      have d1 : decide ((c : Int) > 126) = false := decide_eq_false (by omega)
      (conv => whnf); rw [d1]
      clear d1
      (conv => whnf); rw [w64 (x := (i : Int) + 1) (by omega) (by omega)]
      (conv => whnf)
      exact ⟨sglV_l (e := i + 1) (by rw [ho, hes, if_pos (by omega)]), Agr.refl _ _⟩
    · skip
      have d1 : decide ((c : Int) ≤ 122) = false := decide_eq_false (by omega)
      (conv => whnf); rw [d1]
      clear d1
      have d1 : decide ((c : Int) ≥ 65) = true := decide_eq_true (by omega)
      (conv => whnf); rw [d1]
      clear d1
      have d1 : decide ((c : Int) ≤ 90) = false := decide_eq_false (by omega)
      (conv => whnf); rw [d1]
      clear d1
      have d1 : decide ((c : Int) ≥ 48) = true := decide_eq_true (by omega)
      (conv => whnf); rw [d1]
      clear d1
      have d1 : decide ((c : Int) ≤ 57) = false := decide_eq_false (by omega)
      (conv => whnf); rw [d1]
      clear d1
      have d1 : decide ((c : Int) < 32) = false := decide_eq_false (by omega)
      (conv => whnf); rw [d1]
      clear d1
      by_cases hq10 : 126 < c
      · skip
        have d1 : decide ((c : Int) > 126) = true := decide_eq_true (by omega)
        (conv => whnf); rw [d1]
        clear d1
        (conv => whnf); rw [w64 (x := (i : Int) + 1) (by omega) (by omega)]
        (conv => whnf)
        exact ⟨sglV_l (e := i + 1) (by rw [ho, hes, if_pos (by omega)]), Agr.refl _ _⟩
      · skip
        have d1 : decide ((c : Int) > 126) = false := decide_eq_false (by omega)
        (conv => whnf); rw [d1]
        clear d1
        (conv => whnf); rw [w64 (x := (i : Int) + 2) (by omega) (by omega)]
        (conv => whnf)
        exact ⟨sglV_r (j := i + 2) (by rw [ho, hes, if_neg (by omega)]), Agr.refl _ _⟩
  · skip
    have d1 : decide ((c : Int) ≥ 97) = false := decide_eq_false (by omega)
    (conv => whnf); rw [d1]
    clear d1
    by_cases hq10 : 65 ≤ c
    · skip
      have d1 : decide ((c : Int) ≥ 65) = true := decide_eq_true (by omega)
      (conv => whnf); rw [d1]
      clear d1
      by_cases hq11 : c ≤ 90
      · skip
        have d1 : decide ((c : Int) ≤ 90) = true := decide_eq_true (by omega)
        (conv => whnf); rw [d1]
        clear d1
        have d1 : decide ((c : Int) < 32) = false := decide_eq_false (by omega)
        (conv => whnf); rw [d1]
        clear d1
        have d1 : decide ((c : Int) > 126) = false := decide_eq_false (by omega)
        (conv => whnf); rw [d1]
        clear d1
        (conv => whnf); rw [w64 (x := (i : Int) + 1) (by omega) (by omega)]
        (conv => whnf)
        exact ⟨sglV_l (e := i + 1) (by rw [ho, hes, if_pos (by omega)]), Agr.refl _ _⟩
      · skip
        have d1 : decide ((c : Int) ≤ 90) = false := decide_eq_false (by omega)
        (conv => whnf); rw [d1]
        clear d1
        have d1 : decide ((c : Int) ≥ 48) = true := decide_eq_true (by omega)
        (conv => whnf); rw [d1]
        clear d1
        have d1 : decide ((c : Int) ≤ 57) = false := decide_eq_false (by omega)
        (conv => whnf); rw [d1]
        clear d1
        have d1 : decide ((c : Int) < 32) = false := decide_eq_false (by omega)
        (conv => whnf); rw [d1]
        clear d1
        have d1 : decide ((c : Int) > 126) = false := decide_eq_false (by omega)
        (conv => whnf); rw [d1]
        clear d1
        (conv => whnf); rw [w64 (x := (i : Int) + 2) (by omega) (by omega)]
        (conv => whnf)
        exact ⟨sglV_r (j := i + 2) (by rw [ho, hes, if_neg (by omega)]), Agr.refl _ _⟩
    · skip
      have d1 : decide ((c : Int) ≥ 65) = false := decide_eq_false (by omega)
      (conv => whnf); rw [d1]
      clear d1
      by_cases hq20 : 48 ≤ c
      · skip
        have d1 : decide ((c : Int) ≥ 48) = true := decide_eq_true (by omega)
        (conv => whnf); rw [d1]
        clear d1
        by_cases hq21 : c ≤ 57
        · skip
          have d1 : decide ((c : Int) ≤ 57) = true := decide_eq_true (by omega)
          (conv => whnf); rw [d1]
          clear d1
          have d1 : decide ((c : Int) < 32) = false := decide_eq_false (by omega)
          (conv => whnf); rw [d1]
          clear d1
          have d1 : decide ((c : Int) > 126) = false := decide_eq_false (by omega)
          (conv => whnf); rw [d1]
          clear d1
          (conv => whnf); rw [w64 (x := (i : Int) + 1) (by omega) (by omega)]
          (conv => whnf)
          exact ⟨sglV_l (e := i + 1) (by rw [ho, hes, if_pos (by omega)]), Agr.refl _ _⟩
        · skip
          have d1 : decide ((c : Int) ≤ 57) = false := decide_eq_false (by omega)
          (conv => whnf); rw [d1]
          clear d1
          have d1 : decide ((c : Int) < 32) = false := decide_eq_false (by omega)
          (conv => whnf); rw [d1]
          clear d1
          have d1 : decide ((c : Int) > 126) = false := decide_eq_false (by omega)
          (conv => whnf); rw [d1]
          clear d1
          (conv => whnf); rw [w64 (x := (i : Int) + 2) (by omega) (by omega)]
          (conv => whnf)
          exact ⟨sglV_r (j := i + 2) (by rw [ho, hes, if_neg (by omega)]), Agr.refl _ _⟩
      · skip
        have d1 : decide ((c : Int) ≥ 48) = false := decide_eq_false (by omega)
        (conv => whnf); rw [d1]
        clear d1
        by_cases hq00 : c < 32
        · skip
          have d1 : decide ((c : Int) < 32) = true := decide_eq_true (by omega)
          (conv => whnf); rw [d1]
          clear d1
          (conv => whnf); rw [w64 (x := (i : Int) + 1) (by omega) (by omega)]
          (conv => whnf)
          exact ⟨sglV_l (e := i + 1) (by rw [ho, hes, if_pos (by omega)]), Agr.refl _ _⟩
        · skip
          have d1 : decide ((c : Int) < 32) = false := decide_eq_false (by omega)
          (conv => whnf); rw [d1]
          clear d1
          have d1 : decide ((c : Int) > 126) = false := decide_eq_false (by omega)
          (conv => whnf); rw [d1]
          clear d1
          (conv => whnf); rw [w64 (x := (i : Int) + 2) (by omega) (by omega)]
          (conv => whnf)
          exact ⟨sglV_r (j := i + 2) (by rw [ho, hes, if_neg (by omega)]), Agr.refl _ _⟩
end Go.Proofs.YtlnmhfhdjnenoaaGreatDoor
/- louperef01.Read: the walk. -/
set_option linter.unusedVariables false
set_option linter.unusedSimpArgs false
set_option maxRecDepth 100000
namespace Go.Proofs.YtlnmhfhdjnenoaaGreatDoor
open Go.VC Go.Lib
theorem bits_fun (x : BitVec 256) : bitsL x = funL fun b => x.getLsbD b := by
  unfold bitsL bitsTo funL
  refine List.map_congr_left fun b hb => ?_
  rw [decide_eq_true (List.mem_range.1 hb), Bool.true_and]
theorem fun_bits {f : Nat → Bool} {x : BitVec 256} (h : ∀ b, b < 256 → f b = x.getLsbD b) : funL f = bitsL x := by rw [bits_fun]; exact funL_ext h
theorem or_bit (x y : BitVec 256) (b : Nat) : (x ||| y).getLsbD b = (x.getLsbD b || y.getLsbD b) := BitVec.getLsbD_or
theorem not_bit (x : BitVec 256) (b : Nat) (hb : b < 256) : (~~~x).getLsbD b = !x.getLsbD b := by rw [BitVec.getLsbD_not, decide_eq_true hb, Bool.true_and]
theorem zero_bit (b : Nat) : (0#256).getLsbD b = false := BitVec.getLsbD_zero
theorem fun_set (f : Nat → Bool) {k : Nat} (h : k < 256) (v : Bool) : (funL f).set k (.bool v) = funL fun b => if b = k then v else f b := by
  apply List.ext_getElem?
  intro j
  by_cases hj : j < 256
  · rw [funL_get _ hj]
    by_cases hjk : k = j
    · subst hjk; rw [List.getElem?_set_self (by rw [funL_len]; exact h), if_pos rfl]
    · rw [List.getElem?_set_ne hjk, funL_get _ hj, if_neg (Ne.symm hjk)]
  · rw [List.getElem?_eq_none (by rw [List.length_set, funL_len]; omega), List.getElem?_eq_none (by rw [funL_len]; omega)]
def notM (nt : Bool) (M : Sum Nat (BitVec 256 × Nat)) : Sum Nat (BitVec 256 × Nat) := match M with
  | .inl e => .inl e
  | .inr (x, k) => .inr (if nt then ~~~x else x, k)
def zeroD : Value := .agg (bitsL 0#256).toArray
theorem zeroD_z : (Tryz.prog.info? 92).bind (·.zero) = some zeroD := by kernel_rfl
/-- What the document's Read answers. -/
def RdAnsD (t : ByteArray) (i : Nat) (v : Value) : Prop := match readSet t i with
  | .inl e => v = .tuple #[zeroD, .int .i64 0, .int .i64 10, .int .i64 (e : Int)]
  | .inr (x, j) => v = .tuple #[.agg (bitsL x).toArray, .int .i64 (j : Int), .int .i64 0, .int .i64 0]
def rrP (q4 q8 : Nat) (x : BitVec 256) : List Pc := [pB 92 q4 (bitsL 0#256), pB 92 q8 (bitsL x)]
def rrF (q4 q8 : Nat) (f : Nat → Bool) : List Pc := [pB 92 q4 (bitsL 0#256), pB 92 q8 (funL f)]
theorem rrF_eq {q4 q8 : Nat} {f : Nat → Bool} {x : BitVec 256} (h : ∀ b, b < 256 → f b = x.getLsbD b) : rrF q4 q8 f = rrP q4 q8 x := by unfold rrF rrP; rw [fun_bits h]
structure MemD (H : Heap) (t : ByteArray) (q4 q8 : Nat) (M : Sum Nat (BitVec 256 × Nat)) (y : Nat × Nat × BitVec 256) (G : Heap) : Prop where
  le : y.1 ≤ t.size
  fuel : t.size < y.2.1 + y.1
  eq : memM t y.2.1 y.1 y.2.2 = M
  st : St H G (rrP q4 q8 y.2.2)
theorem ld_bits {H : Heap} {b : Nat} {x : BitVec 256} (h : Blk H b 92 (bitsL x)) : Cells H b 0 (bitsL x) := h.cells (fun j v hv => by rw [Nat.zero_add]; exact hv)
theorem agD (x : BitVec 256) : AggT Tryz.prog 92 (bitsL x).length := by rw [bitsL_len]; exact ag92
theorem szD (x : BitVec 256) : (Tryz.prog.info? 92).map (·.size) = some (bitsL x).length := by rw [bitsL_len]; rfl
theorem onD (x : BitVec 256) : (bitsL x).all (·.oneCell') = true := bits_ones x 256
set_option maxHeartbeats 32000000 in
theorem refRead_c {H : Heap} {t : ByteArray} {i : Nat} (ht : t.size ≤ 1152921504606846976) (hi : i < t.size) :
    FnOk Tryz.prog 34 #[.string t, .int .i64 (i : Int)] H fun v H' => Agr (Old H) H H' ∧ RdAnsD t i v := by
  refine FnOk.of_vcL Tryz.func34 rfl (Tryz.call34 _) ?_
  obtain ⟨b, hb1, hb2, hb3⟩ := bt_in hi
  (conv => whnf); refine valloc zeroD (bitsL 0#256) zeroD_z rfl ?_
  intro q4 H1 hq1 hs1 hb1' ha1
  have st1 := (St.nil H).box hq1 hs1 hb1' ha1
  (conv => whnf); refine valloc zeroD (bitsL 0#256) zeroD_z rfl ?_
  intro q8 H2 hq2 hs2 hb2' ha2
  have st2 : St H H2 (rrP q4 q8 0#256) := st1.box hq2 hs2 hb2' ha2
  have d1 : decide ((i : Int) < 0) = false := decide_eq_false (by omega)
  have d2 : decide ((i : Int) ≥ (t.size : Int)) = false := decide_eq_false (by omega)
  (conv => whnf); rw [d1]
  (conv => whnf); rw [d2]
  (conv => whnf); refine vidxs rstrT rfl hb1 ?_
  rw [← hb2]
  by_cases h46 : bt t i = 46
  · have d3 : ((bt t i : Int) == (46 : Int)) = true := by rw [h46]; rfl
    (conv => whnf); rw [d3]
    (conv => whnf)
    refine VLoop.mk [9] (fun k : Nat => [.int .i64 (k : Int)]) (fun k G => k ≤ 256 ∧ St H G (rrF q4 q8 fun b => decide (b < k) && !decide (b = 10))) (fun k _ => 256 - k) ?_ ?_
    · (conv => whnf)
      exact ⟨0, rfl, by omega, by rw [rrF_eq (x := 0#256) (fun b hb => by rw [zero_bit]; simp)]; exact st2⟩
    · rintro k G junk ⟨hk, stg⟩
      (conv => whnf); refine VIte.mk (fun hz => ?_) (fun hz => ?_) <;> simp only [decide_eq_true_eq, decide_eq_false_iff_not] at hz
      · (conv => whnf); try (refine VSeq.run ?_)
        have d4 : ((k : Int) != (10 : Int)) = !decide (k = 10) := by
          by_cases h : k = 10
          · subst h; rfl
          · rw [decide_eq_false h]; rw [Bool.not_false, bne_iff_ne]; omega
        (conv => whnf); rw [d4]
        (conv => whnf); refine ixa ar92 (by omega) (by omega) ?_
        (conv => whnf); refine st1B stg 1 ct4 rfl (by rw [funL_len]; omega) rfl fun G2 stg2 => ?_
        have e0 : 0 + (k : Int).toNat * 1 = k := by omega
        rw [e0] at stg2
        have st3 : St H G2 (rrF q4 q8 fun b => decide (b < k + 1) && !decide (b = 10)) := by
          have e2 : (funL fun b => decide (b < k) && !decide (b = 10)).set k (.bool (!decide (k = 10))) = funL fun b => decide (b < k + 1) && !decide (b = 10) := by
            rw [fun_set _ (by omega)]
            refine funL_ext fun b hb => ?_
            by_cases h : b = k
            · subst h; rw [if_pos rfl, decide_eq_true (show b < b + 1 by omega), Bool.true_and]
            · rw [if_neg h]
              congr 1
              exact decide_eq_decide.2 (by omega)
          have := stg2
          unfold rrF at this ⊢
          simp only [List.set_cons_succ, List.set_cons_zero] at this
          rwa [e2] at this
        (conv => whnf); rw [w64 (x := (k : Int) + 1) (by omega) (by omega)]
        exact ⟨rfl, k + 1, rfl, ⟨by omega, st3⟩, by omega⟩
      · obtain rfl : k = 256 := by omega
        have hx : ∀ b, b < 256 → (decide (b < 256) && !decide (b = 10)) = (~~~(spanS 10 10)).getLsbD b := fun b hb => by
          rw [not_bit _ _ hb, spanS_bit _ _ _ hb, decide_eq_true hb, Bool.true_and]
          congr 1
          by_cases h : b = 10
          · subst h; rfl
          · rw [decide_eq_false h]
            by_cases h2 : 10 ≤ b
            · rw [decide_eq_true h2, decide_eq_false (show ¬ b ≤ 10 by omega)]; rfl
            · rw [decide_eq_false h2]; rfl
        rw [rrF_eq hx] at stg
        (conv => whnf); refine ldN (cs := bitsL (~~~(spanS 10 10))) (agD _) (ld_bits (stg.blk 1 rfl)) trivial ?_
        (conv => whnf); rw [w64 (x := (i : Int) + 1) (by omega) (by omega)]
        (conv => whnf); refine stNB (cs := bitsL (~~~(spanS 10 10))) stg 0 (szD _) rfl (by simp [bitsL_len]) (onD _) fun Z1 sz1 => ?_
        have bz1 : Blk Z1 q4 92 (bitsL (~~~(spanS 10 10))) := by
          have := sz1.blk 0 rfl
          rwa [splAll (by simp [bitsL_len])] at this
        (conv => whnf); refine ldN (cs := bitsL (~~~(spanS 10 10))) (agD _) (ld_bits bz1) trivial ?_
        exact ⟨sz1.old, by unfold RdAnsD readSet; rw [if_pos h46]; rfl⟩
  have d3 : ((bt t i : Int) == (46 : Int)) = false := beq_eq_false_iff_ne.2 (by omega)
  (conv => whnf); rw [d3]
  (conv => whnf); refine vidxs rstrT rfl hb1 ?_
  rw [← hb2]
  by_cases h91 : bt t i = 91
  case neg =>
    have d4 : ((bt t i : Int) != (91 : Int)) = true := by rw [bne_iff_ne]; omega
    have hrs : readSet t i = match oneM t specS i with | .inl e => .inl e | .inr (b, k) => .inr (spanS b b, k) := by unfold readSet; rw [if_neg h46, if_neg h91]; rfl
    (conv => whnf); rw [d4]
    (conv => whnf); refine pures (rsingle_p (i := i) (inner := false) ht (by omega)) fun H3 ha3 => ?_
    have st3 := st2.call ha3
    unfold sglV
    simp only [Bool.false_eq_true, if_false]
    cases ho : oneM t specS i with
    | inl e =>
      rw [ho] at hrs
      (conv => whnf)
      (conv => whnf); refine ldN (cs := bitsL 0#256) (agD _) (ld_bits (st3.blk 1 rfl)) trivial ?_
      (conv => whnf); refine stNB (cs := bitsL 0#256) st3 0 (szD _) rfl (by simp [bitsL_len]) (onD _) fun Z1 sz1 => ?_
      have bz1 : Blk Z1 q4 92 (bitsL 0#256) := by
        have := sz1.blk 0 rfl
        rwa [splAll (by simp [bitsL_len])] at this
      (conv => whnf); refine ldN (cs := bitsL 0#256) (agD _) (ld_bits bz1) trivial ?_
      exact ⟨sz1.old, by unfold RdAnsD; rw [hrs]; rfl⟩
    | inr p =>
      obtain ⟨c, j⟩ := p
      rw [ho] at hrs
      have hok := oneM_ok ho
      (conv => whnf); rw [w64 (x := (c : Int)) (by omega) (by omega)]
      (conv => whnf); refine ixa ar92 (by omega) (by omega) ?_
      (conv => whnf); refine st1B st3 1 ct4 rfl (by rw [bitsL_len]; omega) rfl fun H4 st4 => ?_
      have e0 : 0 + (c : Int).toNat * 1 = c := by omega
      rw [e0] at st4
      have st5 : St H H4 (rrP q4 q8 (spanS c c)) := by
        have e2 : (bitsL 0#256).set c (.bool true) = bitsL (spanS c c) := by
          rw [bits_fun, bits_fun, fun_set _ (by omega)]
          refine funL_ext fun b hb => ?_
          rw [spanS_bit _ _ _ hb, zero_bit]
          by_cases h : b = c
          · subst h; rw [if_pos rfl, decide_eq_true (Nat.le_refl _)]; rfl
          · rw [if_neg h]
            by_cases h2 : c ≤ b
            · rw [decide_eq_true h2, decide_eq_false (show ¬ b ≤ c by omega)]; rfl
            · rw [decide_eq_false h2]; rfl
        have := st4
        unfold rrP at this ⊢
        simp only [List.set_cons_succ, List.set_cons_zero] at this
        rwa [e2] at this
      (conv => whnf); refine ldN (cs := bitsL (spanS c c)) (agD _) (ld_bits (st5.blk 1 rfl)) trivial ?_
      (conv => whnf); refine stNB (cs := bitsL (spanS c c)) st5 0 (szD _) rfl (by simp [bitsL_len]) (onD _) fun Z1 sz1 => ?_
      have bz1 : Blk Z1 q4 92 (bitsL (spanS c c)) := by
        have := sz1.blk 0 rfl
        rwa [splAll (by simp [bitsL_len])] at this
      (conv => whnf); refine ldN (cs := bitsL (spanS c c)) (agD _) (ld_bits bz1) trivial ?_
      exact ⟨sz1.old, by unfold RdAnsD; rw [hrs]; rfl⟩
  have d4 : ((bt t i : Int) != (91 : Int)) = false := by rw [h91]; rfl
  (conv => whnf); rw [d4]
  (conv => whnf); rw [w64 (x := (i : Int) + 1) (by omega) (by omega)]
  have hrs : readSet t i = bracM t (i + 1) := by unfold readSet; rw [if_neg h46, if_pos h91]
  obtain ⟨nt, hnt⟩ : ∃ nt : Bool, nt = decide (bt t (i + 1) = 94) := ⟨_, rfl⟩
  have hbr : bracM t (i + 1) = notM nt (memM t (t.size + 1) (if nt then i + 1 + 1 else i + 1) 0#256) := by
    unfold bracM
    rw [hnt]
    by_cases h : bt t (i + 1) = 94
    · simp only [h, if_true, decide_true]
      cases memM t (t.size + 1) (i + 1 + 1) 0#256 <;> rfl
    · simp only [h, if_false, decide_false, Bool.false_eq_true]
      cases memM t (t.size + 1) (i + 1) 0#256 <;> rfl
  obtain ⟨M, hM⟩ : ∃ M, M = memM t (t.size + 1) (if nt then i + 1 + 1 else i + 1) 0#256 := ⟨_, rfl⟩
  rw [← hM] at hbr
  rw [hbr] at hrs
  have hle : (if nt then i + 1 + 1 else i + 1) ≤ t.size := by
    cases hn : nt with
    | false => exact hi
    | true =>
      rw [hn] at hnt
      have h94 := of_decide_eq_true hnt.symm
      exact bt_lt (by omega)
  by_cases hi1 : i + 1 < t.size
  case neg =>
    have h256 := bt_out hi1
    have hn0 : nt = false := by rw [hnt, decide_eq_false]; omega
    have d5 : decide ((i : Int) + 1 < (t.size : Int)) = false := decide_eq_false (by omega)
    (conv => whnf); rw [d5]
    (conv => whnf)
    refine VSeq.cut [13] (fun _ : Unit => [.int .i64 ((if nt then i + 1 + 1 else i + 1 : Nat) : Int)]) (fun _ G => St H G (rrP q4 q8 0#256)) ?_ ?_
    · (conv => whnf)
      exact ⟨rfl, (), by rw [hn0]; rfl, st2⟩
    · rintro ⟨⟩ G junk0 stg
      (conv => whnf)
      refine VLoop.mk [13] (fun y : Nat × Nat × BitVec 256 => [.int .i64 (y.1 : Int)]) (fun y G => MemD H t q4 q8 M y G) (fun y _ => t.size - y.1) ?_ ?_
      · (conv => whnf)
        exact ⟨((if nt then i + 1 + 1 else i + 1), t.size + 1, 0#256), rfl, ⟨hle, by simp only; omega, hM.symm, stg⟩⟩
      · rintro ⟨j, n, x⟩ J0 junk1 ⟨hj, hfu, heq, stl⟩
        simp only at hj hfu heq stl
        obtain ⟨n, rfl⟩ : ∃ m, n = m + 1 := ⟨n - 1, by omega⟩
        by_cases hjl : j < t.size
        case neg =>
          have hj0 := bt_out hjl
          have d7 : decide ((j : Int) ≥ (t.size : Int)) = true := decide_eq_true (by omega)
          have ho : oneM t innS j = .inl j := by unfold oneM; rw [hj0, if_neg (by decide), if_pos (.inr (.inl (by decide)))]
          have hmn : M = .inl j := by rw [← heq, memM, if_neg (by omega), ho]
          rw [hmn] at hrs
          (conv => whnf); rw [d7]
          (conv => whnf); try (refine VSeq.run ?_)
          (conv => whnf); refine pures (rsingle_p (i := j) (inner := true) ht hj) fun J1 ja1 => ?_
          have stl1 := stl.call ja1
          unfold sglV
          simp only [if_true]
          rw [ho]
          (conv => whnf); refine vbuildA ar92 zeroD zeroD_z (bitsL 0#256) rfl ?_
          (conv => whnf); refine stNB (cs := bitsL 0#256) stl1 0 (szD _) rfl (by simp [bitsL_len]) (onD _) fun Z1 sz1 => ?_
          have bz1 : Blk Z1 q4 92 (bitsL 0#256) := by
            have := sz1.blk 0 rfl
            rwa [splAll (by simp [bitsL_len])] at this
          (conv => whnf); refine ldN (cs := bitsL 0#256) (agD _) (ld_bits bz1) trivial ?_
          exact ⟨sz1.old, by unfold RdAnsD; rw [hrs]; rfl⟩
        obtain ⟨b5, hb5, hb6, hb7⟩ := bt_in hjl
        have d7 : decide ((j : Int) ≥ (t.size : Int)) = false := decide_eq_false (by omega)
        (conv => whnf); rw [d7]
        (conv => whnf); refine vidxs (i := j) rstrT rfl hb5 ?_
        rw [← hb6]
        by_cases h93 : bt t j = 93
        · have d8 : ((bt t j : Int) != (93 : Int)) = false := by rw [h93]; rfl
          have hmn : M = .inr (x, j + 1) := by rw [← heq, memM, if_pos h93]
          rw [hmn] at hrs
          (conv => whnf); rw [d8]
          (conv => whnf)
          have hn := hn0
          (conv => whnf); try (refine VSeq.run ?_)
          (conv => whnf); refine ldN (cs := bitsL x) (agD _) (ld_bits (stl.blk 1 rfl)) trivial ?_
          (conv => whnf); rw [w64 (x := (j : Int) + 1) (by omega) (by omega)]
          (conv => whnf); refine stNB (cs := bitsL x) stl 0 (szD _) rfl (by simp [bitsL_len]) (onD _) fun Z1 sz1 => ?_
          have bz1 : Blk Z1 q4 92 (bitsL x) := by
            have := sz1.blk 0 rfl
            rwa [splAll (by simp [bitsL_len])] at this
          (conv => whnf); refine ldN (cs := bitsL x) (agD _) (ld_bits bz1) trivial ?_
          exact ⟨sz1.old, by unfold RdAnsD; rw [hrs, hn]; rfl⟩
        have d8 : ((bt t j : Int) != (93 : Int)) = true := by rw [bne_iff_ne]; omega
        (conv => whnf); rw [d8]
        (conv => whnf); try (refine VSeq.run ?_)
        (conv => whnf); refine pures (rsingle_p (i := j) (inner := true) ht hj) fun J1 ja1 => ?_
        have stl1 := stl.call ja1
        unfold sglV
        simp only [if_true]
        cases ho : oneM t innS j with
        | inl e =>
          have hmn : M = .inl e := by rw [← heq, memM, if_neg h93, ho]
          rw [hmn] at hrs
          (conv => whnf); refine vbuildA ar92 zeroD zeroD_z (bitsL 0#256) rfl ?_
          (conv => whnf); refine stNB (cs := bitsL 0#256) stl1 0 (szD _) rfl (by simp [bitsL_len]) (onD _) fun Z1 sz1 => ?_
          have bz1 : Blk Z1 q4 92 (bitsL 0#256) := by
            have := sz1.blk 0 rfl
            rwa [splAll (by simp [bitsL_len])] at this
          (conv => whnf); refine ldN (cs := bitsL 0#256) (agD _) (ld_bits bz1) trivial ?_
          exact ⟨sz1.old, by unfold RdAnsD; rw [hrs]; rfl⟩
        | inr p =>
          obtain ⟨lo, j1⟩ := p
          have hok := oneM_ok ho
          have hmn : M = dashM t lo j1 x (memM t n) := by rw [← heq, memM, if_neg h93, ho]
          unfold dashM at hmn
          by_cases hj1 : j1 < t.size
          case neg =>
            have h256 := bt_out hj1
            have d9 : decide ((j1 : Int) < (t.size : Int)) = false := decide_eq_false (by omega)
            rw [if_neg (by omega)] at hmn
            (conv => whnf); try (refine VSeq.run ?_)
            (conv => whnf); rw [d9]
            (conv => whnf); rw [w64 (x := (lo : Int)) (by omega) (by omega)]
            (conv => whnf)
            refine VLoop.mk [20] (fun b : Nat => [.int .i64 (b : Int)]) (fun b G => lo ≤ b ∧ b ≤ lo + 1 ∧ St H G (rrF q4 q8 fun a => x.getLsbD a || (decide (lo ≤ a) && decide (a < b)))) (fun b _ => lo + 1 - b) ?_ ?_
            · (conv => whnf)
              refine ⟨lo, rfl, Nat.le_refl _, by omega, ?_⟩
              rw [rrF_eq (x := x) (fun a ha => by
                by_cases h : lo ≤ a
                · rw [decide_eq_false (show ¬ a < lo by omega), Bool.and_false, Bool.or_false]
                · rw [decide_eq_false h, Bool.false_and, Bool.or_false])]
              exact stl1
            · rintro b I0 junk5 ⟨hb1, hb2, sti⟩
              (conv => whnf); rw [w64 (x := (lo : Int)) (by omega) (by omega)]
              (conv => whnf); refine VIte.mk (fun hz => ?_) (fun hz => ?_) <;> simp only [decide_eq_true_eq, decide_eq_false_iff_not] at hz
              · (conv => whnf); try (refine VSeq.run ?_)
                (conv => whnf); refine ixa ar92 (by omega) (by omega) ?_
                (conv => whnf); refine st1B sti 1 ct4 rfl (by rw [funL_len]; omega) rfl fun I2 sti2 => ?_
                have e0 : 0 + (b : Int).toNat * 1 = b := by omega
                rw [e0] at sti2
                have sti3 : St H I2 (rrF q4 q8 fun a => x.getLsbD a || (decide (lo ≤ a) && decide (a < b + 1))) := by
                  have e2 : (funL fun a => x.getLsbD a || (decide (lo ≤ a) && decide (a < b))).set b (.bool true) = funL fun a => x.getLsbD a || (decide (lo ≤ a) && decide (a < b + 1)) := by
                    rw [fun_set _ (by omega)]
                    refine funL_ext fun a ha => ?_
                    by_cases h : a = b
                    · subst h; rw [if_pos rfl, decide_eq_true (show lo ≤ a by omega), decide_eq_true (show a < a + 1 by omega), Bool.true_and, Bool.or_true]
                    · rw [if_neg h]
                      congr 2
                      exact decide_eq_decide.2 (by omega)
                  have := sti2
                  unfold rrF at this ⊢
                  simp only [List.set_cons_succ, List.set_cons_zero] at this
                  rwa [e2] at this
                (conv => whnf); rw [w64 (x := (b : Int) + 1) (by omega) (by omega)]
                exact ⟨rfl, b + 1, rfl, ⟨by omega, by omega, sti3⟩, by omega⟩
              · obtain rfl : b = lo + 1 := by omega
                rw [rrF_eq (x := x ||| spanS lo lo) (fun a ha => by
                  rw [or_bit, spanS_bit _ _ _ ha]
                  congr 2
                  exact decide_eq_decide.2 (by omega))] at sti
                (conv => whnf)
                exact ⟨rfl, (j1, n, x ||| spanS lo lo), rfl, ⟨by simp only; omega, by simp only; omega, hmn.symm, sti⟩, by simp only; omega⟩
          obtain ⟨b8, hb8, hb9, hb10⟩ := bt_in hj1
          have d9 : decide ((j1 : Int) < (t.size : Int)) = true := decide_eq_true (by omega)
          (conv => whnf); try (refine VSeq.run ?_)
          (conv => whnf); rw [d9]
          (conv => whnf); refine vidxs (i := j1) rstrT rfl hb8 ?_
          rw [← hb9]
          by_cases h45 : bt t j1 = 45
          case neg =>
            have d10 : ((bt t j1 : Int) == (45 : Int)) = false := beq_eq_false_iff_ne.2 (by omega)
            rw [if_neg h45] at hmn
            (conv => whnf); rw [d10]
            (conv => whnf); rw [w64 (x := (lo : Int)) (by omega) (by omega)]
            (conv => whnf)
            refine VLoop.mk [20] (fun b : Nat => [.int .i64 (b : Int)]) (fun b G => lo ≤ b ∧ b ≤ lo + 1 ∧ St H G (rrF q4 q8 fun a => x.getLsbD a || (decide (lo ≤ a) && decide (a < b)))) (fun b _ => lo + 1 - b) ?_ ?_
            · (conv => whnf)
              refine ⟨lo, rfl, Nat.le_refl _, by omega, ?_⟩
              rw [rrF_eq (x := x) (fun a ha => by
                by_cases h : lo ≤ a
                · rw [decide_eq_false (show ¬ a < lo by omega), Bool.and_false, Bool.or_false]
                · rw [decide_eq_false h, Bool.false_and, Bool.or_false])]
              exact stl1
            · rintro b I0 junk5 ⟨hb1, hb2, sti⟩
              (conv => whnf); rw [w64 (x := (lo : Int)) (by omega) (by omega)]
              (conv => whnf); refine VIte.mk (fun hz => ?_) (fun hz => ?_) <;> simp only [decide_eq_true_eq, decide_eq_false_iff_not] at hz
              · (conv => whnf); try (refine VSeq.run ?_)
                (conv => whnf); refine ixa ar92 (by omega) (by omega) ?_
                (conv => whnf); refine st1B sti 1 ct4 rfl (by rw [funL_len]; omega) rfl fun I2 sti2 => ?_
                have e0 : 0 + (b : Int).toNat * 1 = b := by omega
                rw [e0] at sti2
                have sti3 : St H I2 (rrF q4 q8 fun a => x.getLsbD a || (decide (lo ≤ a) && decide (a < b + 1))) := by
                  have e2 : (funL fun a => x.getLsbD a || (decide (lo ≤ a) && decide (a < b))).set b (.bool true) = funL fun a => x.getLsbD a || (decide (lo ≤ a) && decide (a < b + 1)) := by
                    rw [fun_set _ (by omega)]
                    refine funL_ext fun a ha => ?_
                    by_cases h : a = b
                    · subst h; rw [if_pos rfl, decide_eq_true (show lo ≤ a by omega), decide_eq_true (show a < a + 1 by omega), Bool.true_and, Bool.or_true]
                    · rw [if_neg h]
                      congr 2
                      exact decide_eq_decide.2 (by omega)
                  have := sti2
                  unfold rrF at this ⊢
                  simp only [List.set_cons_succ, List.set_cons_zero] at this
                  rwa [e2] at this
                (conv => whnf); rw [w64 (x := (b : Int) + 1) (by omega) (by omega)]
                exact ⟨rfl, b + 1, rfl, ⟨by omega, by omega, sti3⟩, by omega⟩
              · obtain rfl : b = lo + 1 := by omega
                rw [rrF_eq (x := x ||| spanS lo lo) (fun a ha => by
                  rw [or_bit, spanS_bit _ _ _ ha]
                  congr 2
                  exact decide_eq_decide.2 (by omega))] at sti
                (conv => whnf)
                exact ⟨rfl, (j1, n, x ||| spanS lo lo), rfl, ⟨by simp only; omega, by simp only; omega, hmn.symm, sti⟩, by simp only; omega⟩
          have d10 : ((bt t j1 : Int) == (45 : Int)) = true := by rw [h45]; rfl
          rw [if_pos h45] at hmn
          (conv => whnf); rw [d10]
          (conv => whnf); rw [w64 (x := (j1 : Int) + 1) (by omega) (by omega)]
          (conv => whnf); refine pures (rsingle_p (i := j1 + 1) (inner := true) ht (by omega)) fun J2 ja2 => ?_
          have stl2 := stl1.call ja2
          unfold sglV
          simp only [if_true]
          cases ho2 : oneM t innS (j1 + 1) with
          | inl e =>
            rw [ho2] at hmn
            rw [hmn] at hrs
            (conv => whnf); refine vbuildA ar92 zeroD zeroD_z (bitsL 0#256) rfl ?_
            (conv => whnf); refine stNB (cs := bitsL 0#256) stl2 0 (szD _) rfl (by simp [bitsL_len]) (onD _) fun Z1 sz1 => ?_
            have bz1 : Blk Z1 q4 92 (bitsL 0#256) := by
              have := sz1.blk 0 rfl
              rwa [splAll (by simp [bitsL_len])] at this
            (conv => whnf); refine ldN (cs := bitsL 0#256) (agD _) (ld_bits bz1) trivial ?_
            exact ⟨sz1.old, by unfold RdAnsD; rw [hrs]; rfl⟩
          | inr p2 =>
            obtain ⟨hi2, j2⟩ := p2
            have hok2 := oneM_ok ho2
            rw [ho2] at hmn
            by_cases hlt : hi2 < lo
            · have d11 : decide ((hi2 : Int) < (lo : Int)) = true := decide_eq_true (by omega)
              simp only [if_pos hlt] at hmn
              rw [hmn] at hrs
              (conv => whnf); rw [d11]
              (conv => whnf); refine vbuildA ar92 zeroD zeroD_z (bitsL 0#256) rfl ?_
              (conv => whnf); refine stNB (cs := bitsL 0#256) stl2 0 (szD _) rfl (by simp [bitsL_len]) (onD _) fun Z1 sz1 => ?_
              have bz1 : Blk Z1 q4 92 (bitsL 0#256) := by
                have := sz1.blk 0 rfl
                rwa [splAll (by simp [bitsL_len])] at this
              (conv => whnf); refine ldN (cs := bitsL 0#256) (agD _) (ld_bits bz1) trivial ?_
              exact ⟨sz1.old, by unfold RdAnsD; rw [hrs]; rfl⟩
            · have d11 : decide ((hi2 : Int) < (lo : Int)) = false := decide_eq_false (by omega)
              simp only [if_neg hlt] at hmn
              (conv => whnf); rw [d11]
              (conv => whnf); rw [w64 (x := (lo : Int)) (by omega) (by omega)]
              (conv => whnf)
              refine VLoop.mk [20] (fun b : Nat => [.int .i64 (b : Int)]) (fun b G => lo ≤ b ∧ b ≤ hi2 + 1 ∧ St H G (rrF q4 q8 fun a => x.getLsbD a || (decide (lo ≤ a) && decide (a < b)))) (fun b _ => hi2 + 1 - b) ?_ ?_
              · (conv => whnf)
                refine ⟨lo, rfl, Nat.le_refl _, by omega, ?_⟩
                rw [rrF_eq (x := x) (fun a ha => by
                  by_cases h : lo ≤ a
                  · rw [decide_eq_false (show ¬ a < lo by omega), Bool.and_false, Bool.or_false]
                  · rw [decide_eq_false h, Bool.false_and, Bool.or_false])]
                exact stl2
              · rintro b I0 junk5 ⟨hb1, hb2, sti⟩
                (conv => whnf); rw [w64 (x := (hi2 : Int)) (by omega) (by omega)]
                (conv => whnf); refine VIte.mk (fun hz => ?_) (fun hz => ?_) <;> simp only [decide_eq_true_eq, decide_eq_false_iff_not] at hz
                · (conv => whnf); try (refine VSeq.run ?_)
                  (conv => whnf); refine ixa ar92 (by omega) (by omega) ?_
                  (conv => whnf); refine st1B sti 1 ct4 rfl (by rw [funL_len]; omega) rfl fun I2 sti2 => ?_
                  have e0 : 0 + (b : Int).toNat * 1 = b := by omega
                  rw [e0] at sti2
                  have sti3 : St H I2 (rrF q4 q8 fun a => x.getLsbD a || (decide (lo ≤ a) && decide (a < b + 1))) := by
                    have e2 : (funL fun a => x.getLsbD a || (decide (lo ≤ a) && decide (a < b))).set b (.bool true) = funL fun a => x.getLsbD a || (decide (lo ≤ a) && decide (a < b + 1)) := by
                      rw [fun_set _ (by omega)]
                      refine funL_ext fun a ha => ?_
                      by_cases h : a = b
                      · subst h; rw [if_pos rfl, decide_eq_true (show lo ≤ a by omega), decide_eq_true (show a < a + 1 by omega), Bool.true_and, Bool.or_true]
                      · rw [if_neg h]
                        congr 2
                        exact decide_eq_decide.2 (by omega)
                    have := sti2
                    unfold rrF at this ⊢
                    simp only [List.set_cons_succ, List.set_cons_zero] at this
                    rwa [e2] at this
                  (conv => whnf); rw [w64 (x := (b : Int) + 1) (by omega) (by omega)]
                  exact ⟨rfl, b + 1, rfl, ⟨by omega, by omega, sti3⟩, by omega⟩
                · obtain rfl : b = hi2 + 1 := by omega
                  rw [rrF_eq (x := x ||| spanS lo hi2) (fun a ha => by
                    rw [or_bit, spanS_bit _ _ _ ha]
                    congr 2
                    exact decide_eq_decide.2 (by omega))] at sti
                  (conv => whnf)
                  exact ⟨rfl, (j2, n, x ||| spanS lo hi2), rfl, ⟨by simp only; omega, by simp only; omega, hmn.symm, sti⟩, by simp only; omega⟩
  obtain ⟨b1, hc1, hc2, hc3⟩ := bt_in hi1
  have d5 : decide ((i : Int) + 1 < (t.size : Int)) = true := decide_eq_true (by omega)
  have d6 : ((bt t (i + 1) : Int) == (94 : Int)) = nt := by
    rw [hnt]
    by_cases h : bt t (i + 1) = 94
    · rw [h]; rfl
    · rw [decide_eq_false h]; exact beq_eq_false_iff_ne.2 (by omega)
  (conv => whnf); rw [d5]
  (conv => whnf); refine vidxs (i := i + 1) rstrT rfl hc1 ?_
  rw [← hc2]
  (conv => whnf); rw [d6]
  (conv => whnf)
  refine VSeq.cut [13] (fun _ : Unit => [.int .i64 ((if nt then i + 1 + 1 else i + 1 : Nat) : Int)]) (fun _ G => St H G (rrP q4 q8 0#256)) ?_ ?_
  · (conv => whnf); refine VIte.mk (fun hn => ?_) (fun hn => ?_)
    · have hn94 : bt t (i + 1) = 94 := by rw [hn] at hnt; exact of_decide_eq_true hnt.symm
      (conv => whnf); rw [w64 (x := (i : Int) + 1 + 1) (by omega) (by omega)]
      exact ⟨rfl, (), by rw [hn]; rfl, st2⟩
    · (conv => whnf)
      exact ⟨rfl, (), by rw [hn]; rfl, st2⟩
  · rintro ⟨⟩ G junk0 stg
    (conv => whnf)
    refine VLoop.mk [13] (fun y : Nat × Nat × BitVec 256 => [.int .i64 (y.1 : Int)]) (fun y G => MemD H t q4 q8 M y G) (fun y _ => t.size - y.1) ?_ ?_
    · (conv => whnf)
      exact ⟨((if nt then i + 1 + 1 else i + 1), t.size + 1, 0#256), rfl, ⟨hle, by simp only; omega, hM.symm, stg⟩⟩
    · rintro ⟨j, n, x⟩ J0 junk1 ⟨hj, hfu, heq, stl⟩
      simp only at hj hfu heq stl
      obtain ⟨n, rfl⟩ : ∃ m, n = m + 1 := ⟨n - 1, by omega⟩
      by_cases hjl : j < t.size
      case neg =>
        have hj0 := bt_out hjl
        have d7 : decide ((j : Int) ≥ (t.size : Int)) = true := decide_eq_true (by omega)
        have ho : oneM t innS j = .inl j := by unfold oneM; rw [hj0, if_neg (by decide), if_pos (.inr (.inl (by decide)))]
        have hmn : M = .inl j := by rw [← heq, memM, if_neg (by omega), ho]
        rw [hmn] at hrs
        (conv => whnf); rw [d7]
        (conv => whnf); try (refine VSeq.run ?_)
        (conv => whnf); refine pures (rsingle_p (i := j) (inner := true) ht hj) fun J1 ja1 => ?_
        have stl1 := stl.call ja1
        unfold sglV
        simp only [if_true]
        rw [ho]
        (conv => whnf); refine vbuildA ar92 zeroD zeroD_z (bitsL 0#256) rfl ?_
        (conv => whnf); refine stNB (cs := bitsL 0#256) stl1 0 (szD _) rfl (by simp [bitsL_len]) (onD _) fun Z1 sz1 => ?_
        have bz1 : Blk Z1 q4 92 (bitsL 0#256) := by
          have := sz1.blk 0 rfl
          rwa [splAll (by simp [bitsL_len])] at this
        (conv => whnf); refine ldN (cs := bitsL 0#256) (agD _) (ld_bits bz1) trivial ?_
        exact ⟨sz1.old, by unfold RdAnsD; rw [hrs]; rfl⟩
      obtain ⟨b5, hb5, hb6, hb7⟩ := bt_in hjl
      have d7 : decide ((j : Int) ≥ (t.size : Int)) = false := decide_eq_false (by omega)
      (conv => whnf); rw [d7]
      (conv => whnf); refine vidxs (i := j) rstrT rfl hb5 ?_
      rw [← hb6]
      by_cases h93 : bt t j = 93
      · have d8 : ((bt t j : Int) != (93 : Int)) = false := by rw [h93]; rfl
        have hmn : M = .inr (x, j + 1) := by rw [← heq, memM, if_pos h93]
        rw [hmn] at hrs
        (conv => whnf); rw [d8]
        (conv => whnf)
        (conv => whnf); try (refine VSeq.run ?_)
        (conv => whnf); refine VIte.mk (fun hn => ?_) (fun hn => ?_)
        · skip
          (conv => whnf); try (refine VSeq.run ?_)
          (conv => whnf)
          refine VLoop.mk [21] (fun k : Nat => [.int .i64 (k : Int)]) (fun k G => k ≤ 256 ∧ St H G (rrF q4 q8 fun b => if b < k then !x.getLsbD b else x.getLsbD b)) (fun k _ => 256 - k) ?_ ?_
          · (conv => whnf)
            exact ⟨0, rfl, by omega, by rw [rrF_eq (x := x) (fun b hb => by rw [if_neg (by omega)])]; exact stl⟩
          · rintro k K0 junk7 ⟨hk, stk⟩
            (conv => whnf); refine VIte.mk (fun hz => ?_) (fun hz => ?_) <;> simp only [decide_eq_true_eq, decide_eq_false_iff_not] at hz
            · (conv => whnf); try (refine VSeq.run ?_)
              (conv => whnf); refine ixa ar92 (by omega) (by omega) ?_
              (conv => whnf); refine ld1 (v := .bool (x.getLsbD k)) ct4 ?_ trivial ?_
              · rw [(stk.blk 1 rfl).cell, show 0 + (k : Int).toNat * 1 = k by omega, funL_get _ (by omega), if_neg (by omega)]
              (conv => whnf); refine ixa ar92 (by omega) (by omega) ?_
              (conv => whnf); refine st1B stk 1 ct4 rfl (by rw [funL_len]; omega) rfl fun K2 stk2 => ?_
              have e0 : 0 + (k : Int).toNat * 1 = k := by omega
              rw [e0] at stk2
              have stk3 : St H K2 (rrF q4 q8 fun b => if b < k + 1 then !x.getLsbD b else x.getLsbD b) := by
                have e2 : (funL fun b => if b < k then !x.getLsbD b else x.getLsbD b).set k (.bool (!x.getLsbD k)) = funL fun b => if b < k + 1 then !x.getLsbD b else x.getLsbD b := by
                  rw [fun_set _ (by omega)]
                  refine funL_ext fun b hb => ?_
                  by_cases h : b = k
                  · subst h; rw [if_pos rfl, if_pos (by omega)]
                  · rw [if_neg h]
                    by_cases h2 : b < k
                    · rw [if_pos h2, if_pos (by omega)]
                    · rw [if_neg h2, if_neg (by omega)]
                have := stk2
                unfold rrF at this ⊢
                simp only [List.set_cons_succ, List.set_cons_zero] at this
                rwa [e2] at this
              (conv => whnf); rw [w64 (x := (k : Int) + 1) (by omega) (by omega)]
              exact ⟨rfl, k + 1, rfl, ⟨by omega, stk3⟩, by omega⟩
            · obtain rfl : k = 256 := by omega
              rw [rrF_eq (x := ~~~x) (fun b hb => by rw [if_pos hb, not_bit _ _ hb])] at stk
              (conv => whnf); refine ldN (cs := bitsL (~~~x)) (agD _) (ld_bits (stk.blk 1 rfl)) trivial ?_
              (conv => whnf); rw [w64 (x := (j : Int) + 1) (by omega) (by omega)]
              (conv => whnf); refine stNB (cs := bitsL (~~~x)) stk 0 (szD _) rfl (by simp [bitsL_len]) (onD _) fun Z1 sz1 => ?_
              have bz1 : Blk Z1 q4 92 (bitsL (~~~x)) := by
                have := sz1.blk 0 rfl
                rwa [splAll (by simp [bitsL_len])] at this
              (conv => whnf); refine ldN (cs := bitsL (~~~x)) (agD _) (ld_bits bz1) trivial ?_
              exact ⟨sz1.old, by unfold RdAnsD; rw [hrs, hn]; rfl⟩
        · skip
          (conv => whnf); try (refine VSeq.run ?_)
          (conv => whnf); refine ldN (cs := bitsL x) (agD _) (ld_bits (stl.blk 1 rfl)) trivial ?_
          (conv => whnf); rw [w64 (x := (j : Int) + 1) (by omega) (by omega)]
          (conv => whnf); refine stNB (cs := bitsL x) stl 0 (szD _) rfl (by simp [bitsL_len]) (onD _) fun Z1 sz1 => ?_
          have bz1 : Blk Z1 q4 92 (bitsL x) := by
            have := sz1.blk 0 rfl
            rwa [splAll (by simp [bitsL_len])] at this
          (conv => whnf); refine ldN (cs := bitsL x) (agD _) (ld_bits bz1) trivial ?_
          exact ⟨sz1.old, by unfold RdAnsD; rw [hrs, hn]; rfl⟩
      have d8 : ((bt t j : Int) != (93 : Int)) = true := by rw [bne_iff_ne]; omega
      (conv => whnf); rw [d8]
      (conv => whnf); try (refine VSeq.run ?_)
      (conv => whnf); refine pures (rsingle_p (i := j) (inner := true) ht hj) fun J1 ja1 => ?_
      have stl1 := stl.call ja1
      unfold sglV
      simp only [if_true]
      cases ho : oneM t innS j with
      | inl e =>
        have hmn : M = .inl e := by rw [← heq, memM, if_neg h93, ho]
        rw [hmn] at hrs
        (conv => whnf); refine vbuildA ar92 zeroD zeroD_z (bitsL 0#256) rfl ?_
        (conv => whnf); refine stNB (cs := bitsL 0#256) stl1 0 (szD _) rfl (by simp [bitsL_len]) (onD _) fun Z1 sz1 => ?_
        have bz1 : Blk Z1 q4 92 (bitsL 0#256) := by
          have := sz1.blk 0 rfl
          rwa [splAll (by simp [bitsL_len])] at this
        (conv => whnf); refine ldN (cs := bitsL 0#256) (agD _) (ld_bits bz1) trivial ?_
        exact ⟨sz1.old, by unfold RdAnsD; rw [hrs]; rfl⟩
      | inr p =>
        obtain ⟨lo, j1⟩ := p
        have hok := oneM_ok ho
        have hmn : M = dashM t lo j1 x (memM t n) := by rw [← heq, memM, if_neg h93, ho]
        unfold dashM at hmn
        by_cases hj1 : j1 < t.size
        case neg =>
          have h256 := bt_out hj1
          have d9 : decide ((j1 : Int) < (t.size : Int)) = false := decide_eq_false (by omega)
          rw [if_neg (by omega)] at hmn
          (conv => whnf); try (refine VSeq.run ?_)
          (conv => whnf); rw [d9]
          (conv => whnf); rw [w64 (x := (lo : Int)) (by omega) (by omega)]
          (conv => whnf)
          refine VLoop.mk [20] (fun b : Nat => [.int .i64 (b : Int)]) (fun b G => lo ≤ b ∧ b ≤ lo + 1 ∧ St H G (rrF q4 q8 fun a => x.getLsbD a || (decide (lo ≤ a) && decide (a < b)))) (fun b _ => lo + 1 - b) ?_ ?_
          · (conv => whnf)
            refine ⟨lo, rfl, Nat.le_refl _, by omega, ?_⟩
            rw [rrF_eq (x := x) (fun a ha => by
              by_cases h : lo ≤ a
              · rw [decide_eq_false (show ¬ a < lo by omega), Bool.and_false, Bool.or_false]
              · rw [decide_eq_false h, Bool.false_and, Bool.or_false])]
            exact stl1
          · rintro b I0 junk5 ⟨hb1, hb2, sti⟩
            (conv => whnf); rw [w64 (x := (lo : Int)) (by omega) (by omega)]
            (conv => whnf); refine VIte.mk (fun hz => ?_) (fun hz => ?_) <;> simp only [decide_eq_true_eq, decide_eq_false_iff_not] at hz
            · (conv => whnf); try (refine VSeq.run ?_)
              (conv => whnf); refine ixa ar92 (by omega) (by omega) ?_
              (conv => whnf); refine st1B sti 1 ct4 rfl (by rw [funL_len]; omega) rfl fun I2 sti2 => ?_
              have e0 : 0 + (b : Int).toNat * 1 = b := by omega
              rw [e0] at sti2
              have sti3 : St H I2 (rrF q4 q8 fun a => x.getLsbD a || (decide (lo ≤ a) && decide (a < b + 1))) := by
                have e2 : (funL fun a => x.getLsbD a || (decide (lo ≤ a) && decide (a < b))).set b (.bool true) = funL fun a => x.getLsbD a || (decide (lo ≤ a) && decide (a < b + 1)) := by
                  rw [fun_set _ (by omega)]
                  refine funL_ext fun a ha => ?_
                  by_cases h : a = b
                  · subst h; rw [if_pos rfl, decide_eq_true (show lo ≤ a by omega), decide_eq_true (show a < a + 1 by omega), Bool.true_and, Bool.or_true]
                  · rw [if_neg h]
                    congr 2
                    exact decide_eq_decide.2 (by omega)
                have := sti2
                unfold rrF at this ⊢
                simp only [List.set_cons_succ, List.set_cons_zero] at this
                rwa [e2] at this
              (conv => whnf); rw [w64 (x := (b : Int) + 1) (by omega) (by omega)]
              exact ⟨rfl, b + 1, rfl, ⟨by omega, by omega, sti3⟩, by omega⟩
            · obtain rfl : b = lo + 1 := by omega
              rw [rrF_eq (x := x ||| spanS lo lo) (fun a ha => by
                rw [or_bit, spanS_bit _ _ _ ha]
                congr 2
                exact decide_eq_decide.2 (by omega))] at sti
              (conv => whnf)
              exact ⟨rfl, (j1, n, x ||| spanS lo lo), rfl, ⟨by simp only; omega, by simp only; omega, hmn.symm, sti⟩, by simp only; omega⟩
        obtain ⟨b8, hb8, hb9, hb10⟩ := bt_in hj1
        have d9 : decide ((j1 : Int) < (t.size : Int)) = true := decide_eq_true (by omega)
        (conv => whnf); try (refine VSeq.run ?_)
        (conv => whnf); rw [d9]
        (conv => whnf); refine vidxs (i := j1) rstrT rfl hb8 ?_
        rw [← hb9]
        by_cases h45 : bt t j1 = 45
        case neg =>
          have d10 : ((bt t j1 : Int) == (45 : Int)) = false := beq_eq_false_iff_ne.2 (by omega)
          rw [if_neg h45] at hmn
          (conv => whnf); rw [d10]
          (conv => whnf); rw [w64 (x := (lo : Int)) (by omega) (by omega)]
          (conv => whnf)
          refine VLoop.mk [20] (fun b : Nat => [.int .i64 (b : Int)]) (fun b G => lo ≤ b ∧ b ≤ lo + 1 ∧ St H G (rrF q4 q8 fun a => x.getLsbD a || (decide (lo ≤ a) && decide (a < b)))) (fun b _ => lo + 1 - b) ?_ ?_
          · (conv => whnf)
            refine ⟨lo, rfl, Nat.le_refl _, by omega, ?_⟩
            rw [rrF_eq (x := x) (fun a ha => by
              by_cases h : lo ≤ a
              · rw [decide_eq_false (show ¬ a < lo by omega), Bool.and_false, Bool.or_false]
              · rw [decide_eq_false h, Bool.false_and, Bool.or_false])]
            exact stl1
          · rintro b I0 junk5 ⟨hb1, hb2, sti⟩
            (conv => whnf); rw [w64 (x := (lo : Int)) (by omega) (by omega)]
            (conv => whnf); refine VIte.mk (fun hz => ?_) (fun hz => ?_) <;> simp only [decide_eq_true_eq, decide_eq_false_iff_not] at hz
            · (conv => whnf); try (refine VSeq.run ?_)
              (conv => whnf); refine ixa ar92 (by omega) (by omega) ?_
              (conv => whnf); refine st1B sti 1 ct4 rfl (by rw [funL_len]; omega) rfl fun I2 sti2 => ?_
              have e0 : 0 + (b : Int).toNat * 1 = b := by omega
              rw [e0] at sti2
              have sti3 : St H I2 (rrF q4 q8 fun a => x.getLsbD a || (decide (lo ≤ a) && decide (a < b + 1))) := by
                have e2 : (funL fun a => x.getLsbD a || (decide (lo ≤ a) && decide (a < b))).set b (.bool true) = funL fun a => x.getLsbD a || (decide (lo ≤ a) && decide (a < b + 1)) := by
                  rw [fun_set _ (by omega)]
                  refine funL_ext fun a ha => ?_
                  by_cases h : a = b
                  · subst h; rw [if_pos rfl, decide_eq_true (show lo ≤ a by omega), decide_eq_true (show a < a + 1 by omega), Bool.true_and, Bool.or_true]
                  · rw [if_neg h]
                    congr 2
                    exact decide_eq_decide.2 (by omega)
                have := sti2
                unfold rrF at this ⊢
                simp only [List.set_cons_succ, List.set_cons_zero] at this
                rwa [e2] at this
              (conv => whnf); rw [w64 (x := (b : Int) + 1) (by omega) (by omega)]
              exact ⟨rfl, b + 1, rfl, ⟨by omega, by omega, sti3⟩, by omega⟩
            · obtain rfl : b = lo + 1 := by omega
              rw [rrF_eq (x := x ||| spanS lo lo) (fun a ha => by
                rw [or_bit, spanS_bit _ _ _ ha]
                congr 2
                exact decide_eq_decide.2 (by omega))] at sti
              (conv => whnf)
              exact ⟨rfl, (j1, n, x ||| spanS lo lo), rfl, ⟨by simp only; omega, by simp only; omega, hmn.symm, sti⟩, by simp only; omega⟩
        have d10 : ((bt t j1 : Int) == (45 : Int)) = true := by rw [h45]; rfl
        rw [if_pos h45] at hmn
        (conv => whnf); rw [d10]
        (conv => whnf); rw [w64 (x := (j1 : Int) + 1) (by omega) (by omega)]
        (conv => whnf); refine pures (rsingle_p (i := j1 + 1) (inner := true) ht (by omega)) fun J2 ja2 => ?_
        have stl2 := stl1.call ja2
        unfold sglV
        simp only [if_true]
        cases ho2 : oneM t innS (j1 + 1) with
        | inl e =>
          rw [ho2] at hmn
          rw [hmn] at hrs
          (conv => whnf); refine vbuildA ar92 zeroD zeroD_z (bitsL 0#256) rfl ?_
          (conv => whnf); refine stNB (cs := bitsL 0#256) stl2 0 (szD _) rfl (by simp [bitsL_len]) (onD _) fun Z1 sz1 => ?_
          have bz1 : Blk Z1 q4 92 (bitsL 0#256) := by
            have := sz1.blk 0 rfl
            rwa [splAll (by simp [bitsL_len])] at this
          (conv => whnf); refine ldN (cs := bitsL 0#256) (agD _) (ld_bits bz1) trivial ?_
          exact ⟨sz1.old, by unfold RdAnsD; rw [hrs]; rfl⟩
        | inr p2 =>
          obtain ⟨hi2, j2⟩ := p2
          have hok2 := oneM_ok ho2
          rw [ho2] at hmn
          by_cases hlt : hi2 < lo
          · have d11 : decide ((hi2 : Int) < (lo : Int)) = true := decide_eq_true (by omega)
            simp only [if_pos hlt] at hmn
            rw [hmn] at hrs
            (conv => whnf); rw [d11]
            (conv => whnf); refine vbuildA ar92 zeroD zeroD_z (bitsL 0#256) rfl ?_
            (conv => whnf); refine stNB (cs := bitsL 0#256) stl2 0 (szD _) rfl (by simp [bitsL_len]) (onD _) fun Z1 sz1 => ?_
            have bz1 : Blk Z1 q4 92 (bitsL 0#256) := by
              have := sz1.blk 0 rfl
              rwa [splAll (by simp [bitsL_len])] at this
            (conv => whnf); refine ldN (cs := bitsL 0#256) (agD _) (ld_bits bz1) trivial ?_
            exact ⟨sz1.old, by unfold RdAnsD; rw [hrs]; rfl⟩
          · have d11 : decide ((hi2 : Int) < (lo : Int)) = false := decide_eq_false (by omega)
            simp only [if_neg hlt] at hmn
            (conv => whnf); rw [d11]
            (conv => whnf); rw [w64 (x := (lo : Int)) (by omega) (by omega)]
            (conv => whnf)
            refine VLoop.mk [20] (fun b : Nat => [.int .i64 (b : Int)]) (fun b G => lo ≤ b ∧ b ≤ hi2 + 1 ∧ St H G (rrF q4 q8 fun a => x.getLsbD a || (decide (lo ≤ a) && decide (a < b)))) (fun b _ => hi2 + 1 - b) ?_ ?_
            · (conv => whnf)
              refine ⟨lo, rfl, Nat.le_refl _, by omega, ?_⟩
              rw [rrF_eq (x := x) (fun a ha => by
                by_cases h : lo ≤ a
                · rw [decide_eq_false (show ¬ a < lo by omega), Bool.and_false, Bool.or_false]
                · rw [decide_eq_false h, Bool.false_and, Bool.or_false])]
              exact stl2
            · rintro b I0 junk5 ⟨hb1, hb2, sti⟩
              (conv => whnf); rw [w64 (x := (hi2 : Int)) (by omega) (by omega)]
              (conv => whnf); refine VIte.mk (fun hz => ?_) (fun hz => ?_) <;> simp only [decide_eq_true_eq, decide_eq_false_iff_not] at hz
              · (conv => whnf); try (refine VSeq.run ?_)
                (conv => whnf); refine ixa ar92 (by omega) (by omega) ?_
                (conv => whnf); refine st1B sti 1 ct4 rfl (by rw [funL_len]; omega) rfl fun I2 sti2 => ?_
                have e0 : 0 + (b : Int).toNat * 1 = b := by omega
                rw [e0] at sti2
                have sti3 : St H I2 (rrF q4 q8 fun a => x.getLsbD a || (decide (lo ≤ a) && decide (a < b + 1))) := by
                  have e2 : (funL fun a => x.getLsbD a || (decide (lo ≤ a) && decide (a < b))).set b (.bool true) = funL fun a => x.getLsbD a || (decide (lo ≤ a) && decide (a < b + 1)) := by
                    rw [fun_set _ (by omega)]
                    refine funL_ext fun a ha => ?_
                    by_cases h : a = b
                    · subst h; rw [if_pos rfl, decide_eq_true (show lo ≤ a by omega), decide_eq_true (show a < a + 1 by omega), Bool.true_and, Bool.or_true]
                    · rw [if_neg h]
                      congr 2
                      exact decide_eq_decide.2 (by omega)
                  have := sti2
                  unfold rrF at this ⊢
                  simp only [List.set_cons_succ, List.set_cons_zero] at this
                  rwa [e2] at this
                (conv => whnf); rw [w64 (x := (b : Int) + 1) (by omega) (by omega)]
                exact ⟨rfl, b + 1, rfl, ⟨by omega, by omega, sti3⟩, by omega⟩
              · obtain rfl : b = hi2 + 1 := by omega
                rw [rrF_eq (x := x ||| spanS lo hi2) (fun a ha => by
                  rw [or_bit, spanS_bit _ _ _ ha]
                  congr 2
                  exact decide_eq_decide.2 (by omega))] at sti
                (conv => whnf)
                exact ⟨rfl, (j2, n, x ||| spanS lo hi2), rfl, ⟨by simp only; omega, by simp only; omega, hmn.symm, sti⟩, by simp only; omega⟩
end Go.Proofs.YtlnmhfhdjnenoaaGreatDoor
/- regex.scanner: ended, next, fail, number: the walks. -/
set_option linter.unusedVariables false
set_option linter.unusedSimpArgs false
set_option maxRecDepth 100000
namespace Go.Proofs.YtlnmhfhdjnenoaaGreatDoor
open Go.VC Go.Lib
abbrev scL (t : ByteArray) (i : Nat) (ov : Value) : List Value := [.string t, .int .i64 (i : Int), ov]
abbrev pSc (s : Nat) (t : ByteArray) (i : Nat) (ov : Value) : Pc := pB 74 s (scL t i ov)
theorem ended_p {H : Heap} {s i : Nat} {t : ByteArray} {ov : Value} (hb : Blk H s 74 (scL t i ov)) : Pure Tryz.prog 26 #[.pointer (some ⟨s, 0, none⟩)] H (.bool (decide (t.size ≤ i))) := by
  refine FnOk.of_vc Tryz.func26 rfl (Tryz.call26 _) ?_
  (conv => whnf); refine VDraw.lex rfl (by kernel_rfl) ?_
  (conv => whnf); refine VC.fa fl74_1 ?_
  (conv => whnf); refine ld1 (v := .int .i64 (i : Int)) ct3 (by rw [hb.cell]; rfl) trivial ?_
  (conv => whnf); refine VC.fa fl74_0 ?_
  (conv => whnf); refine ld1 (v := .string t) ct9 (by rw [hb.cell]; rfl) trivial ?_
  (conv => whnf)
  refine ⟨?_, Agr.refl _ _⟩
  congr 1
  rw [decide_eq_decide]
  omega
theorem scnext_p {H : Heap} {s i : Nat} {t : ByteArray} {ov : Value} (hb : Blk H s 74 (scL t i ov)) (hi : i < t.size) : Pure Tryz.prog 51 #[.pointer (some ⟨s, 0, none⟩)] H (.int .u8 (bt t i : Int)) := by
  refine FnOk.of_vc Tryz.func51 rfl (Tryz.call51 _) ?_
  (conv => whnf); refine VDraw.lex rfl (by kernel_rfl) ?_
  (conv => whnf); refine VC.fa fl74_1 ?_
  (conv => whnf); refine ld1 (v := .int .i64 (i : Int)) ct3 (by rw [hb.cell]; rfl) trivial ?_
  (conv => whnf); refine VC.fa fl74_0 ?_
  (conv => whnf); refine ld1 (v := .string t) ct9 (by rw [hb.cell]; rfl) trivial ?_
  obtain ⟨b, h1, h2, h3⟩ := bt_in hi
  have d1 : decide ((i : Int) < (t.size : Int)) = true := decide_eq_true (by omega)
  (conv => whnf); rw [d1]
  (conv => whnf); refine VDraw.lex rfl (by kernel_rfl) ?_
  (conv => whnf); refine VC.fa fl74_0 ?_
  (conv => whnf); refine ld1 (v := .string t) ct9 (by rw [hb.cell]; rfl) trivial ?_
  (conv => whnf); refine VC.fa fl74_1 ?_
  (conv => whnf); refine ld1 (v := .int .i64 (i : Int)) ct3 (by rw [hb.cell]; rfl) trivial ?_
  (conv => whnf); refine vidxs rstrT rfl h1 ?_
  (conv => whnf)
  refine ⟨?_, Agr.refl _ _⟩
  rw [h2]
theorem sfail_p {H : Heap} {s c e : Nat} : FnOkP Tryz.prog 27 #[.pointer (some ⟨s, 0, none⟩), .int .i64 (c : Int), .int .i64 (e : Int)] H (fun _ _ => False) (fun x H' => x = faultV c e ∧ H' = H) := by
  refine FnOkP.of_vc Tryz.func27 rfl (Tryz.call27 _) ?_
  (conv => whnf); refine vbuildS Tryz.underlying27 rfl _ rfl [.int .i64 (c : Int), .int .i64 (e : Int), .string ⟨#[]⟩] rfl ?_
  (conv => whnf)
  exact ⟨rfl, rfl⟩
set_option maxHeartbeats 4000000 in
theorem scnum_p {B : Nat → Prop} {H : Heap} {ps : List Pc} {k s i : Nat} {t : ByteArray} {ov : Value} (ht : t.size ≤ 1152921504606846976) (hi : i ≤ t.size) (st : StB B H H ps) (hp : ps[k]? = some (pSc s t i ov)) :
    FnOkP Tryz.prog 125 #[.pointer (some ⟨s, 0, none⟩)] H (fun v H' => digB t i = true ∧ v = .int .i64 (((numM t 3 i 0).1 : Nat) : Int) ∧ StB B H H' (ps.set k (pSc s t (numM t 3 i 0).2 ov)))
      (fun x H' => digB t i = false ∧ x = faultV 20 i ∧ Agr B H H') := by
  refine FnOkP.of_vc Tryz.func125 rfl (Tryz.call125 _) ?_
  (conv => whnf); refine VDrawP.of (VDraw.lex rfl (by kernel_rfl) ?_)
  (conv => whnf); refine VC.fa fl74_1 ?_
  (conv => whnf); refine ld1 (v := .int .i64 (i : Int)) ct3 (by rw [(st.blk k hp).cell]; rfl) trivial ?_
  (conv => whnf)
  refine VLoopP.mk [3] (fun x : Nat × Nat => match x with | (_, v) => [.int .i64 (v : Int)]) (fun x G => match x with | (n, v) => n ≤ 3 ∧ v < 10 ^ n ∧ numM t 3 i 0 = numM t (3 - n) (i + n) v ∧ (n = 0 ∨ digB t i = true) ∧ StB B H G (ps.set k (pSc s t (i + n) ov))) (fun x _ => match x with | (n, _) => 3 - n) ?_ ?_
  · (conv => whnf)
    exact ⟨(0, 0), rfl, by omega, by decide, rfl, .inl rfl, by rw [Nat.add_zero, set_self hp]; exact st⟩
  · rintro ⟨n, v⟩ G junk ⟨hn, hv, hm, hd, stg⟩
    have hpg : (ps.set k (pSc s t (i + n) ov))[k]? = some (pSc s t (i + n) ov) := set_get hp
    -- the loop
    have out : (n = 3 ∨ digB t (i + n) = false) → numM t 3 i 0 = (v, i + n) := fun h => by
      rw [hm]
      rcases h with rfl | h
      · rfl
      · cases h3 : 3 - n with
        | zero => rfl
        | succ m => unfold numM; rw [h]; rfl
    (conv => whnf); refine VCallP.of (pures (ended_p (stg.blk k hpg)) fun G1 ha1 => ?_)
    have st1 := stg.call ha1
    by_cases h0 : i + n < t.size
    · obtain ⟨b0, -, -, hb3⟩ := bt_in h0
      rw [decide_eq_false (show ¬ t.size ≤ i + n by omega)]
      (conv => whnf); refine VC.fa fl74_1 ?_
      (conv => whnf); refine ld1 (v := .int .i64 ((i + n : Nat) : Int)) ct3 (by rw [(st1.blk k hpg).cell]; rfl) trivial ?_
      (conv => whnf); rw [w64 (x := (i : Int) + 3) (by omega) (by omega)]
      by_cases h1 : n = 3
      · have d1 : decide (((i + n : Nat) : Int) < (i : Int) + 3) = false := decide_eq_false (by omega)
        (conv => whnf); rw [d1]
        (conv => whnf); refine VSeqP.run ?_
        (conv => whnf); refine VC.fa fl74_1 ?_
        (conv => whnf); refine ld1 (v := .int .i64 ((i + n : Nat) : Int)) ct3 (by rw [(st1.blk k hpg).cell]; rfl) trivial ?_
        have hr := out (.inl h1)
        by_cases hn0 : n = 0
        · have d9 : (((i + n : Nat) : Int) == (i : Int)) = true := by rw [hn0]; exact beq_self_eq_true _
          (conv => whnf); rw [d9]
          (conv => whnf); refine VC.fa fl74_1 ?_
          (conv => whnf); refine ld1 (v := .int .i64 ((i + n : Nat) : Int)) ct3 (by rw [(st1.blk k hpg).cell]; rfl) trivial ?_
          (conv => whnf); refine VCallP.mk (sfail_p (c := 20) (e := i + n)) (fun _ _ h => h.elim) ?_
          rintro _ _ ⟨rfl, rfl⟩
          subst hn0
          exact ⟨by rcases (.inl h1 : 0 = 3 ∨ digB t (i + 0) = false) with h | h
                    · omega
                    · exact h, rfl, st1.old⟩
        · have d9 : (((i + n : Nat) : Int) == (i : Int)) = false := beq_eq_false_iff_ne.2 (by omega)
          (conv => whnf); rw [d9]
          (conv => whnf)
          rw [hr]
          exact ⟨hd.resolve_left hn0, rfl, st1⟩
      · have d1 : decide (((i + n : Nat) : Int) < (i : Int) + 3) = true := decide_eq_true (by omega)
        (conv => whnf); rw [d1]
        (conv => whnf); refine VCallP.of (pures (scnext_p (st1.blk k hpg) h0) fun G2 ha2 => ?_)
        have st2 := st1.call ha2
        by_cases h2 : 48 ≤ bt t (i + n)
        · have d2 : decide (((bt t (i + n) : Nat) : Int) ≥ 48) = true := decide_eq_true (by omega)
          have d2' : decide (48 ≤ ((bt t (i + n) : Nat) : Int)) = true := d2
          (conv => whnf); rw [d2']
          (conv => whnf); refine VCallP.of (pures (scnext_p (st2.blk k hpg) h0) fun G3 ha3 => ?_)
          have st3 := st2.call ha3
          by_cases h3 : bt t (i + n) ≤ 57
          · have d3 : decide (((bt t (i + n) : Nat) : Int) ≤ 57) = true := decide_eq_true (by omega)
            have hdg : digB t (i + n) = true := decide_eq_true ⟨h2, h3⟩
            (conv => whnf); rw [d3]
            (conv => whnf); refine VCallP.of (pures (scnext_p (st3.blk k hpg) h0) fun G4 ha4 => ?_)
            have st4 := st3.call ha4
            (conv => whnf); rw [w64 (x := 10 * (v : Int)) (by have : v < 1000 := Nat.lt_of_lt_of_le hv (Nat.pow_le_pow_right (by omega) hn); omega) (by have : v < 1000 := Nat.lt_of_lt_of_le hv (Nat.pow_le_pow_right (by omega) hn); omega)]
            (conv => whnf); rw [w8 (x := ((bt t (i + n) : Nat) : Int) - 48) (by omega) (by omega)]
            (conv => whnf); rw [w64 (x := ((bt t (i + n) : Nat) : Int) - 48) (by omega) (by omega)]
            (conv => whnf); rw [w64 (x := 10 * (v : Int) + (((bt t (i + n) : Nat) : Int) - 48)) (by omega) (by have : v < 1000 := Nat.lt_of_lt_of_le hv (Nat.pow_le_pow_right (by omega) hn); omega)]
            (conv => whnf); refine VC.fa fl74_1 ?_
            (conv => whnf); refine ld1 (v := .int .i64 ((i + n : Nat) : Int)) ct3 (by rw [(st4.blk k hpg).cell]; rfl) trivial ?_
            (conv => whnf); rw [w64 (x := ((i + n : Nat) : Int) + 1) (by omega) (by omega)]
            (conv => whnf); refine VC.fa fl74_1 ?_
            (conv => whnf); refine st1B st4 k ct3 hpg (by simp) rfl fun G5 st5 => ?_
            refine ⟨rfl, (n + 1, 10 * v + (bt t (i + n) - 48)), ?_, ⟨by omega, ?_, ?_, .inr ?_, ?_⟩, by show 3 - (n + 1) < 3 - n; omega⟩
            · show [Value.int .i64 (10 * (v : Int) + (((bt t (i + n) : Nat) : Int) - 48))] = [.int .i64 ((10 * v + (bt t (i + n) - 48) : Nat) : Int)]
              congr 2; omega
            · rw [Nat.pow_succ]; omega
            · rw [hm, show 3 - n = (3 - (n + 1)) + 1 by omega, numM, hdg]; rfl
            · rcases hd with rfl | hd
              · exact hdg
              · exact hd
            · rw [List.set_set] at st5; exact st5
          · have d3 : decide (((bt t (i + n) : Nat) : Int) ≤ 57) = false := decide_eq_false (by omega)
            (conv => whnf); rw [d3]
            (conv => whnf); refine VSeqP.run ?_
            (conv => whnf); refine VC.fa fl74_1 ?_
            (conv => whnf); refine ld1 (v := .int .i64 ((i + n : Nat) : Int)) ct3 (by rw [(st3.blk k hpg).cell]; rfl) trivial ?_
            have hr := out (.inr (decide_eq_false fun h => h3 h.2))
            by_cases hn0 : n = 0
            · have d9 : (((i + n : Nat) : Int) == (i : Int)) = true := by rw [hn0]; exact beq_self_eq_true _
              (conv => whnf); rw [d9]
              (conv => whnf); refine VC.fa fl74_1 ?_
              (conv => whnf); refine ld1 (v := .int .i64 ((i + n : Nat) : Int)) ct3 (by rw [(st3.blk k hpg).cell]; rfl) trivial ?_
              (conv => whnf); refine VCallP.mk (sfail_p (c := 20) (e := i + n)) (fun _ _ h => h.elim) ?_
              rintro _ _ ⟨rfl, rfl⟩
              subst hn0
              exact ⟨by rcases (.inr (decide_eq_false fun h => h3 h.2) : 0 = 3 ∨ digB t (i + 0) = false) with h | h
                        · omega
                        · exact h, rfl, st3.old⟩
            · have d9 : (((i + n : Nat) : Int) == (i : Int)) = false := beq_eq_false_iff_ne.2 (by omega)
              (conv => whnf); rw [d9]
              (conv => whnf)
              rw [hr]
              exact ⟨hd.resolve_left hn0, rfl, st3⟩
        · have d2' : decide (48 ≤ ((bt t (i + n) : Nat) : Int)) = false := decide_eq_false (by omega)
          (conv => whnf); rw [d2']
          (conv => whnf); refine VSeqP.run ?_
          (conv => whnf); refine VC.fa fl74_1 ?_
          (conv => whnf); refine ld1 (v := .int .i64 ((i + n : Nat) : Int)) ct3 (by rw [(st2.blk k hpg).cell]; rfl) trivial ?_
          have hr := out (.inr (decide_eq_false fun h => h2 h.1))
          by_cases hn0 : n = 0
          · have d9 : (((i + n : Nat) : Int) == (i : Int)) = true := by rw [hn0]; exact beq_self_eq_true _
            (conv => whnf); rw [d9]
            (conv => whnf); refine VC.fa fl74_1 ?_
            (conv => whnf); refine ld1 (v := .int .i64 ((i + n : Nat) : Int)) ct3 (by rw [(st2.blk k hpg).cell]; rfl) trivial ?_
            (conv => whnf); refine VCallP.mk (sfail_p (c := 20) (e := i + n)) (fun _ _ h => h.elim) ?_
            rintro _ _ ⟨rfl, rfl⟩
            subst hn0
            exact ⟨by rcases (.inr (decide_eq_false fun h => h2 h.1) : 0 = 3 ∨ digB t (i + 0) = false) with h | h
                      · omega
                      · exact h, rfl, st2.old⟩
          · have d9 : (((i + n : Nat) : Int) == (i : Int)) = false := beq_eq_false_iff_ne.2 (by omega)
            (conv => whnf); rw [d9]
            (conv => whnf)
            rw [hr]
            exact ⟨hd.resolve_left hn0, rfl, st2⟩
    · rw [decide_eq_true (show t.size ≤ i + n by omega)]
      (conv => whnf); refine VSeqP.run ?_
      (conv => whnf); refine VC.fa fl74_1 ?_
      (conv => whnf); refine ld1 (v := .int .i64 ((i + n : Nat) : Int)) ct3 (by rw [(st1.blk k hpg).cell]; rfl) trivial ?_
      have hr := out (.inr (decide_eq_false fun h => by have := bt_out h0; omega))
      by_cases hn0 : n = 0
      · have d9 : (((i + n : Nat) : Int) == (i : Int)) = true := by rw [hn0]; exact beq_self_eq_true _
        (conv => whnf); rw [d9]
        (conv => whnf); refine VC.fa fl74_1 ?_
        (conv => whnf); refine ld1 (v := .int .i64 ((i + n : Nat) : Int)) ct3 (by rw [(st1.blk k hpg).cell]; rfl) trivial ?_
        (conv => whnf); refine VCallP.mk (sfail_p (c := 20) (e := i + n)) (fun _ _ h => h.elim) ?_
        rintro _ _ ⟨rfl, rfl⟩
        subst hn0
        exact ⟨by rcases (.inr (decide_eq_false fun h => by have := bt_out h0; omega) : 0 = 3 ∨ digB t (i + 0) = false) with h | h
                  · omega
                  · exact h, rfl, st1.old⟩
      · have d9 : (((i + n : Nat) : Int) == (i : Int)) = false := beq_eq_false_iff_ne.2 (by omega)
        (conv => whnf); rw [d9]
        (conv => whnf)
        rw [hr]
        exact ⟨hd.resolve_left hn0, rfl, st1⟩
end Go.Proofs.YtlnmhfhdjnenoaaGreatDoor
/- regex.scanner: braces, repeats: the walks. -/
set_option linter.unusedVariables false
set_option linter.unusedSimpArgs false
set_option maxRecDepth 100000
namespace Go.Proofs.YtlnmhfhdjnenoaaGreatDoor
open Go.VC Go.Lib
theorem setk {ps l : List Pc} {k : Nat} {p q r : Pc} (hp : ps[k]? = some p) : (ps.set k q ++ l).set k r = ps.set k r ++ l := by
  rw [lsL (set_get hp), List.set_set]
theorem getk {ps l : List Pc} {k : Nat} {p q : Pc} (hp : ps[k]? = some p) : (ps.set k q ++ l)[k]? = some q := lgL (set_get hp)
/-- A rule that was made, and the scanner moved on. -/
structure SRuleR (B : Nat → Prop) (H : Heap) (ps : List Pc) (k s : Nat) (t : ByteArray) (j : Nat) (ov : Value) (r : ReM) (v : Value) (H' : Heap) : Prop where
  ex : ∃ (B' : Nat → Prop) (fn : Value), v = .agg (ruleL r fn).toArray ∧ (∀ k, B k → B' k) ∧ Agr B H H' ∧ StB B' H' H' (ps.set k (pSc s t j ov)) ∧ GrowV B' H' fn r
theorem nofl {c d : Nat} (h : c ≠ d) : ((c : Int) == (d : Int)) = false := beq_eq_false_iff_ne.2 (by omega)
set_option maxHeartbeats 8000000 in
theorem braces_c {B : Nat → Prop} {H : Heap} {ps : List Pc} {k s i : Nat} {t : ByteArray} {ov : Value} {a : ReM} {va : Value} (ht : t.size ≤ 1152921504606846) (hc : bt t i = 123) (st : StB B H H ps) (hp : ps[k]? = some (pSc s t i ov)) (ga : GrowV B H va a) :
    FnOkP Tryz.prog 111 #[.pointer (some ⟨s, 0, none⟩), .agg (ruleL a va).toArray] H (fun v H' => ∃ m n j, bracesM t i = .inr (m, n, j) ∧ SRuleR B H ps k s t j ov (repR a m n) v H')
      (fun x H' => ∃ c p : Nat, bracesM t i = .inl (c, p) ∧ x = faultV c p ∧ Agr B H H') := by
  have hi : i < t.size := bt_lt (by omega)
  obtain ⟨g1, c1, rfl⟩ := ga.fn
  refine FnOkP.of_vc Tryz.func111 rfl (Tryz.call111 _) ?_
  (conv => whnf); refine vbox (ruleL a (.func (.func g1) #[] c1)) rfl ?_
  intro q1 H1 hq1 hs1 hb1 ha1
  have st1 := st.box hq1 hs1 hb1 ha1
  (conv => whnf); refine valloc (.agg rule0.toArray) rule0 rule_z rfl ?_
  intro q2 H2 hq2 hs2 hb2 ha2
  have st2 := st1.box hq2 hs2 hb2 ha2
  rw [List.append_assoc] at st2
  replace st2 : StB B H H2 (ps ++ [pB 77 q1 (ruleL a (.func (.func g1) #[] c1)), pB 77 q2 rule0]) := st2
  have hp2 : (ps ++ [pB 77 q1 (ruleL a (.func (.func g1) #[] c1)), pB 77 q2 rule0])[k]? = some (pSc s t i ov) := lgL hp
  (conv => whnf); refine VC.fa fl74_1 ?_
  (conv => whnf); refine ld1 (v := .int .i64 ((i : Nat) : Int)) ct3 (by rw [(st2.blk k hp2).cell]; rfl) trivial ?_
  (conv => whnf); refine VC.fa fl74_1 ?_
  (conv => whnf); refine ld1 (v := .int .i64 ((i : Nat) : Int)) ct3 (by rw [(st2.blk k hp2).cell]; rfl) trivial ?_
  (conv => whnf); rw [w64 (x := ((i : Nat) : Int) + 1) (by omega) (by omega)]
  (conv => whnf); refine VC.fa fl74_1 ?_
  (conv => whnf); refine st1B st2 k ct3 hp2 (by simp) rfl fun H3 st3 => ?_
  rw [lsL hp] at st3
  replace st3 : StB B H H3 (ps.set k (pSc s t (i + 1) ov) ++ [pB 77 q1 (ruleL a (.func (.func g1) #[] c1)), pB 77 q2 rule0]) := st3
  have a3 := st3.old
  (conv => whnf); refine VCallP.mk (scnum_p (by omega) (by omega) st3.rebase (getk hp)) ?_ ?_
  rotate_left
  · rintro _ H4 ⟨hd, rfl, a4⟩
    exact ⟨20, i + 1, by unfold bracesM; rw [hd]; rfl, rfl, a3.trans a4⟩
  rintro _ H4 ⟨hd, rfl, st4⟩
  have a4 := a3.trans st4.old
  rw [setk hp] at st4
  replace st4 := st4.rebase
  obtain ⟨-, -, hj⟩ := numM_le (t := t) 3 (i + 1) 0
  replace hj := hj (by omega)
  have hm := numM_lt (t := t) 3 (i + 1) 0
  have hbr : bracesM t i = (match upM t (numM t 3 (i + 1) 0).1 (numM t 3 (i + 1) 0).2 with
    | .inl e => .inl e
    | .inr (n, j) => endM t i (numM t 3 (i + 1) 0).1 n j) := by unfold bracesM; rw [if_pos hd]; cases upM t (numM t 3 (i + 1) 0).1 (numM t 3 (i + 1) 0).2 <;> rfl
  generalize numM t 3 (i + 1) 0 = q at *
  obtain ⟨m, j⟩ := q
  replace hm : m < 1000 := hm
  replace hj : j ≤ t.size := hj
  replace hbr : bracesM t i = (match upM t m j with
    | .inl e => .inl e
    | .inr (n, j) => endM t i m n j) := hbr
  replace st4 : StB B H4 H4 (ps.set k (pSc s t j ov) ++ [pB 77 q1 (ruleL a (.func (.func g1) #[] c1)), pB 77 q2 rule0]) := st4
  (conv => whnf)
  refine VSeqP.cut [7] (fun x : Int × Nat => match x with | (n, _) => [.int .i64 n]) (fun x G => match x with | (n, e) => upM t m j = .inr (n, e) ∧ e ≤ t.size ∧ -1 ≤ n ∧ n < 1000 ∧ Agr B H G ∧ StB B G G (ps.set k (pSc s t e ov) ++ [pB 77 q1 (ruleL a (.func (.func g1) #[] c1)), pB 77 q2 rule0])) ?_ ?_
  · (conv => whnf); refine VCallP.of (pures (ended_p (st4.blk k (getk hp))) fun H5 ha5 => ?_)
    have st5 := st4.call ha5
    by_cases h0 : j < t.size
    · rw [decide_eq_false (show ¬ t.size ≤ j by omega)]
      (conv => whnf); refine VCallP.of (pures (scnext_p (st5.blk k (getk hp)) h0) fun H6 ha6 => ?_)
      have st6 := st5.call ha6
      by_cases h1 : bt t j = 44
      · have d1 : (((bt t j : Nat) : Int) == 44) = true := by rw [h1]; rfl
        have hu : upM t m j = (if bt t (j + 1) = 125 then .inr (-1, j + 1) else if digB t (j + 1) then .inr (((numM t 3 (j + 1) 0).1 : Int), (numM t 3 (j + 1) 0).2) else .inl (20, j + 1)) := by unfold upM; rw [if_pos h1]
        (conv => whnf); rw [d1]
        (conv => whnf); refine VC.fa fl74_1 ?_
        (conv => whnf); refine ld1 (v := .int .i64 ((j : Nat) : Int)) ct3 (by rw [(st6.blk k (getk hp)).cell]; rfl) trivial ?_
        (conv => whnf); rw [w64 (x := ((j : Nat) : Int) + 1) (by omega) (by omega)]
        (conv => whnf); refine VC.fa fl74_1 ?_
        (conv => whnf); refine st1B st6 k ct3 (getk hp) (by simp) rfl fun H7 st7 => ?_
        rw [setk hp] at st7
        replace st7 : StB B H4 H7 (ps.set k (pSc s t (j + 1) ov) ++ [pB 77 q1 (ruleL a (.func (.func g1) #[] c1)), pB 77 q2 rule0]) := st7
        (conv => whnf); refine VCallP.of (pures (ended_p (st7.blk k (getk hp))) fun H8 ha8 => ?_)
        have st8 := st7.call ha8
        by_cases h2 : j + 1 < t.size
        · rw [decide_eq_false (show ¬ t.size ≤ j + 1 by omega)]
          (conv => whnf); refine VCallP.of (pures (scnext_p (st8.blk k (getk hp)) h2) fun H9 ha9 => ?_)
          have st9 := st8.call ha9
          by_cases h3 : bt t (j + 1) = 125
          · have d1 : (((bt t (j + 1) : Nat) : Int) != 125) = false := by rw [h3]; rfl
            (conv => whnf); rw [d1]
            (conv => whnf)
            exact ⟨rfl, (-1, j + 1), rfl, by rw [hu, if_pos h3], by omega, by omega, by omega, a4.trans st9.old, st9.rebase⟩
          · have d1 : (((bt t (j + 1) : Nat) : Int) != 125) = true := bne_iff_ne.2 (by omega)
            rw [if_neg h3] at hu
            (conv => whnf); rw [d1]
            (conv => whnf); refine VCallP.mk (scnum_p (by omega) (by omega) st9.rebase (getk hp)) ?_ ?_
            · rintro _ H10 ⟨hd2, rfl, st10⟩
              rw [if_pos hd2] at hu
              rw [setk hp] at st10
              obtain ⟨-, -, hj2⟩ := numM_le (t := t) 3 (j + 1) 0
              have hm2 := numM_lt (t := t) 3 (j + 1) 0
              (conv => whnf)
              exact ⟨rfl, (_, _), rfl, hu, hj2 (by omega), by omega, by omega, (a4.trans st9.old).trans st10.old, st10.rebase⟩
            · rintro _ H10 ⟨hd2, rfl, a10⟩
              rw [if_neg (by rw [hd2]; decide)] at hu
              exact ⟨20, j + 1, by rw [hbr, hu], rfl, (a4.trans st9.old).trans a10⟩
        · rw [decide_eq_true (show t.size ≤ j + 1 by omega)]
          rw [if_neg (by rw [bt_out h2]; omega)] at hu
          (conv => whnf); refine VCallP.mk (scnum_p (by omega) (by omega) st8.rebase (getk hp)) ?_ ?_
          · rintro _ H10 ⟨hd2, rfl, st10⟩
            rw [if_pos hd2] at hu
            rw [setk hp] at st10
            obtain ⟨-, -, hj2⟩ := numM_le (t := t) 3 (j + 1) 0
            have hm2 := numM_lt (t := t) 3 (j + 1) 0
            (conv => whnf)
            exact ⟨rfl, (_, _), rfl, hu, hj2 (by omega), by omega, by omega, (a4.trans st8.old).trans st10.old, st10.rebase⟩
          · rintro _ H10 ⟨hd2, rfl, a10⟩
            rw [if_neg (by rw [hd2]; decide)] at hu
            exact ⟨20, j + 1, by rw [hbr, hu], rfl, (a4.trans st8.old).trans a10⟩
      · have d1 : (((bt t j : Nat) : Int) == 44) = false := nofl h1
        (conv => whnf); rw [d1]
        (conv => whnf)
        exact ⟨rfl, ((m : Int), j), rfl, by unfold upM; rw [if_neg h1], hj, by omega, by omega, a4.trans st6.old, st6.rebase⟩
    · rw [decide_eq_true (show t.size ≤ j by omega)]
      (conv => whnf)
      exact ⟨rfl, ((m : Int), j), rfl, by unfold upM; rw [if_neg (by rw [bt_out h0]; omega)], hj, by omega, by omega, a4.trans st5.old, st5.rebase⟩
  · rintro ⟨n, e⟩ G junk ⟨hu, he, hn1, hn2, ag, stg⟩
    rw [hu] at hbr
    replace hbr : bracesM t i = endM t i m n e := hbr
    (conv => whnf); refine VSeqP.run ?_
    (conv => whnf); refine VCallP.of (pures (ended_p (stg.blk k (getk hp))) fun H5 ha5 => ?_)
    have st5 := stg.call ha5
    by_cases h0 : e < t.size
    · rw [decide_eq_false (show ¬ t.size ≤ e by omega)]
      (conv => whnf); refine VCallP.of (pures (scnext_p (st5.blk k (getk hp)) h0) fun H6 ha6 => ?_)
      have st6 := st5.call ha6
      by_cases h1 : bt t e = 125
      · have d1 : (((bt t e : Nat) : Int) != 125) = false := by rw [h1]; rfl
        have hen : endM t i m n e = (if 255 < m ∨ 255 < n ∨ (0 ≤ n ∧ n < (m : Int)) then .inl (22, i) else .inr (m, n, e + 1)) := by unfold endM; rw [if_pos h1]
        (conv => whnf); rw [d1]
        (conv => whnf); refine VC.fa fl74_1 ?_
        (conv => whnf); refine ld1 (v := .int .i64 ((e : Nat) : Int)) ct3 (by rw [(st6.blk k (getk hp)).cell]; rfl) trivial ?_
        (conv => whnf); rw [w64 (x := ((e : Nat) : Int) + 1) (by omega) (by omega)]
        (conv => whnf); refine VC.fa fl74_1 ?_
        (conv => whnf); refine st1B st6 k ct3 (getk hp) (by simp) rfl fun H7 st7 => ?_
        rw [setk hp] at st7
        replace st7 : StB B G H7 (ps.set k (pSc s t (e + 1) ov) ++ [pB 77 q1 (ruleL a (.func (.func g1) #[] c1)), pB 77 q2 rule0]) := st7
        (conv => whnf); refine VSeqP.run ?_
        (conv => whnf)
        by_cases w1 : 255 < m
        · have e1 : decide (255 < (m : Int)) = true := decide_eq_true (by omega)
          (conv => whnf); rw [e1]
          rw [if_pos (.inl w1)] at hen
          (conv => whnf); refine VCallP.mk (sfail_p (c := 22) (e := i)) (fun _ _ h => h.elim) ?_
          rintro _ _ ⟨rfl, rfl⟩
          exact ⟨22, i, by rw [hbr, hen], rfl, ag.trans st7.old⟩
        · have e1 : decide (255 < (m : Int)) = false := decide_eq_false (by omega)
          (conv => whnf); rw [e1]
          by_cases c2 : 255 < n
          · have e2 : decide (255 < n) = true := decide_eq_true c2
            (conv => whnf); rw [e2]
            rw [if_pos (.inr (.inl c2))] at hen
            (conv => whnf); refine VCallP.mk (sfail_p (c := 22) (e := i)) (fun _ _ h => h.elim) ?_
            rintro _ _ ⟨rfl, rfl⟩
            exact ⟨22, i, by rw [hbr, hen], rfl, ag.trans st7.old⟩
          · have e2 : decide (255 < n) = false := decide_eq_false c2
            (conv => whnf); rw [e2]
            by_cases c3 : 0 ≤ n
            · have e3 : decide (0 ≤ n) = true := decide_eq_true c3
              (conv => whnf); rw [e3]
              by_cases c4 : n < (m : Int)
              · have e4 : decide (n < (m : Int)) = true := decide_eq_true c4
                (conv => whnf); rw [e4]
                rw [if_pos (.inr (.inr ⟨c3, c4⟩))] at hen
                (conv => whnf); refine VCallP.mk (sfail_p (c := 22) (e := i)) (fun _ _ h => h.elim) ?_
                rintro _ _ ⟨rfl, rfl⟩
                exact ⟨22, i, by rw [hbr, hen], rfl, ag.trans st7.old⟩
              · have e4 : decide (n < (m : Int)) = false := decide_eq_false c4
                (conv => whnf); rw [e4]
                rw [if_neg (by omega)] at hen
                (conv => whnf); refine ldN (cs := ruleL a (.func (.func g1) #[] c1)) ag77 (ld_rule (st7.blk _ (lgR0 _ _))) trivial ?_
                (conv => whnf); refine VCallP.of (VCall.mk (times_c st7 (ga.frame (ag.trans st7.old) fun k hk => hk) (by omega) hn1 (by omega) (by omega)) ?_)
                rintro _ H8 ⟨B1, f1, rfl, s1, a8, st8, gs⟩
                obtain ⟨g2, c2, rfl⟩ := gs.fn
                (conv => whnf); refine stNBa (cs := ruleL (repR a m n) (.func (.func g2) #[] c2)) st8 _ rfl (lgR _ _ 1) (by simp [ruleL, rule0]) rfl fun H9 st9 ha9 hs9 => ?_
                rw [lsR, spl2 rfl] at st9
                (conv => whnf); refine ldN (cs := ruleL (repR a m n) (.func (.func g2) #[] c2)) ag77 (ld_rule (st9.blk _ (lgR _ _ 1))) trivial ?_
                exact ⟨m, n, e + 1, by rw [hbr, hen], B1, _, rfl, s1, ((ag.trans st7.old).trans (a8.mono fun k hk => st7.up hk)).trans fun k hk => st9.old k (s1 k hk), st9.lft.rebase, gs.frame st9.old fun k hk => hk⟩
            · have e3 : decide (0 ≤ n) = false := decide_eq_false c3
              (conv => whnf); rw [e3]
              rw [if_neg (by omega)] at hen
              (conv => whnf); refine ldN (cs := ruleL a (.func (.func g1) #[] c1)) ag77 (ld_rule (st7.blk _ (lgR0 _ _))) trivial ?_
              (conv => whnf); refine VCallP.of (VCall.mk (times_c st7 (ga.frame (ag.trans st7.old) fun k hk => hk) (by omega) hn1 (by omega) (by omega)) ?_)
              rintro _ H8 ⟨B1, f1, rfl, s1, a8, st8, gs⟩
              obtain ⟨g2, c2, rfl⟩ := gs.fn
              (conv => whnf); refine stNBa (cs := ruleL (repR a m n) (.func (.func g2) #[] c2)) st8 _ rfl (lgR _ _ 1) (by simp [ruleL, rule0]) rfl fun H9 st9 ha9 hs9 => ?_
              rw [lsR, spl2 rfl] at st9
              (conv => whnf); refine ldN (cs := ruleL (repR a m n) (.func (.func g2) #[] c2)) ag77 (ld_rule (st9.blk _ (lgR _ _ 1))) trivial ?_
              exact ⟨m, n, e + 1, by rw [hbr, hen], B1, _, rfl, s1, ((ag.trans st7.old).trans (a8.mono fun k hk => st7.up hk)).trans fun k hk => st9.old k (s1 k hk), st9.lft.rebase, gs.frame st9.old fun k hk => hk⟩
      · have d1 : (((bt t e : Nat) : Int) != 125) = true := bne_iff_ne.2 (by omega)
        (conv => whnf); rw [d1]
        (conv => whnf); refine VC.fa fl74_1 ?_
        (conv => whnf); refine ld1 (v := .int .i64 ((e : Nat) : Int)) ct3 (by rw [(st6.blk k (getk hp)).cell]; rfl) trivial ?_
        (conv => whnf); refine VCallP.mk (sfail_p (c := 20) (e := e)) (fun _ _ h => h.elim) ?_
        rintro _ _ ⟨rfl, rfl⟩
        exact ⟨20, e, by rw [hbr]; unfold endM; rw [if_neg h1], rfl, ag.trans st6.old⟩
    · rw [decide_eq_true (show t.size ≤ e by omega)]
      (conv => whnf); refine VC.fa fl74_1 ?_
      (conv => whnf); refine ld1 (v := .int .i64 ((e : Nat) : Int)) ct3 (by rw [(st5.blk k (getk hp)).cell]; rfl) trivial ?_
      (conv => whnf); refine VCallP.mk (sfail_p (c := 20) (e := e)) (fun _ _ h => h.elim) ?_
      rintro _ _ ⟨rfl, rfl⟩
      exact ⟨20, e, by rw [hbr]; unfold endM; rw [if_neg (by rw [bt_out h0]; omega)], rfl, ag.trans st5.old⟩
end Go.Proofs.YtlnmhfhdjnenoaaGreatDoor
/- regex.scanner: repeats: the walk. -/
set_option linter.unusedVariables false
set_option linter.unusedSimpArgs false
set_option maxRecDepth 100000
namespace Go.Proofs.YtlnmhfhdjnenoaaGreatDoor
open Go.VC Go.Lib
theorem pstep_post {t : ByteArray} {i m k : Nat} {n : Int} {f : AF} {fs : List AF} {a : ReM} (hf : f.factor = some a) (hc : postB (bt t i) = true) (hp : postM t i = .inr (m, n, k)) :
    pstep t ⟨i, f, fs⟩ = .inr ⟨k, { f with factor := some (repR a m n) }, fs⟩ := by
  unfold pstep
  show (if postB (bt t i) then _ else _) = _
  rw [if_pos hc, hf]
  show (match postM t i with | .inl e => _ | .inr (m, n, k) => _) = _
  rw [hp]
theorem pstep_postE {t : ByteArray} {i : Nat} {e : Nat × Nat} {f : AF} {fs : List AF} {a : ReM} (hf : f.factor = some a) (hc : postB (bt t i) = true) (hp : postM t i = .inl e) :
    pstep t ⟨i, f, fs⟩ = .inl e := by
  unfold pstep
  show (if postB (bt t i) then _ else _) = _
  rw [if_pos hc, hf]
  show (match postM t i with | .inl e => _ | .inr (m, n, k) => _) = _
  rw [hp]
theorem postB_of {c : Nat} (h : c = 42 ∨ c = 43 ∨ c = 63 ∨ c = 123) : postB c = true := by rcases h with rfl | rfl | rfl | rfl <;> rfl
theorem postB_no {c : Nat} (h1 : c ≠ 42) (h2 : c ≠ 43) (h3 : c ≠ 63) (h4 : c ≠ 123) : postB c = false := by
  unfold postB
  rw [beq_eq_false_iff_ne.2 h1, beq_eq_false_iff_ne.2 h2, beq_eq_false_iff_ne.2 h3, beq_eq_false_iff_ne.2 h4]; rfl
structure RepI (B : Nat → Prop) (H : Heap) (ps : List Pc) (k s q1 q2 i : Nat) (t : ByteArray) (ov : Value) (f : AF) (fs : List AF) (j : Nat) (G : Heap) : Prop where
  ex : ∃ (a : ReM) (B' : Nat → Prop) (fn : Value), prun t ⟨i, f, fs⟩ = prun t ⟨j, { f with factor := some a }, fs⟩ ∧ i ≤ j ∧ j ≤ t.size ∧ (∀ k, B k → B' k) ∧ Agr B H G ∧
    StB B' G G (ps.set k (pSc s t j ov) ++ [pB 77 q1 (ruleL a fn), pB 77 q2 rule0]) ∧ GrowV B' G fn a
set_option maxHeartbeats 8000000 in
theorem repeats_c {B : Nat → Prop} {H : Heap} {ps : List Pc} {k s i : Nat} {t : ByteArray} {ov : Value} {a : ReM} {va : Value} {f : AF} {fs : List AF} (ht : t.size ≤ 1152921504606846) (hi : i ≤ t.size) (hf : f.factor = some a) (st : StB B H H ps) (hp : ps[k]? = some (pSc s t i ov)) (ga : GrowV B H va a) :
    FnOkP Tryz.prog 99 #[.pointer (some ⟨s, 0, none⟩), .agg (ruleL a va).toArray] H
      (fun v H' => ∃ j r, i ≤ j ∧ j ≤ t.size ∧ postB (bt t j) = false ∧ prun t ⟨i, f, fs⟩ = prun t ⟨j, { f with factor := some r }, fs⟩ ∧ SRuleR B H ps k s t j ov r v H')
      (fun x H' => ∃ c p : Nat, prun t ⟨i, f, fs⟩ = .inl (c, (p : Int)) ∧ x = faultV c p ∧ Agr B H H') := by
  obtain ⟨g1, c1, rfl⟩ := ga.fn
  refine FnOkP.of_vc Tryz.func99 rfl (Tryz.call99 _) ?_
  (conv => whnf); refine vbox (ruleL a (.func (.func g1) #[] c1)) rfl ?_
  intro q1 H1 hq1 hs1 hb1 ha1
  have st1 := st.box hq1 hs1 hb1 ha1
  (conv => whnf); refine valloc (.agg rule0.toArray) rule0 rule_z rfl ?_
  intro q2 H2 hq2 hs2 hb2 ha2
  have st2 := st1.box hq2 hs2 hb2 ha2
  rw [List.append_assoc] at st2
  replace st2 : StB B H H2 (ps ++ [pB 77 q1 (ruleL a (.func (.func g1) #[] c1)), pB 77 q2 rule0]) := st2
  rw [← set_self hp] at st2
  (conv => whnf)
  refine VLoopP.mk [] (fun _ : Nat => []) (fun j G => RepI B H ps k s q1 q2 i t ov f fs j G) (fun j _ => t.size - j) ?_ ?_
  · (conv => whnf)
    refine ⟨i, rfl, ⟨a, B, .func (.func g1) #[] c1, ?_, Nat.le_refl _, hi, fun k hk => hk, st2.old, st2.rebase, ga.frame st2.old fun k hk => hk⟩⟩
    rw [← hf]
  · rintro j G junk ⟨a', B1, f1, hpr, hij, hj, s1, ag, stg, gv⟩
    obtain ⟨gg, cc, rfl⟩ := gv.fn
    clear st st1 st2 ga hb1 hb2 ha1 ha2
    have hpg : (ps.set k (pSc s t j ov) ++ [pB 77 q1 (ruleL a' (.func (.func gg) #[] cc)), pB 77 q2 rule0])[k]? = some (pSc s t j ov) := getk hp
    (conv => whnf); refine VCallP.of (pures (ended_p (stg.blk k hpg)) fun G1 hg1 => ?_)
    have sg1 := stg.call hg1
    by_cases h0 : j < t.size
    · rw [decide_eq_false (show ¬ t.size ≤ j by omega)]
      (conv => whnf); refine VSeqP.run ?_
      (conv => whnf); refine VCallP.of (pures (scnext_p (sg1.blk k hpg) h0) fun G2 hg2 => ?_)
      have sg2 := sg1.call hg2
      have pst : ∀ {m k2 : Nat} {n : Int}, (bt t j = 42 ∨ bt t j = 43 ∨ bt t j = 63 ∨ bt t j = 123) → postM t j = .inr (m, n, k2) → prun t ⟨i, f, fs⟩ = prun t ⟨k2, { f with factor := some (repR a' m n) }, fs⟩ := fun hc hp => by
        rw [hpr]
        exact prun_step (s := ⟨j, { f with factor := some a' }, fs⟩) h0 (pstep_post rfl (postB_of hc) hp)
      by_cases h1 : bt t j = 42
      · have d1 : (((bt t j : Nat) : Int) == 42) = true := by rw [h1]; rfl
        (conv => whnf); rw [d1]
        (conv => whnf); refine ldN (cs := ruleL a' (.func (.func gg) #[] cc)) ag77 (ld_rule (sg2.blk _ (lgR0 _ _))) trivial ?_
        (conv => whnf); refine VCallP.of (VCall.mk (star_c sg2 (gv.frame sg2.old fun k hk => hk)) ?_)
        rintro _ G3 ⟨B2, f2, rfl, s2, a3, sg3, gs⟩
        have ag3 : Agr B H G3 := (ag.trans fun k hk => sg2.old k (s1 k hk)).trans (a3.mono fun k hk => sg2.up (s1 k hk))
        obtain ⟨g2, c2, rfl⟩ := gs.fn
        (conv => whnf); refine stNBa (cs := ruleL (.star a') (.func (.func g2) #[] c2)) sg3 _ rfl (lgR0 _ _) (by simp [ruleL]) rfl fun G4 sg4 ja js => ?_
        rw [lsR0] at sg4
        have e9 : splice (ruleL a' (.func (.func gg) #[] cc)) 0 (ruleL (.star a') (.func (.func g2) #[] c2)) = ruleL (.star a') (.func (.func g2) #[] c2) := spl2 rfl
        replace sg4 : StB B2 G3 G4 (ps.set k (pSc s t j ov) ++ [pB 77 q1 (splice (ruleL a' (.func (.func gg) #[] cc)) 0 (ruleL (.star a') (.func (.func g2) #[] c2))), pB 77 q2 rule0]) := sg4
        rw [e9] at sg4
        (conv => whnf); refine VC.fa fl74_1 ?_
        (conv => whnf); refine ld1 (v := .int .i64 ((j : Nat) : Int)) ct3 (by rw [(sg4.blk k (getk hp)).cell]; rfl) trivial ?_
        (conv => whnf); rw [w64 (x := ((j : Nat) : Int) + 1) (by omega) (by omega)]
        (conv => whnf); refine VC.fa fl74_1 ?_
        (conv => whnf); refine st1B sg4 k ct3 (getk hp) (by simp) rfl fun G5 sg5 => ?_
        rw [setk hp] at sg5
        have ag5 : Agr B G3 G5 := fun k hk => sg5.old k (s2 k (s1 k hk))
        exact ⟨rfl, j + 1, rfl, ⟨.star a', B2, .func (.func g2) #[] c2, pst (m := 0) (n := -1) (.inl h1) (by unfold postM; rw [if_pos h1]), by omega, by omega, fun k hk => s2 k (s1 k hk), ag3.trans ag5, sg5.rebase, gs.frame sg5.old fun k hk => hk⟩, by omega⟩
      · have d1 : (((bt t j : Nat) : Int) == 42) = false := nofl h1
        (conv => whnf); rw [d1]
        by_cases h2 : bt t j = 43
        · have d2 : (((bt t j : Nat) : Int) == 43) = true := by rw [h2]; rfl
          (conv => whnf); rw [d2]
          (conv => whnf); refine VDrawP.of (VDraw.heldZ (Old G2) [4] (sq [0,1] (.f 2 (.f 3 (.f 4 .e)))) rfl (by kernel_rfl) ?_)
          (conv => whnf); refine ldN (cs := ruleL a' (.func (.func gg) #[] cc)) ag77 (ld_rule (sg2.blk _ (lgR0 _ _))) ((sg2.in_ _ (lgR0 _ _) (k := q1) rfl).2) ?_
          (conv => whnf); refine ldN (cs := ruleL a' (.func (.func gg) #[] cc)) ag77 (ld_rule (sg2.blk _ (lgR0 _ _))) ((sg2.in_ _ (lgR0 _ _) (k := q1) rfl).2) ?_
          (conv => whnf); refine VCall.mk (star_c sg2 (gv.frame sg2.old fun k hk => hk)) ?_
          rintro _ G6 ⟨B6, f6, rfl, s6, a6, sg6, gs6⟩
          refine ⟨a6, ?_⟩
          (conv => whnf); refine VCall.mk (join_c .cat sg6 ((gv.frame sg2.old fun k hk => hk).frame (a6.mono fun k hk => sg2.up hk) s6) gs6) ?_
          rintro _ G3 ⟨B7, f7, rfl, s7, a7, sg3, gs⟩
          have a67 := a6.trans (a7.mono fun k hk => old_lt a6 hk)
          refine ⟨a67, ?_⟩
          have ag3 : Agr B H G3 := (ag.trans fun k hk => sg2.old k (s1 k hk)).trans (a67.mono fun k hk => sg2.up (s1 k hk))
          obtain ⟨B2, hB2⟩ : ∃ B2, B2 = B7 := ⟨_, rfl⟩
          rw [← hB2] at sg3 gs
          have s2 : ∀ k, B1 k → B2 k := fun k hk => by rw [hB2]; exact s7 k (s6 k hk)
          obtain ⟨g2, c2, rfl⟩ := gs.fn
          (conv => whnf); refine stNBa (cs := ruleL (opR .cat a' (.star a')) (.func (.func g2) #[] c2)) sg3 _ rfl (lgR0 _ _) (by simp [ruleL]) rfl fun G4 sg4 ja js => ?_
          rw [lsR0] at sg4
          have e9 : splice (ruleL a' (.func (.func gg) #[] cc)) 0 (ruleL (opR .cat a' (.star a')) (.func (.func g2) #[] c2)) = ruleL (opR .cat a' (.star a')) (.func (.func g2) #[] c2) := spl2 rfl
          replace sg4 : StB B2 G3 G4 (ps.set k (pSc s t j ov) ++ [pB 77 q1 (splice (ruleL a' (.func (.func gg) #[] cc)) 0 (ruleL (opR .cat a' (.star a')) (.func (.func g2) #[] c2))), pB 77 q2 rule0]) := sg4
          rw [e9] at sg4
          (conv => whnf); refine VC.fa fl74_1 ?_
          (conv => whnf); refine ld1 (v := .int .i64 ((j : Nat) : Int)) ct3 (by rw [(sg4.blk k (getk hp)).cell]; rfl) trivial ?_
          (conv => whnf); rw [w64 (x := ((j : Nat) : Int) + 1) (by omega) (by omega)]
          (conv => whnf); refine VC.fa fl74_1 ?_
          (conv => whnf); refine st1B sg4 k ct3 (getk hp) (by simp) rfl fun G5 sg5 => ?_
          rw [setk hp] at sg5
          have ag5 : Agr B G3 G5 := fun k hk => sg5.old k (s2 k (s1 k hk))
          exact ⟨rfl, j + 1, rfl, ⟨opR .cat a' (.star a'), B2, .func (.func g2) #[] c2, pst (m := 1) (n := -1) (.inr (.inl h2)) (by unfold postM; rw [if_neg h1, if_pos h2]), by omega, by omega, fun k hk => s2 k (s1 k hk), ag3.trans ag5, sg5.rebase, gs.frame sg5.old fun k hk => hk⟩, by omega⟩
        · have d2 : (((bt t j : Nat) : Int) == 43) = false := nofl h2
          (conv => whnf); rw [d2]
          by_cases h3 : bt t j = 63
          · have d3 : (((bt t j : Nat) : Int) == 63) = true := by rw [h3]; rfl
            (conv => whnf); rw [d3]
            (conv => whnf); refine ldN (cs := ruleL a' (.func (.func gg) #[] cc)) ag77 (ld_rule (sg2.blk _ (lgR0 _ _))) trivial ?_
            (conv => whnf); refine VCallP.of (VCall.mk (maybe_c sg2 (gv.frame sg2.old fun k hk => hk)) ?_)
            rintro _ G3 ⟨B2, f2, rfl, s2, a3, sg3, gs⟩
            have ag3 : Agr B H G3 := (ag.trans fun k hk => sg2.old k (s1 k hk)).trans (a3.mono fun k hk => sg2.up (s1 k hk))
            obtain ⟨g2, c2, rfl⟩ := gs.fn
            (conv => whnf); refine stNBa (cs := ruleL (maybeR a') (.func (.func g2) #[] c2)) sg3 _ rfl (lgR0 _ _) (by simp [ruleL]) rfl fun G4 sg4 ja js => ?_
            rw [lsR0] at sg4
            have e9 : splice (ruleL a' (.func (.func gg) #[] cc)) 0 (ruleL (maybeR a') (.func (.func g2) #[] c2)) = ruleL (maybeR a') (.func (.func g2) #[] c2) := spl2 rfl
            replace sg4 : StB B2 G3 G4 (ps.set k (pSc s t j ov) ++ [pB 77 q1 (splice (ruleL a' (.func (.func gg) #[] cc)) 0 (ruleL (maybeR a') (.func (.func g2) #[] c2))), pB 77 q2 rule0]) := sg4
            rw [e9] at sg4
            (conv => whnf); refine VC.fa fl74_1 ?_
            (conv => whnf); refine ld1 (v := .int .i64 ((j : Nat) : Int)) ct3 (by rw [(sg4.blk k (getk hp)).cell]; rfl) trivial ?_
            (conv => whnf); rw [w64 (x := ((j : Nat) : Int) + 1) (by omega) (by omega)]
            (conv => whnf); refine VC.fa fl74_1 ?_
            (conv => whnf); refine st1B sg4 k ct3 (getk hp) (by simp) rfl fun G5 sg5 => ?_
            rw [setk hp] at sg5
            have ag5 : Agr B G3 G5 := fun k hk => sg5.old k (s2 k (s1 k hk))
            exact ⟨rfl, j + 1, rfl, ⟨maybeR a', B2, .func (.func g2) #[] c2, pst (m := 0) (n := 1) (.inr (.inr (.inl h3))) (by unfold postM; rw [if_neg h1, if_neg h2, if_pos h3]), by omega, by omega, fun k hk => s2 k (s1 k hk), ag3.trans ag5, sg5.rebase, gs.frame sg5.old fun k hk => hk⟩, by omega⟩
          · have d3 : (((bt t j : Nat) : Int) == 63) = false := nofl h3
            (conv => whnf); rw [d3]
            by_cases h4 : bt t j = 123
            · have d4 : (((bt t j : Nat) : Int) == 123) = true := by rw [h4]; rfl
              (conv => whnf); rw [d4]
              (conv => whnf); refine ldN (cs := ruleL a' (.func (.func gg) #[] cc)) ag77 (ld_rule (sg2.blk _ (lgR0 _ _))) trivial ?_
              (conv => whnf); refine VCallP.mk (braces_c ht h4 sg2.rebase hpg (gv.frame sg2.old fun k hk => hk)) ?_ ?_
              · rintro _ G3 ⟨m, n, j2, hbm, ⟨B2, f2, rfl, s2, a3, sg3, gs⟩⟩
                have hok := bracesM_ok hbm
                rw [setk hp] at sg3
                obtain ⟨g2, c2, rfl⟩ := gs.fn
                (conv => whnf); refine stNBa (cs := ruleL (repR a' m n) (.func (.func g2) #[] c2)) sg3 _ rfl (lgR0 _ _) (by simp [ruleL]) rfl fun G4 sg4 ja js => ?_
                rw [lsR0] at sg4
                have e9 : splice (ruleL a' (.func (.func gg) #[] cc)) 0 (ruleL (repR a' m n) (.func (.func g2) #[] c2)) = ruleL (repR a' m n) (.func (.func g2) #[] c2) := spl2 rfl
                replace sg4 : StB B2 G3 G4 (ps.set k (pSc s t j2 ov) ++ [pB 77 q1 (splice (ruleL a' (.func (.func gg) #[] cc)) 0 (ruleL (repR a' m n) (.func (.func g2) #[] c2))), pB 77 q2 rule0]) := sg4
                rw [e9] at sg4
                (conv => whnf)
                have ag3 : Agr B H G3 := (ag.trans fun k hk => sg2.old k (s1 k hk)).trans (a3.mono fun k hk => s1 k hk)
                have ag5 : Agr B G3 G4 := fun k hk => sg4.old k (s2 k (s1 k hk))
                exact ⟨rfl, j2, rfl, ⟨repR a' m n, B2, .func (.func g2) #[] c2, pst (m := m) (n := n) (.inr (.inr (.inr h4))) (by unfold postM; rw [if_neg h1, if_neg h2, if_neg h3]; exact hbm), by omega, by omega, fun k hk => s2 k (s1 k hk), ag3.trans ag5, sg4.rebase, gs.frame sg4.old fun k hk => hk⟩, by omega⟩
              · rintro _ G3 ⟨c, p, hbm, rfl, a3⟩
                refine ⟨c, p, ?_, rfl, (ag.trans fun k hk => sg2.old k (s1 k hk)).trans (a3.mono fun k hk => s1 k hk)⟩
                rw [hpr]
                exact prun_err (s := ⟨j, { f with factor := some a' }, fs⟩) h0 (pstep_postE rfl (postB_of (.inr (.inr (.inr h4)))) (by unfold postM; rw [if_neg h1, if_neg h2, if_neg h3]; exact hbm))
            · have d4 : (((bt t j : Nat) : Int) == 123) = false := nofl h4
              (conv => whnf); rw [d4]
              (conv => whnf); refine ldN (cs := ruleL a' (.func (.func gg) #[] cc)) ag77 (ld_rule (sg2.blk _ (lgR0 _ _))) trivial ?_
              (conv => whnf); refine stNBa (cs := ruleL a' (.func (.func gg) #[] cc)) sg2 _ rfl (lgR _ _ 1) (by simp [ruleL, rule0]) rfl fun G9 sg9 ja js => ?_
              rw [lsR, spl2 rfl] at sg9
              (conv => whnf); refine ldN (cs := ruleL a' (.func (.func gg) #[] cc)) ag77 (ld_rule (sg9.blk _ (lgR _ _ 1))) trivial ?_
              exact ⟨j, a', hij, hj, postB_no h1 h2 h3 h4, hpr, B1, _, rfl, s1, ag.trans fun k hk => sg9.old k (s1 k hk), sg9.lft.rebase, gv.frame sg9.old fun k hk => hk⟩
    · rw [decide_eq_true (show t.size ≤ j by omega)]
      (conv => whnf); refine ldN (cs := ruleL a' (.func (.func gg) #[] cc)) ag77 (ld_rule (sg1.blk _ (lgR0 _ _))) trivial ?_
      (conv => whnf); refine stNBa (cs := ruleL a' (.func (.func gg) #[] cc)) sg1 _ rfl (lgR _ _ 1) (by simp [ruleL, rule0]) rfl fun G9 sg9 ja js => ?_
      rw [lsR, spl2 rfl] at sg9
      (conv => whnf); refine ldN (cs := ruleL a' (.func (.func gg) #[] cc)) ag77 (ld_rule (sg9.blk _ (lgR _ _ 1))) trivial ?_
      exact ⟨j, a', hij, hj, by rw [bt_out h0]; rfl, hpr, B1, _, rfl, s1, ag.trans fun k hk => sg9.old k (s1 k hk), sg9.lft.rebase, gv.frame sg9.old fun k hk => hk⟩
end Go.Proofs.YtlnmhfhdjnenoaaGreatDoor
/- The document's parser: postfix, digit, open, braces: the walks. -/
set_option linter.unusedVariables false
set_option linter.unusedSimpArgs false
set_option maxRecDepth 100000
namespace Go.Proofs.YtlnmhfhdjnenoaaGreatDoor
open Go.VC Go.Lib
theorem vbt {kk : IntKind} {i : Nat} {t : ByteArray} {S : Nat → Prop} {H : Heap} {K : Value → Prop} (hi : i < t.size) (k : K (.int .u8 (bt t i : Int))) : VDet Tryz.prog (Instr.index 9 (.string t) (.int kk (i : Int))) S H K := by
  obtain ⟨b, h1, h2, h3⟩ := bt_in hi
  refine vidxs rstrT rfl h1 ?_
  rw [← h2]; exact k
set_option maxHeartbeats 4000000 in
theorem postfix_p (c : Nat) (H : Heap) : Pure Tryz.prog 29 #[.int .u8 (c : Int)] H (.bool (postB c)) := by
  refine FnOk.of_vc Tryz.func29 rfl (Tryz.call29 _) ?_
  (conv => whnf)
  by_cases h42 : c = 42
  · have d : ((c : Int) == 42) = true := by rw [h42]; rfl
    (conv => whnf); rw [d]
    (conv => whnf)
    refine ⟨?_, Agr.refl _ _⟩
    rw [h42]; rfl
  · have d : ((c : Int) == 42) = false := nofl h42
    (conv => whnf); rw [d]
    clear d
    by_cases h43 : c = 43
    · have d : ((c : Int) == 43) = true := by rw [h43]; rfl
      (conv => whnf); rw [d]
      (conv => whnf)
      refine ⟨?_, Agr.refl _ _⟩
      rw [h43]; rfl
    · have d : ((c : Int) == 43) = false := nofl h43
      (conv => whnf); rw [d]
      clear d
      by_cases h63 : c = 63
      · have d : ((c : Int) == 63) = true := by rw [h63]; rfl
        (conv => whnf); rw [d]
        (conv => whnf)
        refine ⟨?_, Agr.refl _ _⟩
        rw [h63]; rfl
      · have d : ((c : Int) == 63) = false := nofl h63
        (conv => whnf); rw [d]
        clear d
        by_cases h123 : c = 123
        · have d : ((c : Int) == 123) = true := by rw [h123]; rfl
          (conv => whnf); rw [d]
          (conv => whnf)
          refine ⟨?_, Agr.refl _ _⟩
          rw [h123]; rfl
        · have d : ((c : Int) == 123) = false := nofl h123
          (conv => whnf); rw [d]
          clear d
          (conv => whnf)
          refine ⟨?_, Agr.refl _ _⟩
          rw [postB_no h42 h43 h63 h123]
set_option maxHeartbeats 4000000 in
theorem digit_p {i : Nat} {t : ByteArray} (H : Heap) : Pure Tryz.prog 54 #[.string t, .int .i64 (i : Int)] H (.bool (digB t i)) := by
  refine FnOk.of_vc Tryz.func54 rfl (Tryz.call54 _) ?_
  by_cases hi : i < t.size
  · have d1 : decide ((i : Int) < (t.size : Int)) = true := decide_eq_true (by omega)
    (conv => whnf); rw [d1]
    (conv => whnf); refine vbt hi ?_
    by_cases h2 : 48 ≤ bt t i
    · have d2 : decide (48 ≤ ((bt t i : Nat) : Int)) = true := decide_eq_true (by omega)
      (conv => whnf); rw [d2]
      (conv => whnf); refine vbt hi ?_
      (conv => whnf)
      refine ⟨?_, Agr.refl _ _⟩
      congr 1
      unfold digB
      rw [decide_eq_decide]; omega
    · have d2 : decide (48 ≤ ((bt t i : Nat) : Int)) = false := decide_eq_false (by omega)
      (conv => whnf); rw [d2]
      (conv => whnf)
      refine ⟨?_, Agr.refl _ _⟩
      congr 1
      exact (decide_eq_false fun h => h2 h.1).symm
  · have d1 : decide ((i : Int) < (t.size : Int)) = false := decide_eq_false (by omega)
    (conv => whnf); rw [d1]
    (conv => whnf)
    refine ⟨?_, Agr.refl _ _⟩
    congr 1
    exact (decide_eq_false fun h => by have := bt_out hi; omega).symm
def frZ : List Value := [.int .i64 0, .int .i64 0, .int .i64 0, .int .u8 0, .int .i64 0, .int .i64 0]
theorem fr_z : (Tryz.prog.info? 85).bind (·.zero) = some (.agg frZ.toArray) := by kernel_rfl
def frO (p : Int) : List Value := [.int .i64 p, .int .i64 (-1), .int .i64 (-1), .int .u8 0, .int .i64 (-1), .int .i64 (-1)]
set_option maxHeartbeats 1000000 in
theorem open_c (p : Int) (H : Heap) : FnOk Tryz.prog 28 #[.int .i64 p] H fun v H' => v = .agg (frO p).toArray ∧ Agr (Old H) H H' := by
  refine FnOk.of_vc Tryz.func28 rfl (Tryz.call28 _) ?_
  (conv => whnf); refine valloc (.agg frZ.toArray) frZ fr_z rfl ?_
  intro q H1 hq hs1 hb1 ha1
  (conv => whnf); refine vbuildS Tryz.underlying85 rfl (.agg frZ.toArray) fr_z (frO p) rfl ?_
  (conv => whnf); refine VC.stN (cs := frO p) rfl hb1 (Nat.le_refl _) rfl ?_
  intro H2 hb2 ha2 hs2
  rw [splAll (show (frO p).length = frZ.length from rfl)] at hb2
  (conv => whnf); refine ldN (cs := frO p) ag85 (hb2.cells fun j v hv => by rw [Nat.zero_add]; exact hv) trivial ?_
  exact ⟨rfl, (ha1.mono fun k hk => by have : k < H.size := hk; have : q = H.size := hq; omega).trans (ha2.mono fun k hk => by have : k < H.size := hk; have : q = H.size := hq; omega)⟩
end Go.Proofs.YtlnmhfhdjnenoaaGreatDoor
