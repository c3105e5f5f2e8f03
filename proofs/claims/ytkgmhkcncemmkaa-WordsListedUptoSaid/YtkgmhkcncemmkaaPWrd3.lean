/- words.Least. -/
import Derived.Test.YtkgmhkcncemmkaaPBfs
import Derived.Test.YtkgmhkcncemmkaaPCellO
import Derived.Test.YtkgmhkcncemmkaaPWrd1
import Derived.Test.YtkgmhkcncemmkaaVMore
set_option linter.unusedVariables false
set_option linter.unusedSimpArgs false
set_option maxRecDepth 100000
namespace Go.Proofs.Ytkgmhkcncemmkaa
open Go.VC
attribute [local irreducible] mRun gRun

abbrev tFnd : Ty FW := tPair (tInt .i64) tStr
theorem mapI : MapT Try.prog 90 3 3 (.int .i64) (.int .i64 0) := ⟨rfl, rfl, rfl⟩
/-- The states that have been found, as a map. -/
def mF (F : List FW) (t : Int) : Option Value := if hasS F t then some (.int .i64 1) else none
theorem mF_put (F : List FW) (t : Int) (w : ByteArray) (a : Int) : put (mF F) t (some (.int .i64 1)) a = mF (F ++ [(t, w)]) a := by
  unfold mF
  rw [hasS_append]
  by_cases h : a = t
  · subst h; rw [put_self]; simp [hasS]
  · rw [put_ne h]
    have : hasS [(t, w)] a = false := by simp [hasS]; exact fun e => h e.symm
    rw [this, Bool.or_false]
theorem fw_ones (t : Int) (w : ByteArray) : ∀ u ∈ [Value.int .i64 t, Value.string w], u.oneCell' = true := by
  intro u hu
  simp only [List.mem_cons, List.not_mem_nil, or_false] at hu
  rcases hu with rfl | rfl <;> rfl

theorem ex1_len (o : Option AM) (x : FW) (F : List FW) (b : Nat) : F.length ≤ (ex1 o x F b).length ∧ (ex1 o x F b).length ≤ F.length + 1 := by
  unfold ex1
  split
  · omega
  · simp
theorem exC_len (o : Option AM) (x : FW) : ∀ (l : List (BitVec 256)) (F : List FW), F.length ≤ (l.foldl (fun F c => ex1 o x F (nextM c 0).1) F).length ∧ (l.foldl (fun F c => ex1 o x F (nextM c 0).1) F).length ≤ F.length + l.length
  | [], F => ⟨Nat.le_refl _, Nat.le_refl _⟩
  | c :: l, F => by
    have h1 := ex1_len o x F (nextM c 0).1
    have h2 := exC_len o x l (ex1 o x F (nextM c 0).1)
    simp only [List.foldl_cons, List.length_cons]
    omega
set_option maxHeartbeats 8000000 in
theorem least_p {S : Nat → Prop} {H : Heap} {v : Value} {o : Option AM} {ls : List Nat} (hS : ∀ k, S k → k < H.size) (h : AutoV S H v o) (hc : CellsOk o ls) :
    Pure Try.prog 20 #[v] H (.tuple #[.string ((leastM o).getD ⟨#[]⟩), .bool (leastM o).isSome]) := by
  obtain ⟨hn1, hn2⟩ := stN_le h
  have hst : StepIn o := fun q b h0 h1 hb => by
    obtain ⟨n, rfl⟩ := Int.eq_ofNat_of_zero_le h0
    exact step_rng h (by omega) hb
  have hok : ∀ A, o = some A → A.Ok := fun A e => by subst e; obtain ⟨_, _, _, hok, _⟩ := h; exact hok
  have hF : ∀ {H' : Heap}, Agr (Old H) H H' → AutoV S H' v o := fun k => h.frame (k.mono hS)
  have hL : ∀ {H' : Heap}, Agr (Old H) H H' → ∀ k, S k → k < H'.size := fun h k hk => old_lt h (hS k hk)
  have hal := alive_least hc hst hn1 hok
  have hcn : (cellsM o).length ≤ 256 := by
    cases o with
    | none => decide
    | some A => exact (hok A rfl).sl
  refine FnOk.of_vc Try.func20 rfl (Try.call20 _) ?_
  (conv => whnf); refine pures (empty_p h) fun H1 ha1 => ?_
  rw [hal]
  cases hlm : leastM o with
  | none =>
    (conv => whnf)
    exact ⟨rfl, ha1⟩
  | some w0 =>
    have st1 := (St.nil H).call ha1
    (conv => whnf); refine mmake (enc := (Value.int .i64 : Int → Value)) ?_
    intro mb H2 hmb hs2 hm2 ha2
    have st2 := st1.mapNew hmb hs2 hm2 ha2
    (conv => whnf); refine mputP (enc := Value.int .i64) (a := (0 : Int)) (m' := mF (bfs o 0)) st2 0 mapI (keyI .i64) rfl (fun a' => by
      have := mF_put [] 0 ⟨#[]⟩ a'
      rw [List.nil_append] at this
      exact this) fun H3 st3 => ?_
    (conv => whnf); refine vbuildS rfl rfl _ rfl [.int .i64 0, .string ⟨#[]⟩] (by rfl) ?_
    (conv => whnf); refine vbuild1 sl93 [.int .i64 0, .string ⟨#[]⟩] rfl rfl (by decide) (by decide) ?_
    intro qb H4 hqb hs4 hb4 ha4
    have st4 := (st3.new (T := tFnd) (n := 1) (xs := bfs o 0) hqb hs4 hb4 ha4 (Ty.reps_one ⟨[.int .i64 0], [.string ⟨#[]⟩], rfl, ⟨rfl, inI64 (x := 0) (by decide)⟩, rfl, by decide⟩) rfl (by decide)).toQ 1 rfl
    (conv => whnf)
    refine VLoop.mk [5] (fun x : Nat × Option Addr × Nat => match x with | (i, a, c) => [.slice a ((bfs o i).length - i) c])
      (fun x H5 => x.1 < (bfs o x.1).length ∧ (∀ (j : Nat) (y : FW), j < x.1 → (bfs o x.1)[j]? = some y → finM o y.1 = false) ∧ St H H5 [pM (Value.int .i64) mb (mF (bfs o x.1)), pQ tFnd 92 x.2.1 ((bfs o x.1).length - x.1) x.2.2 ((bfs o x.1).drop x.1)]) (fun x _ => stN o - x.1) ?_ ?_
    · (conv => whnf)
      exact ⟨(0, some ⟨qb, 0, none⟩, 1), rfl, by simp [bfs], (fun j y hj => by simp only at hj; omega), st4⟩
    · rintro ⟨i, a, c⟩ H5 junk ⟨hi, hno, st5⟩
      simp only at hi hno st5
      have hb := bfs_ok hst hn1 i
      have hlen := hb.len
      obtain ⟨⟨q, w⟩, hx⟩ := get_some hi
      have hxr := hb.rng _ (List.mem_of_getElem? hx)
      have hxs := hb.size i _ hx
      simp only at hxr hxs
      have hdrop : (bfs o i).drop i = (q, w) :: (bfs o i).drop (i + 1) := by
        rw [List.drop_eq_getElem_cons hi, (List.getElem?_eq_some_iff.1 hx).2]
      obtain ⟨hnq, hview⟩ := st5.qview 1 rfl
      rw [hdrop] at st5
      (conv => whnf); refine ixrn (i := 0) sl93 hview hnq (by rw [hdrop]; rfl) rfl ?_
      rintro b6 o6 c6 hS6 hc6 ⟨_, _, rfl, ⟨rfl, -⟩, rfl, -⟩
      (conv => whnf); refine ldN (cs := [.int .i64 q, .string w]) ag92 hc6 trivial ?_
      (conv => whnf); refine valloc _ [.int .i64 0, .string ⟨#[]⟩] rfl rfl ?_
      intro xb H6 hxb hs6 hb6 ha6
      have st6 := st5.box hxb hs6 hb6 ha6
      (conv => whnf); refine stNB (cs := [.int .i64 q, .string w]) st6 2 rfl rfl (Nat.le_refl 2) rfl fun H7 st7 => ?_
      (conv => whnf); refine cutQ st7 1 sl93 rfl fun a1 c1 st8 => ?_
      have hx7 : Blk H7 xb 92 [.int .i64 q, .string w] := st8.blk 2 rfl
      (conv => whnf); refine VC.fa fl92_0 ?_
      (conv => whnf); refine ld1 ct3 (by rw [hx7.cell]; rfl) trivial ?_
      (conv => whnf); refine pures (final_p (hF st8.old)) fun H9 ha9 => ?_
      have st9 := st8.call ha9
      have hx9 : Blk H9 xb 92 [.int .i64 q, .string w] := st9.blk 2 rfl
      cases hf : finM o q with
      | true =>
        have := least_some (by omega) hx hf hno
        rw [hlm] at this
        cases this
        (conv => whnf); refine VC.fa fl92_1 ?_
        (conv => whnf); refine ld1 ct9 (by rw [hx9.cell]; rfl) trivial ?_
        (conv => whnf)
        exact ⟨rfl, st9.old⟩
      | false =>
        (conv => whnf); refine VCall.mk (cells_o (hL st9.old) (hF st9.old)) ?_
        rintro cv H10 ⟨ha10, hs10, hcv⟩
        obtain ⟨ca, cc, rfl, st10⟩ := st9.got ha10 hcv
        have hbs : bfs o (i + 1) = exTo o (q, w) (bfs o i) 256 := by rw [bfs, hx]
        have hall := exC_eq hc (bfs o i) (x := (q, w)) hxr.1 hxr.2
        (conv => whnf)
        refine VLoop.mk [5, 32] (fun x : Nat × List FW × Option Addr × Nat => match x with | (j, G, a, c) => [.slice a (G.length - (i + 1)) c, .int .i64 j])
          (fun x H11 => x.1 ≤ (cellsM o).length ∧ x.2.1 = ((cellsM o).take x.1).foldl (fun F c => ex1 o (q, w) F (nextM c 0).1) (bfs o i) ∧ St H H11 [pM (Value.int .i64) mb (mF x.2.1), pQ tFnd 92 x.2.2.1 (x.2.1.length - (i + 1)) x.2.2.2 (x.2.1.drop (i + 1)), pB 92 xb [.int .i64 q, .string w], pS tSet 78 ca (cellsM o).length cc (cellsM o)]) (fun x _ => (cellsM o).length - x.1) ?_ ?_
        · (conv => whnf)
          refine ⟨(0, bfs o i, a1, c1), by simp, by simp, rfl, ?_⟩
          have : ((bfs o i).drop (i + 1)).length = (bfs o i).length - (i + 1) := List.length_drop
          rw [this] at st10
          exact st10
        · rintro ⟨j, G, a2, c2⟩ H11 junk11 ⟨hj, hG, st11⟩
          simp only at hj hG st11
          (conv => whnf); refine VIte.mk (fun h => ?_) (fun h => ?_) <;> simp only [decide_eq_true_eq, decide_eq_false_iff_not] at h
          · obtain ⟨cs, hcs⟩ := get_some (l := cellsM o) (k := j) (by omega)
            have hfold : ((cellsM o).take (j + 1)).foldl (fun F c => ex1 o (q, w) F (nextM c 0).1) (bfs o i) = ex1 o (q, w) G (nextM cs 0).1 := by rw [take_succ_snoc hcs, List.foldl_append, ← hG]; rfl
            have hGl := exC_len o (q, w) ((cellsM o).take j) (bfs o i)
            rw [← hG, List.length_take] at hGl
            (conv => whnf); refine VSeq.run ?_
            (conv => whnf); refine ixO sl80 st11 3 rfl hcs rfl ?_
            rintro b12 o12 c12 _ hc12 rfl
            (conv => whnf); refine ldN (cs := setL cs) ag78 hc12 trivial ?_
            (conv => whnf); refine valloc (setV 0) (setL 0) rfl rfl ?_
            intro q12 H12 hq12 hs12 hb12 ha12
            have st12 := st11.box hq12 hs12 hb12 ha12
            (conv => whnf); refine stNB st12 4 rfl rfl (Nat.le_refl 4) rfl fun H13 st13 => ?_
            have hq13 : Blk H13 q12 78 (setL cs) := st13.blk 4 rfl
            (conv => whnf); refine ldN (cs := setL cs) ag78 (hq13.cells fun j v hv => by rw [Nat.zero_add]; exact hv) trivial ?_
            (conv => whnf); refine pures (next_p cs 0 (by decide) H13) fun H14 ha14 => ?_
            have st14 := (st13.pick [0, 1, 2, 3] (by decide)).call ha14
            have hx14 : Blk H14 xb 92 [.int .i64 q, .string w] := st14.blk 2 rfl
            have nx := nextM_lt cs 0
            generalize (nextM cs 0).1 = nb at *
            (conv => whnf); refine VC.fa fl92_0 ?_
            (conv => whnf); refine ld1 ct3 (by rw [hx14.cell]; rfl) trivial ?_
            (conv => whnf); refine pures (step_p (hL st14.old) (hF st14.old) nx) fun H15 ha15 => ?_
            have st15 := st14.call ha15
            have hx15 : Blk H15 xb 92 [.int .i64 q, .string w] := st15.blk 2 rfl
            have hsr := hst q nb hxr.1 hxr.2 nx
            have hex : ex1 o (q, w) G nb = if hasS G (stepM o q nb) then G else G ++ [(stepM o q nb, w ++ oneB nb)] := rfl
            generalize stepM o q nb = t at *
            (conv => whnf); refine mlook (a := t) mapI (keyI .i64) (st15.map 0 rfl) trivial ?_
            unfold mF
            cases hh : hasS G t with
            | true =>
              rw [hh] at hex
              simp only [if_true] at hex
              (conv => whnf); rw [w64 (x := (j : Int) + 1) (by omega) (by omega)]
              exact ⟨rfl, (j + 1, G, a2, c2), by simp, ⟨by simp only; omega, by simp only; rw [hfold, hex], st15⟩, by simp only; omega⟩
            | false =>
              rw [hh] at hex
              simp only [Bool.false_eq_true, if_false] at hex
              (conv => whnf); refine mputP (enc := Value.int .i64) (a := t) (m' := mF (G ++ [(t, w ++ oneB nb)])) st15 0 mapI (keyI .i64) rfl (fun a' => mF_put G t _ a') fun H16 st16 => ?_
              have hx16 : Blk H16 xb 92 [.int .i64 q, .string w] := st16.blk 2 rfl
              (conv => whnf); refine VC.fa fl92_1 ?_
              (conv => whnf); refine ld1 ct9 (by rw [hx16.cell]; rfl) trivial ?_
              (conv => whnf); refine vbuild1 sl48 [.int .u8 (nb : Int)] rfl rfl (by decide) (by decide) ?_
              intro q17 H17 hq17 hs17 hb17 ha17
              have st17 := st16.skip hq17 ha17
              (conv => whnf); refine vb2s [nb] rfl rfl rfl (fun j x hx => by
                have hj : j = 0 := by have := (List.getElem?_eq_some_iff.1 hx).1; simpa using this
                subst hj
                cases hx
                rw [hb17.cell]; rfl) rfl ?_
              have hwsz : (oneB nb).size = 1 := rfl
              (conv => whnf); refine vcat (a := w) (b := oneB nb) (by rw [hwsz]; unfold maxLen; omega) ?_
              (conv => whnf); refine vbuildS rfl rfl _ rfl [.int .i64 t, .string (w ++ oneB nb)] (by rfl) ?_
              (conv => whnf); refine vbuild1 sl93 [.int .i64 t, .string (w ++ oneB nb)] rfl rfl (by decide) (by decide) ?_
              intro q18 H18 hq18 hs18 hb18 ha18
              have st18 := st17.skip hq18 ha18
              have hdl : (G.drop (i + 1)).length = G.length - (i + 1) := List.length_drop
              have hcat := cat_size w nb
              (conv => whnf); refine appQ (ys := [(t, w ++ oneB nb)]) st18 1 sl93 rfl (hb18.cells fun j v hv => by rw [Nat.zero_add]; exact hv)
                  (Ty.reps_one ⟨[.int .i64 t], [.string (w ++ oneB nb)], rfl, ⟨rfl, by simp [IntKind.min, IntKind.signed, IntKind.bits]; omega, by simp [IntKind.max, IntKind.signed, IntKind.bits]; omega⟩, rfl, by rw [hcat]; unfold maxLen; omega⟩) rfl (fw_ones _ _) (by rw [hdl]; simp only [maxLen, List.length_singleton]; omega) (by rw [hdl]; simp only [List.length_singleton]; omega) fun a3 c3 H19 st19 _ => ?_
              (conv => whnf); rw [w64 (x := (j : Int) + 1) (by omega) (by omega)]
              have hGl2 : (G ++ [(t, w ++ oneB nb)]).length - (i + 1) = (G.drop (i + 1)).length + [(t, w ++ oneB nb)].length := by rw [hdl]; simp; omega
              have hGd : (G ++ [(t, w ++ oneB nb)]).drop (i + 1) = G.drop (i + 1) ++ [(t, w ++ oneB nb)] := List.drop_append_of_le_length (by omega)
              refine ⟨rfl, (j + 1, G ++ [(t, w ++ oneB nb)], a3, c3), by simp only; rw [hGl2]; simp, ⟨by simp only; omega, by simp only; rw [hfold, hex], ?_⟩, by simp only; omega⟩
              simp only
              rw [hGl2, hGd]
              exact st19
          · obtain rfl : j = (cellsM o).length := by omega
            rw [List.take_length, hall, ← hbs] at hG
            subst hG
            have hpre := bfs_pre o i
            have hnx : i + 1 < (bfs o (i + 1)).length := by
              apply Classical.byContradiction
              intro hle
              have hlen1 := (bfs_ok hst hn1 (i + 1)).len
              have hl0 : (bfs o i).length ≤ (bfs o (i + 1)).length := hpre.length_le
              have := least_none (o := o) (i := i + 1) (by omega) (by omega) (fun j y hy => by
                have hjl := (List.getElem?_eq_some_iff.1 hy).1
                obtain ⟨y', hy'⟩ := get_some (l := bfs o i) (k := j) (by omega)
                have e := pre_get hpre hy'
                rw [hy] at e
                cases e
                by_cases hji : j = i
                · subst hji; rw [hx] at hy'; cases hy'; exact hf
                · exact hno j y (by omega) hy')
              rw [hlm] at this
              cases this
            (conv => whnf)
            refine ⟨rfl, (i + 1, a2, c2), rfl, ⟨hnx, fun j y hj hy => ?_, st11.pick [0, 1] (by decide)⟩, by simp only; have := (bfs_ok hst hn1 (i + 1)).len; omega⟩
            simp only at hj
            obtain ⟨y', hy'⟩ := get_some (l := bfs o i) (k := j) (by omega)
            have e := pre_get hpre hy'
            rw [hy] at e
            cases e
            by_cases hji : j = i
            · subst hji; rw [hx] at hy'; cases hy'; exact hf
            · exact hno j y (by omega) hy'
end Go.Proofs.Ytkgmhkcncemmkaa
