/- words' from. -/
import Derived.Test.YtkgmhkcncemmkaaPWrd1
set_option linter.unusedVariables false
set_option linter.unusedSimpArgs false
set_option maxRecDepth 100000
namespace Go.Proofs.Ytkgmhkcncemmkaa
open Go.VC
attribute [local irreducible] mRun

/-- A tally has grown. -/
structure TS (H : Heap) (F : Nat → Prop) (H1 : Heap) (F1 : Nat → Prop) (va : Value) (o : Option AM) (pb L1 : Nat) : Prop where
  tal : Tal F1 H1 va o pb L1
  agr : Agr (fun k => k < H.size ∧ ¬ F k) H H1
  from_ : ∀ k, F1 k → F k ∨ H.size ≤ k
  lt : ∀ k, F1 k → k < H1.size
  le : H.size ≤ H1.size

set_option maxHeartbeats 8000000 in
theorem from_c {S F : Nat → Prop} {H : Heap} {va : Value} {o : Option AM} {pb L q n : Nat} (hS : ∀ k, S k → k < H.size ∧ ¬ F k) (hF : ∀ k, F k → k < H.size) (hv : AutoV S H va o) (ht : Tal F H va o pb L) (hL : 1 ≤ L) (hL2 : L ≤ 65) (hn : n ≤ 64) (hq : q < stN o) :
    FnOk Try.prog 42 #[.pointer (some ⟨pb, 0, none⟩), .int .i64 (q : Int), .int .i64 (n : Int)] H fun v' H' => v' = .int .u64 (cntP o n (q : Int) : Int) ∧ ∃ F', TS H F H' F' va o pb (max L (n + 1)) := by
  obtain ⟨hn1, hn2⟩ := stN_le hv
  have hcn : (cellsM o).length ≤ 256 := by
    cases o with
    | none => decide
    | some A => obtain ⟨_, _, _, hok, _⟩ := hv; exact hok.sl
  refine FnOk.of_vc Try.func42 rfl (Try.call42 _) ?_
  (conv => whnf)
  refine VLoop.mk [] (fun _ : Nat => []) (fun L1 H1 => L ≤ L1 ∧ L1 ≤ max L (n + 1) ∧ ∃ F1, TS H F H1 F1 va o pb L1) (fun L1 _ => n + 1 - L1) ?_ ?_
  · (conv => whnf)
    exact ⟨L, rfl, Nat.le_refl _, by omega, F, ht, Agr.refl _ _, fun k hk => .inl hk, hF, Nat.le_refl _⟩
  · rintro L1 H1 junk ⟨hL1, hL1', F1, ts⟩
    obtain ⟨hown, ca, cc, ra, rc, S1, C1, hb, hc, hr, h5, h6, h7⟩ := ts.tal
    have hva1 : AutoV S H1 va o := hv.frame (ts.agr.mono hS)
    have hS1 : ∀ k, S k → Old H1 k ∧ ¬ F1 k := fun k hk => ⟨by have := (hS k hk).1; have := ts.le; unfold Old; omega, fun hf => by
      rcases ts.from_ k hf with h | h
      · exact (hS k hk).2 h
      · have := (hS k hk).1; omega⟩
    have hpb1 := ts.lt pb hown
    obtain ⟨_, _, er, hrows, -⟩ := hr.view (S' := Old H1) (fun b hb => ts.lt b (h6 b hb).1) (fun b hb => ts.lt b (h5 b hb).1)
    injection er with e1 e2 e3
    subst e1; subst e3
    have rl := rowsP_len o L1
    have hcC := hc
    have hc := hc.mono (S' := Old H1) fun k hk => ts.lt k (h7 k hk).1
    (conv => whnf); refine VC.fa fl131_2 ?_
    (conv => whnf); refine ld1 ct129 (by rw [hb.cell]; rfl) trivial ?_
    by_cases hle : L1 ≤ n
    · have d1 : decide ((L1 : Int) ≤ (n : Int)) = true := decide_eq_true (by omega)
      obtain ⟨m, rfl⟩ : ∃ m, L1 = m + 1 := ⟨L1 - 1, by omega⟩
      (conv => whnf); rw [d1]
      (conv => whnf); refine VDraw.lex rfl (by kernel_rfl) ?_
      (conv => whnf); refine VC.fa fl131_2 ?_
      (conv => whnf); refine ld1 ct129 (by rw [hb.cell]; rfl) trivial ?_
      (conv => whnf); refine VC.fa fl131_2 ?_
      (conv => whnf); refine ld1 ct129 (by rw [hb.cell]; rfl) trivial ?_
      (conv => whnf); rw [w64 (x := ((m + 1 : Nat) : Int) - 1) (by omega) (by omega)]
      (conv => whnf); refine ixrn (i := m) sl129 hrows rl.symm (rowsP_get o (by omega)) (by omega) ?_
      rintro bl ol cl hSl hcl ⟨la, lc, rfl, hlast⟩
      (conv => whnf); refine ld1 ct132 hcl.one trivial ?_
      have pl := rowP_len o m
      have nl := rowP_len o (m + 1)
      rw [pl]
      (conv => whnf); refine vmake1 sl132 rfl (by omega) (by omega) (by omega) (by omega) ?_
      intro rb H2 hrb hs2 hb2 ha2
      rw [Int.toNat_natCast] at hb2
      rw [Int.toNat_natCast]
      have st2 := (St.nil H1).new (T := tU) (n := stN o) (xs := List.replicate (stN o) 0) hrb hs2 hb2 ha2 (reps_of_ones (by simp) fun i v x h1 h2 => by
        rw [List.getElem?_replicate] at h1 h2
        split at h1
        · rename_i hi; rw [if_pos hi] at h2; cases h1; cases h2; exact ⟨rfl, inU64 (x := 0) (by decide)⟩
        · cases h1) (by simp) (by unfold maxLen; omega)
      (conv => whnf)
      refine VLoop.mk [38] (fun k : Nat => [.int .i64 k]) (fun k H3 => k ≤ stN o ∧ St H1 H3 [pS tU 76 (some ⟨rb, 0, none⟩) (stN o) (stN o) ((rowP o (m + 1)).take k ++ List.replicate ((rowP o (m + 1)).length - k) 0)]) (fun k _ => stN o - k) ?_ ?_
      · (conv => whnf)
        exact ⟨0, rfl, by omega, by rw [fill_beg, nl]; exact st2⟩
      · rintro k H3 junk3 ⟨hk, st3⟩
        have hb3 := hb.agr st3.old hpb1
        (conv => whnf); refine VIte.mk (fun h => ?_) (fun h => ?_) <;> simp only [decide_eq_true_eq, decide_eq_false_iff_not] at h
        · have hget : (rowP o (m + 1))[k]? = some ((cellsM o).foldl (cellF o m (k : Int)) 0 : Nat) := rowP_get o (m + 1) (by omega)
          have hklen : k < ((rowP o (m + 1)).take k ++ List.replicate ((rowP o (m + 1)).length - k) (0 : Int)).length := by rw [fill_len (by omega)]; omega
          (conv => whnf); refine VC.fa fl131_1 ?_
          (conv => whnf); refine ld1 ct80 (by rw [hb3.cell]; rfl) trivial ?_
          (conv => whnf)
          refine VLoop.mk [46] (fun j : Nat => [.int .i64 j]) (fun j H4 => j ≤ (cellsM o).length ∧ St H1 H4 [pS tU 76 (some ⟨rb, 0, none⟩) (stN o) (stN o) (((rowP o (m + 1)).take k ++ List.replicate ((rowP o (m + 1)).length - k) 0).set k (((cellsM o).take j).foldl (cellF o m (k : Int)) 0 : Nat))]) (fun j _ => (cellsM o).length - j) ?_ ?_
          · (conv => whnf)
            refine ⟨0, rfl, by omega, ?_⟩
            rw [List.take_zero, List.foldl_nil, Int.natCast_zero, set_same (fill_get (l := rowP o (m + 1)) (z := (0 : Int)) (by omega))]
            exact st3
          · rintro j H4 junk4 ⟨hj, st4⟩
            have hb4 := hb.agr st4.old hpb1
            (conv => whnf); refine VIte.mk (fun h => ?_) (fun h => ?_) <;> simp only [decide_eq_true_eq, decide_eq_false_iff_not] at h
            · obtain ⟨c, hcj⟩ := get_some (l := cellsM o) (k := j) (by omega)
              have htk := take_succ_snoc hcj
              have hal := cellF_le o m (k : Int) ((cellsM o).take j) 0 (by decide)
              have hfold : ((cellsM o).take (j + 1)).foldl (cellF o m (k : Int)) 0 = cellF o m (k : Int) (((cellsM o).take j).foldl (cellF o m (k : Int)) 0) c := by rw [htk, List.foldl_append]; rfl
              generalize ((cellsM o).take j).foldl (cellF o m (k : Int)) 0 = acc at *
              (conv => whnf); refine ixr sl80 (hc.frame st4.old) hcj rfl ?_
              rintro b5 o5 cs5 hSb5 hcells5 rfl
              (conv => whnf); refine ldN (cs := setL c) ag78 hcells5 trivial ?_
              (conv => whnf); refine valloc (setV 0) (setL 0) rfl rfl ?_
              intro q5 H5 hq5 hs5' hb5 ha5
              have st5 := st4.box hq5 hs5' hb5 ha5
              (conv => whnf); refine stNB st5 1 rfl rfl (Nat.le_refl 4) rfl fun H6 st6 => ?_
              have hq6 : Blk H6 q5 78 (setL c) := st6.blk 1 rfl
              (conv => whnf); refine ldN (cs := setL c) ag78 (hq6.cells fun j v hv => by rw [Nat.zero_add]; exact hv) trivial ?_
              (conv => whnf); refine pures (next_p c 0 (by decide) H6) fun H7 ha7 => ?_
              have st7 := st6.call ha7
              have hq7 : Blk H7 q5 78 (setL c) := st7.blk 1 rfl
              have hb7 := hb.agr st7.old hpb1
              have nx := nextM_lt c 0
              have cl := count_le c
              have hstep := step_rng hva1 (q := k) (b := (nextM c 0).1) (by omega) nx
              obtain ⟨q', hq'⟩ := Int.eq_ofNat_of_zero_le hstep.1
              have hcP := cntP_le o m (q' : Int)
              have hcell : cellF o m (k : Int) acc c = min (acc + min (cntP o m (q' : Int) * countM c) TM) TM := by unfold cellF; rw [hq']
              have gacc : (((rowP o (m + 1)).take k ++ List.replicate ((rowP o (m + 1)).length - k) (0 : Int)).set k (acc : Int))[k]? = some (acc : Int) := List.getElem?_set_self hklen
              have hva7 : ∀ {H' : Heap}, Agr (Old H1) H1 H' → AutoV S H' va o := fun h => hva1.frame (h.mono fun k hk => (hS1 k hk).1)
              (conv => whnf); refine VDraw.held (Old H7) 22 (sq [0,1,2,3,4,5,6,7,8,9,10,11,12,16] (.f 13 (sq [14,15] (.f 17 (sq [18] (.f 19 (.f 20 (sq [21] (.f 22 .e)))))))) ) rfl (by kernel_rfl) ?_
              (conv => whnf); refine ixO sl132 st7 0 rfl gacc rfl ?_
              rintro b8 o8 c8 hO8 hc8 ⟨rfl, -⟩
              (conv => whnf); refine ld1 ct76 hc8.one hO8 ?_
              (conv => whnf); refine VC.fa fl131_0 ?_
              (conv => whnf); refine ld1 (v := va) ct31 (by rw [hb7.cell]; rfl) hb7.lt ?_
              (conv => whnf); refine ldN (cs := setL c) ag78 (hq7.cells fun j v hv => by rw [Nat.zero_add]; exact hv) hq7.lt ?_
              (conv => whnf); refine pures (step_p (fun k hk => old_lt st7.old (hS1 k hk).1) (hva7 st7.old) nx) fun H8 ha8 => ?_
              have st8 := st7.call ha8
              refine ⟨ha8, ?_⟩
              rw [hq']
              (conv => whnf); refine ixrn (i := q') sl132 ((hlast.frame st8.old).mono fun k hk => old_lt st7.old hk) pl.symm (rowP_get o m (by omega)) rfl ?_
              rintro b9 o9 c9 hO9 hc9 ⟨rfl, -⟩
              (conv => whnf); refine ld1 ct76 hc9.one hO9 ?_
              (conv => whnf); refine pures (count_p c H8) fun H9 ha9 => ?_
              have st9 := st8.call ha9
              have h79 := ha8.trans (ha9.mono fun k hk => old_lt ha8 hk)
              refine ⟨h79, ?_⟩
              (conv => whnf); rw [wrap_in (k := .u64) (inU64 (x := countM c) (by omega))]
              (conv => whnf); refine pures (times_p (cntP o m (q' : Int)) (countM c) hcP cl H9) fun H10 ha10 => ?_
              have st10 := st9.call ha10
              have h710 := h79.trans (ha10.mono fun k hk => old_lt h79 hk)
              refine ⟨h710, ?_⟩
              (conv => whnf); refine pures (add_p acc (min (cntP o m (q' : Int) * countM c) TM) hal (Nat.min_le_right _ _) H10) fun H11 ha11 => ?_
              have st11 := st10.call ha11
              refine ⟨h710.trans (ha11.mono fun k hk => old_lt h710 hk), ?_⟩
              rw [← hcell]
              have hcle : cellF o m (k : Int) acc c ≤ TM := Nat.min_le_right _ _
              unfold TM at hcle
              (conv => whnf); refine ix sl132 (by omega) (by omega) ?_
              (conv => whnf); refine st1O (x := (cellF o m (k : Int) acc c : Int)) st11 0 ct76 rfl rfl (by rw [Nat.zero_add, Nat.mul_one, Int.toNat_natCast]) (by rw [List.length_set]; exact hklen) rfl (fun _ _ => ⟨rfl, inU64 (by omega)⟩) fun H12 st12 => ?_
              rw [List.set_set] at st12
              (conv => whnf); rw [w64 (x := (j : Int) + 1) (by omega) (by omega)]
              refine ⟨rfl, j + 1, by simp, ⟨by omega, ?_⟩, by omega⟩
              rw [hfold]
              exact st12.pick [0] (by decide)
            · obtain rfl : j = (cellsM o).length := by omega
              rw [List.take_length] at st4
              rw [fill_set hget] at st4
              (conv => whnf); rw [w64 (x := (k : Int) + 1) (by omega) (by omega)]
              exact ⟨rfl, k + 1, by simp, ⟨by omega, st4⟩, by omega⟩
        · obtain rfl : k = stN o := by omega
          have hfe := fill_end (l := rowP o (m + 1)) (z := (0 : Int))
          rw [nl] at hfe st3
          rw [hfe] at st3
          (conv => whnf); refine VC.fa fl131_2 ?_
          (conv => whnf); refine ld1 ct129 (by rw [hb3.cell]; rfl) trivial ?_
          (conv => whnf); refine vbuild1 sl129 [.slice (some ⟨rb, 0, none⟩) (stN o) (stN o)] rfl rfl (by decide) (by decide) ?_
          intro q4 H4 hq4 hs4 hb4 ha4
          have st4 := st3.skip hq4 ha4
          have hb4t := hb.agr st4.old hpb1
          have hrb4 := (st4.in_ 0 rfl (.inl ⟨0, _, _, rfl⟩)).2
          have hrbge : H1.size ≤ rb := by omega
          have hrow' : SlD tU (fun j => S1 j ∨ j = rb) H4 (some ⟨rb, 0, none⟩) (stN o) (rowP o (m + 1)) := by
            obtain ⟨_, _, e, h, -⟩ := (st4.at_ 0 rfl).1.view (S' := fun j => S1 j ∨ j = rb) (fun b hb => by obtain ⟨_, _, _, e⟩ := hb; cases e; exact .inr rfl) (fun _ f => f.elim)
            injection e with e1 e2 e3
            subst e1; subst e3; exact h
          have hr4 : SlO (tSl tU) (fun j => S1 j ∨ j = rb) H4 0 132 (.slice ra (m + 1) rc) (rowsP o (m + 1)) := (hr.agr st4.old (fun b hb => ts.lt b (h6 b hb).1) (fun b hb => ts.lt b (h5 b hb).1)).mono fun b hb => .inl hb
          (conv => whnf); refine vappendO (T := tSl tU) (S := fun j => S1 j ∨ j = rb) (lo := 0) (xs := rowsP o (m + 1)) (ys := [rowP o (m + 1)]) sl129 hr4 (Nat.zero_le _) (fun j hj => ?_) (hb4.cells fun j v hv => by simpa using hv)
              (Ty.reps_one ⟨some ⟨rb, 0, none⟩, stN o, by rw [nl], hrow'⟩) rfl (by intro u hu; cases List.mem_singleton.1 hu; rfl) (by rw [rl]; simp only [maxLen, List.length_singleton]; omega) (by rw [rl]; simp only [List.length_singleton]; omega) ?_
          · rcases hj with hj | rfl
            · exact ⟨st4.up (ts.lt j (h5 j hj).1), (h5 j hj).2.2⟩
            · exact ⟨hrb4, fun hb => by have := ts.lt _ (h6 _ hb).1; omega⟩
          intro v5 H5 hv5 ha5 hs5 hfr5
          obtain ⟨ra', rc', rfl⟩ := hv5.hull
          rw [List.length_append, rl, List.length_singleton] at hv5 hfr5 ⊢
          rw [← rowsP_succ] at hv5
          have hpbr : ¬ slB (.slice ra (m + 1) rc) pb := fun hb => (h6 pb hb).2 rfl
          have hpb4 := st4.up (show Old H1 pb from hpb1)
          have hb5 := hb4t.agr ha5 ⟨hpb4, hpbr⟩
          (conv => whnf); refine VC.fa fl131_2 ?_
          (conv => whnf); refine VC.st1 ct129 hb5 (by simp) rfl ?_
          intro H6 hb6 ha6 hs6
          (conv => whnf)
          have hsz4 := st4.size
          -- what neither the rows nor the head hold stays
          have keep : Agr (fun k => k < H1.size ∧ k ≠ pb ∧ ¬ slB (.slice ra (m + 1) rc) k) H1 H6 := (st4.old.mono fun k hk => hk.1).trans ((ha5.mono fun k hk => ⟨st4.up (show Old H1 k from hk.1), hk.2.2⟩).trans (ha6.mono fun k hk => hk.2.1))
          refine ⟨rfl, m + 1 + 1, rfl, ⟨by omega, by omega, fun k => F1 k ∨ (H1.size ≤ k ∧ k < H6.size), ⟨.inl hown, ca, cc, ra', rc', fun j => S1 j ∨ j = rb, C1, hb6, ?_, ?_, ?_, ?_, ?_⟩, ?_, ?_, ?_, ?_⟩, by omega⟩
          · exact hcC.frame (keep.mono fun k hk => ⟨ts.lt k (h7 k hk).1, (h7 k hk).2⟩)
          · refine hv5.agr ha6 (fun b hb => ?_) (fun b hb => ?_)
            · rcases hfr5 b hb with h | h
              · exact (h6 b h).2
              · omega
            · rcases hb with hb | rfl
              · exact (h5 b hb).2.1
              · omega
          · rintro k (hk | rfl)
            · refine ⟨.inl (h5 k hk).1, (h5 k hk).2.1, fun hb => ?_⟩
              rcases hfr5 k hb with h | h
              · exact (h5 k hk).2.2 h
              · have := st4.up (ts.lt k (h5 k hk).1); omega
            · refine ⟨.inr ⟨hrbge, by omega⟩, by omega, fun hb => ?_⟩
              rcases hfr5 _ hb with h | h
              · have := ts.lt _ (h6 _ h).1; omega
              · omega
          · intro k hk
            rcases hfr5 k hk with h | h
            · exact ⟨.inl (h6 k h).1, (h6 k h).2⟩
            · exact ⟨.inr ⟨by omega, by have := (hv5.lt hk).2; omega⟩, by omega⟩
          · intro k hk
            refine ⟨.inl (h7 k hk).1, (h7 k hk).2.1, fun hb => ?_⟩
            rcases hfr5 k hb with h | h
            · exact (h7 k hk).2.2 h
            · have := st4.up (ts.lt k (h7 k hk).1); omega
          · refine ts.agr.trans (keep.mono fun k hk => ?_)
            have hk1 : k < H1.size := by have := ts.le; have := hk.1; omega
            have hkF : ¬ F1 k := fun hf => by
              rcases ts.from_ k hf with h | h
              · exact hk.2 h
              · have := hk.1; omega
            exact ⟨hk1, fun e => hkF (e ▸ hown), fun hb => hkF (h6 k hb).1⟩
          · rintro k (hk | hk)
            · exact ts.from_ k hk
            · have := ts.le; exact .inr (by omega)
          · rintro k (hk | hk)
            · have := ts.lt k hk; omega
            · exact hk.2
          · have := ts.le; omega
    · have d1 : decide ((L1 : Int) ≤ (n : Int)) = false := decide_eq_false (by omega)
      (conv => whnf); rw [d1]
      (conv => whnf); refine VC.fa fl131_2 ?_
      (conv => whnf); refine ld1 ct129 (by rw [hb.cell]; rfl) trivial ?_
      (conv => whnf); refine ixrn (i := n) sl129 hrows rl.symm (rowsP_get o (by omega)) rfl ?_
      rintro bl ol cl hSl hcl ⟨la, lc, rfl, hlast⟩
      (conv => whnf); refine ld1 ct132 hcl.one trivial ?_
      (conv => whnf); refine ixr (i := q) sl132 hlast (rowP_get o n hq) rfl ?_
      rintro b2 o2 c2 hS2 hc2 ⟨rfl, -⟩
      (conv => whnf); refine ld1 ct76 hc2.one trivial ?_
      (conv => whnf)
      obtain rfl : L1 = max L (n + 1) := by omega
      exact ⟨rfl, F1, ts⟩
end Go.Proofs.Ytkgmhkcncemmkaa
