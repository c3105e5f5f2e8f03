/- loupelaw25.laid: the walk. (printed by mkfd4.py) -/
import Derived.Test.YtfdlhakfmbdamaaDoorPFd3
set_option linter.unusedVariables false
set_option linter.unusedSimpArgs false
set_option maxRecDepth 100000
namespace Go.Proofs.YtfdlhakfmbdamaaDoor
open Go.VC
def spoT : ByteArray := ⟨#[115, 112, 111, 105, 108, 116]⟩
set_option maxHeartbeats 16000000 in
theorem laid_p {S : Nat → Prop} {H : Heap} {ta ba0 : Option Addr} {tc bc0 : Nat} {things : List (ByteArray × ByteArray)} {breaks : List (Bool × Int × Int)} (hv : SlD tFile S H ta tc things) (hw : SlD tBrk S H ba0 bc0 breaks) (hS : ∀ k, S k → k < H.size) (hl1 : things.length ≤ 1048576) (hl2 : breaks.length ≤ 1048576) :
    FnOk Tryd.prog 7 #[.slice ta things.length tc, .slice ba0 breaks.length bc0] H fun v H' => ∃ s fm rm wm sd fa fc ba bc, v = .tuple #[.pointer (some ⟨s, 0, none⟩), .pointer (some ⟨sd, 0, none⟩)] ∧ St H H' (sysL s fm rm wm (newM things breaks) ++ docL sd fa fc ba bc (newM things breaks)) := by
  refine FnOk.of_vc Tryd.func7 rfl (Tryd.call7 _) ?_
  have st0 : St H H [pS tFile 33 none 0 0 [], pS tFile 65 none 0 0 [], pS tBrk 68 none 0 0 [], pS tBrk 69 none 0 0 []] := ((((St.nil H).nils tFile 33).nils tFile 65).nils tBrk 68).nils tBrk 69
  (conv => whnf)
  refine VLoop.mk [6, 8, 10] (fun y : Nat × Option Addr × Nat × Option Addr × Nat => match y with | (k, a1, c1, a2, c2) => [.slice a1 (things.take k).length c1, .slice a2 (things.take k).length c2, .int .i64 (k : Int)]) (fun y G => match y with | (k, a1, c1, a2, c2) => k ≤ things.length ∧ St H G [pS tFile 33 a1 (things.take k).length c1 (things.take k), pS tFile 65 a2 (things.take k).length c2 (things.take k), pS tBrk 68 none 0 0 [], pS tBrk 69 none 0 0 []]) (fun y _ => match y with | (k, _) => things.length - k) ?_ ?_
  · (conv => whnf)
    exact ⟨(0, none, 0, none, 0), rfl, Nat.zero_le _, st0⟩
  · rintro ⟨k, a1, c1, a2, c2⟩ G junk ⟨hk, stg⟩
    have hag := stg.old
    (conv => whnf); refine VIte.mk (fun hz => ?_) (fun hz => ?_) <;> simp only [decide_eq_true_eq, decide_eq_false_iff_not] at hz
    · have hkl : k < things.length := by omega
      obtain ⟨p, hpk⟩ : ∃ p, things[k]? = some p := ⟨things[k], List.getElem?_eq_getElem hkl⟩
      have htk : things.take (k + 1) = things.take k ++ [p] := by rw [List.take_add_one, hpk]; rfl
      have hvG := hv.frame (hag.mono hS)
      have hSG : ∀ q, S q → q < G.size := fun q hq => old_lt hag (hS q hq)
      have hz12 : p.1.size ≤ maxLen ∧ p.2.size ≤ maxLen := by
        obtain ⟨b, o, c, -, -, -, h3⟩ := hv.get hpk
        exact (file_rep h3).2
      obtain ⟨hz1, hz2⟩ := hz12
      (conv => whnf); refine VDraw.heldZ (Old G) [13, 14] (sq [0,1,2,3,4,5,6,7,8,9,10,11] (.f 12 (.f 13 (.f 14 .e)))) rfl (by kernel_rfl) ?_
      (conv => whnf); refine ixr sl22 hvG hpk rfl ?_
      intro b1 o1 d1 hb1 hd1 hr1
      obtain ⟨rfl, -, -⟩ := file_rep hr1
      (conv => whnf); refine VC.fa fl25_0 ?_
      (conv => whnf); refine ld1 (v := .string p.1) ct9 (hd1 0 _ rfl) (hSG _ hb1) ?_
      (conv => whnf); refine ixr sl22 hvG hpk rfl ?_
      intro b2 o2 d2 hb2 hd2 hr2
      obtain ⟨rfl, -, -⟩ := file_rep hr2
      (conv => whnf); refine VC.fa fl25_1 ?_
      (conv => whnf); refine ld1 (v := .string p.2) ct9 (hd2 1 _ rfl) (hSG _ hb2) ?_
      (conv => whnf); refine vbuildS Tryd.underlying33 rfl _ rfl (fileL p) rfl ?_
      (conv => whnf); refine vbuild1 sl31 (fileL p) rfl rfl (by decide) (by decide) ?_
      intro q H1 hq hs1 hb3 ha1
      refine ⟨ha1.mono fun k hk => by have : k < G.size := hk; omega, ?_⟩
      (conv => whnf); refine appO2 (ys := [p]) (stg.skip hq ha1) 0 sl31 rfl (hb3.cells fun j v hv => by rw [Nat.zero_add]; exact hv) (Ty.reps_one ⟨[.string p.1], [.string p.2], rfl, ⟨rfl, hz1⟩, ⟨rfl, hz2⟩⟩) rfl (by intro u hu; simp [fileL] at hu; rcases hu with rfl | rfl <;> rfl) (by simp; omega) (by decide) fun a' c' G' stg' ag' => ?_
      rw [← htk] at stg' ⊢
      have stg := stg'
      clear stg'
      have hag2 := stg.old
      have hvG' := hv.frame (hag2.mono hS)
      have hSG' : ∀ q, S q → q < G'.size := fun q hq => old_lt hag2 (hS q hq)
      (conv => whnf); refine VDraw.heldZ (Old G') [13, 14] (sq [0,1,2,3,4,5,6,7,8,9,10,11] (.f 12 (.f 13 (.f 14 .e)))) rfl (by kernel_rfl) ?_
      (conv => whnf); refine ixr sl22 hvG' hpk rfl ?_
      intro b1 o1 d1 hb1 hd1 hr1
      obtain ⟨rfl, -, -⟩ := file_rep hr1
      (conv => whnf); refine VC.fa fl25_0 ?_
      (conv => whnf); refine ld1 (v := .string p.1) ct9 (hd1 0 _ rfl) (hSG' _ hb1) ?_
      (conv => whnf); refine ixr sl22 hvG' hpk rfl ?_
      intro b2 o2 d2 hb2 hd2 hr2
      obtain ⟨rfl, -, -⟩ := file_rep hr2
      (conv => whnf); refine VC.fa fl25_1 ?_
      (conv => whnf); refine ld1 (v := .string p.2) ct9 (hd2 1 _ rfl) (hSG' _ hb2) ?_
      (conv => whnf); refine vbuildS Tryd.underlying65 rfl _ rfl (fileL p) rfl ?_
      (conv => whnf); refine vbuild1 sl52 (fileL p) rfl rfl (by decide) (by decide) ?_
      intro q2 H2 hq2 hs2 hb4 ha2
      refine ⟨ha2.mono fun k hk => by have : k < G'.size := hk; omega, ?_⟩
      (conv => whnf); refine appO2 (ys := [p]) (stg.skip hq2 ha2) 1 sl52 rfl (hb4.cells fun j v hv => by rw [Nat.zero_add]; exact hv) (Ty.reps_one ⟨[.string p.1], [.string p.2], rfl, ⟨rfl, hz1⟩, ⟨rfl, hz2⟩⟩) rfl (by intro u hu; simp [fileL] at hu; rcases hu with rfl | rfl <;> rfl) (by simp; omega) (by decide) fun a'' c'' G'' stg' ag' => ?_
      rw [← htk] at stg' ⊢
      have stg := stg'
      clear stg'
      (conv => whnf); rw [w64 (x := (k : Int) + 1) (by omega) (by omega)]
      exact ⟨rfl, (k + 1, a', c', a'', c''), rfl, ⟨by omega, stg⟩, by show things.length - (k + 1) < things.length - k; omega⟩
    · obtain rfl : k = things.length := by omega
      rw [List.take_length] at stg
      rw [List.take_length]
      (conv => whnf)
      refine VLoop.mk [7, 9, 11] (fun y : Nat × Option Addr × Nat × Option Addr × Nat => match y with | (k, a3, c3, a4, c4) => [.slice a3 (breaks.take k).length c3, .slice a4 (breaks.take k).length c4, .int .i64 (k : Int)]) (fun y G => match y with | (k, a3, c3, a4, c4) => k ≤ breaks.length ∧ St H G [pS tFile 33 a1 things.length c1 things, pS tFile 65 a2 things.length c2 things, pS tBrk 68 a3 (breaks.take k).length c3 (breaks.take k), pS tBrk 69 a4 (breaks.take k).length c4 (breaks.take k)]) (fun y _ => match y with | (k, _) => breaks.length - k) ?_ ?_
      · (conv => whnf)
        exact ⟨(0, none, 0, none, 0), rfl, Nat.zero_le _, stg⟩
      · clear stg hag
        rintro ⟨k, a3, c3, a4, c4⟩ G junk2 ⟨hk, stg⟩
        have hag := stg.old
        (conv => whnf); refine VIte.mk (fun hz => ?_) (fun hz => ?_) <;> simp only [decide_eq_true_eq, decide_eq_false_iff_not] at hz
        · have hkl : k < breaks.length := by omega
          obtain ⟨p, hpk⟩ : ∃ p, breaks[k]? = some p := ⟨breaks[k], List.getElem?_eq_getElem hkl⟩
          have htk : breaks.take (k + 1) = breaks.take k ++ [p] := by rw [List.take_add_one, hpk]; rfl
          have hwG := hw.frame (hag.mono hS)
          have hSG : ∀ q, S q → q < G.size := fun q hq => old_lt hag (hS q hq)
          have hrp : ∀ {S' : Nat → Prop} {H' : Heap}, tBrk.rep S' H' (breakL p) p := fun {S' H'} => by
            obtain ⟨b, o, c, -, -, -, h3⟩ := hw.get hpk
            rw [← brk_rep h3]
            exact brk_free _ _ _ _ _ _ h3
          (conv => whnf); refine VDraw.heldZ (Old G) [18, 19] (sq [0,1,2,3,4,5,6,7,8,9,10,11,12,13,14,15,16] (.f 17 (.f 18 (.f 19 .e)))) rfl (by kernel_rfl) ?_
          (conv => whnf); refine ixr sl23 hwG hpk rfl ?_
          intro b0 o0 d0 hb0 hd0 hr0
          obtain rfl := brk_rep hr0
          (conv => whnf); refine VC.fa fl67_0 ?_
          (conv => whnf); refine ld1 (v := .bool p.1) ct4 (hd0 0 _ rfl) (hSG _ hb0) ?_
          (conv => whnf); refine ixr sl23 hwG hpk rfl ?_
          intro b1 o1 d1 hb1 hd1 hr1
          obtain rfl := brk_rep hr1
          (conv => whnf); refine VC.fa fl67_1 ?_
          (conv => whnf); refine ld1 (v := .int .i64 p.2.1) ct3 (hd1 1 _ rfl) (hSG _ hb1) ?_
          (conv => whnf); refine ixr sl23 hwG hpk rfl ?_
          intro b2 o2 d2 hb2 hd2 hr2
          obtain rfl := brk_rep hr2
          (conv => whnf); refine VC.fa fl67_2 ?_
          (conv => whnf); refine ld1 (v := .int .i64 p.2.2) ct3 (hd2 2 _ rfl) (hSG _ hb2) ?_
          (conv => whnf); refine vbuildS Tryd.underlying68 rfl _ rfl (breakL p) rfl ?_
          (conv => whnf); refine vbuild1 sl64 (breakL p) rfl rfl (by decide) (by decide) ?_
          intro q H1 hq hs1 hb3 ha1
          refine ⟨ha1.mono fun k hk => by have : k < G.size := hk; omega, ?_⟩
          (conv => whnf); refine appO2 (ys := [p]) (stg.skip hq ha1) 2 sl64 rfl (hb3.cells fun j v hv => by rw [Nat.zero_add]; exact hv) (Ty.reps_one hrp) rfl (by intro u hu; simp [breakL] at hu; rcases hu with rfl | rfl | rfl <;> rfl) (by simp; omega) (by decide) fun a' c' G' stg' ag' => ?_
          rw [← htk] at stg' ⊢
          have stg := stg'
          clear stg'
          have hag2 := stg.old
          have hwG' := hw.frame (hag2.mono hS)
          have hSG' : ∀ q, S q → q < G'.size := fun q hq => old_lt hag2 (hS q hq)
          (conv => whnf); refine VDraw.heldZ (Old G') [18, 19] (sq [0,1,2,3,4,5,6,7,8,9,10,11,12,13,14,15,16] (.f 17 (.f 18 (.f 19 .e)))) rfl (by kernel_rfl) ?_
          (conv => whnf); refine ixr sl23 hwG' hpk rfl ?_
          intro b0 o0 d0 hb0 hd0 hr0
          obtain rfl := brk_rep hr0
          (conv => whnf); refine VC.fa fl67_0 ?_
          (conv => whnf); refine ld1 (v := .bool p.1) ct4 (hd0 0 _ rfl) (hSG' _ hb0) ?_
          (conv => whnf); refine ixr sl23 hwG' hpk rfl ?_
          intro b1 o1 d1 hb1 hd1 hr1
          obtain rfl := brk_rep hr1
          (conv => whnf); refine VC.fa fl67_1 ?_
          (conv => whnf); refine ld1 (v := .int .i64 p.2.1) ct3 (hd1 1 _ rfl) (hSG' _ hb1) ?_
          (conv => whnf); refine ixr sl23 hwG' hpk rfl ?_
          intro b2 o2 d2 hb2 hd2 hr2
          obtain rfl := brk_rep hr2
          (conv => whnf); refine VC.fa fl67_2 ?_
          (conv => whnf); refine ld1 (v := .int .i64 p.2.2) ct3 (hd2 2 _ rfl) (hSG' _ hb2) ?_
          (conv => whnf); refine vbuildS Tryd.underlying69 rfl _ rfl (breakL p) rfl ?_
          (conv => whnf); refine vbuild1 sl53 (breakL p) rfl rfl (by decide) (by decide) ?_
          intro q2 H2 hq2 hs2 hb4 ha2
          refine ⟨ha2.mono fun k hk => by have : k < G'.size := hk; omega, ?_⟩
          (conv => whnf); refine appO2 (ys := [p]) (stg.skip hq2 ha2) 3 sl53 rfl (hb4.cells fun j v hv => by rw [Nat.zero_add]; exact hv) (Ty.reps_one hrp) rfl (by intro u hu; simp [breakL] at hu; rcases hu with rfl | rfl | rfl <;> rfl) (by simp; omega) (by decide) fun a'' c'' G'' stg' ag' => ?_
          rw [← htk] at stg' ⊢
          have stg := stg'
          clear stg'
          (conv => whnf); rw [w64 (x := (k : Int) + 1) (by omega) (by omega)]
          exact ⟨rfl, (k + 1, a', c', a'', c''), rfl, ⟨by omega, stg⟩, by show breaks.length - (k + 1) < breaks.length - k; omega⟩
        · obtain rfl : k = breaks.length := by omega
          rw [List.take_length] at stg
          rw [List.take_length]
          (conv => whnf); refine VCall.mk (new_p (i1 := 0) (i2 := 2) stg rfl rfl) ?_
          rintro _ G1 ⟨s, fm, rm, wm, rfl, st1⟩
          (conv => whnf)
          refine VLoop.mk [13] (fun k : Nat => [.int .i64 (k : Int)]) (fun k G => k ≤ things.length ∧ ∃ fs, fs.length = things.length ∧ St H G (pS tFile 33 a1 things.length c1 fs :: pS tFile 65 a2 things.length c2 things :: pS tBrk 68 a3 breaks.length c3 breaks :: pS tBrk 69 a4 breaks.length c4 breaks :: sysL s fm rm wm (newM things breaks))) (fun k _ => things.length - k) ?_ ?_
          · (conv => whnf)
            exact ⟨0, rfl, Nat.zero_le _, things, rfl, st1⟩
          · clear st1 stg hag
            rintro k G junk3 ⟨hk, fs, hfs, stg⟩
            (conv => whnf); refine VIte.mk (fun hz => ?_) (fun hz => ?_) <;> simp only [decide_eq_true_eq, decide_eq_false_iff_not] at hz
            · have hkl : k < fs.length := by omega
              obtain ⟨b, cap, l, cs, e, -⟩ := (stg.at_ 0 rfl).1.place hkl
              injection e with e1 e2 e3
              subst e1; subst e3
              (conv => whnf); refine vbuildS Tryd.underlying33 rfl _ rfl (fileL (spoT, spoT)) rfl ?_
              (conv => whnf); refine ixE sl31 stg 0 rfl hkl rfl ?_
              (conv => whnf); refine stNO (cs := fileL (spoT, spoT)) (x := (spoT, spoT)) stg 0 rfl rfl rfl hkl rfl (fun H' _ => ⟨[.string spoT], [.string spoT], rfl, ⟨rfl, by decide⟩, ⟨rfl, by decide⟩⟩) fun G2 stg2 => ?_
              (conv => whnf); rw [w64 (x := (k : Int) + 1) (by omega) (by omega)]
              exact ⟨rfl, k + 1, rfl, ⟨by omega, fs.set k (spoT, spoT), by rw [List.length_set]; exact hfs, stg2⟩, by omega⟩
            · obtain rfl : k = things.length := by omega
              (conv => whnf)
              refine VLoop.mk [14] (fun k : Nat => [.int .i64 (k : Int)]) (fun k G => k ≤ breaks.length ∧ ∃ bs, bs.length = breaks.length ∧ St H G (pS tFile 33 a1 things.length c1 fs :: pS tFile 65 a2 things.length c2 things :: pS tBrk 68 a3 breaks.length c3 bs :: pS tBrk 69 a4 breaks.length c4 breaks :: sysL s fm rm wm (newM things breaks))) (fun k _ => breaks.length - k) ?_ ?_
              · (conv => whnf)
                exact ⟨0, rfl, Nat.zero_le _, breaks, rfl, stg⟩
              · clear stg
                rintro k G junk4 ⟨hk, bs, hbs, stg⟩
                (conv => whnf); refine VIte.mk (fun hz => ?_) (fun hz => ?_) <;> simp only [decide_eq_true_eq, decide_eq_false_iff_not] at hz
                · have hkl : k < bs.length := by omega
                  obtain ⟨b, cap, l, cs, e, -⟩ := (stg.at_ 2 rfl).1.place hkl
                  injection e with e1 e2 e3
                  subst e1; subst e3
                  obtain ⟨y, hy⟩ : ∃ y, bs[k]? = some y := ⟨bs[k], List.getElem?_eq_getElem hkl⟩
                  obtain ⟨cy, hcy, hry⟩ := stg.cellsE 2 rfl hy
                  obtain rfl := brk_rep hry
                  (conv => whnf); refine ixE sl64 stg 2 rfl hkl rfl ?_
                  (conv => whnf); refine VC.fa fl68_0 ?_
                  (conv => whnf); refine ld1 (v := .bool y.1) ct4 (hcy 0 _ rfl) trivial ?_
                  (conv => whnf); refine vbuildS Tryd.underlying68 rfl _ rfl (breakL (!y.1, 1, 0)) rfl ?_
                  (conv => whnf); refine ixE sl64 stg 2 rfl hkl rfl ?_
                  (conv => whnf); refine stNO (cs := breakL (!y.1, 1, 0)) (x := (!y.1, 1, 0)) stg 2 rfl rfl rfl hkl rfl (fun H' _ => ⟨[.bool (!y.1)], [.int .i64 1, .int .i64 0], rfl, rfl, [.int .i64 1], [.int .i64 0], rfl, ⟨rfl, inI64 (x := 1) (by decide)⟩, ⟨rfl, inI64 (x := 0) (by decide)⟩⟩) fun G2 stg2 => ?_
                  (conv => whnf); rw [w64 (x := (k : Int) + 1) (by omega) (by omega)]
                  exact ⟨rfl, k + 1, rfl, ⟨by omega, bs.set k (!y.1, 1, 0), by rw [List.length_set]; exact hbs, stg2⟩, by omega⟩
                · (conv => whnf); refine VCall.mk (rnew_p (i1 := 1) (i2 := 3) stg rfl rfl hl2) ?_
                  rintro _ G1 ⟨sd, fa, fc, ba, bc, rfl, st2⟩
                  (conv => whnf)
                  refine ⟨s, fm, rm, wm, sd, fa, fc, ba, bc, rfl, ?_⟩
                  exact st2.sub (List.Sublist.append (List.sublist_append_right [_, _, _, _] _) (List.Sublist.refl _))
end Go.Proofs.YtfdlhakfmbdamaaDoor
