/- The law FilesKept: the walk. (printed by mkfk2.py) -/
import Derived.Test.YtfdlhakfmbdamaaDoorPFk1
set_option linter.unusedVariables false
set_option linter.unusedSimpArgs false
set_option maxRecDepth 100000
namespace Go.Proofs.YtfdlhakfmbdamaaDoor
open Go.VC
set_option maxHeartbeats 32000000 in
theorem filesKept_p {S : Nat → Prop} {H : Heap} {ta ba0 : Option Addr} {tc bc0 : Nat} {things : List (ByteArray × ByteArray)} {breaks : List (Bool × Int × Int)} {n0 n1 : ByteArray} {b o : Nat → Nat} (hv : SlD tFile S H ta tc things) (hw : SlD tBrk S H ba0 bc0 breaks) (hS : ∀ k, S k → k < H.size) (hl1 : things.length ≤ 1048576) (hl2 : breaks.length ≤ 1048576) (hn : n0.size ≤ 4194304) (hd : n1.size ≤ 4194304) (sen : SentH H b o) :
    Pure Tryd.prog 3 #[.slice ta things.length tc, .slice ba0 breaks.length bc0, .agg (fileL (n0, n1)).toArray] H (.bool true) := by
  have hnx : n0.size ≤ maxLen := by unfold maxLen; omega
  have hdx : n1.size ≤ maxLen := by unfold maxLen; omega
  refine FnOk.of_vc Tryd.func3 rfl (Tryd.call3 _) ?_
  (conv => whnf); refine vbox (fileL (n0, n1)) rfl ?_
  intro pw H1 hq1 hs1 hb1 ha1
  have st1 := (St.nil H).box hq1 hs1 hb1 ha1
  (conv => whnf); refine pures (speaks_p (sen.agr st1.old)) fun H2 ha2 => ?_
  have st2 := st1.call ha2
  have hbw : Blk H2 pw 25 (fileL (n0, n1)) := st2.blk 0 rfl
  have ag2 := st2.old
  (conv => whnf); refine VCall.mk (laid_p (hv.frame (ag2.mono hS)) (hw.frame (ag2.mono hS)) (fun k hk => old_lt ag2 (hS k hk)) hl1 hl2) ?_
  rintro _ H3 ⟨s, fm, rm, wm, sd, fa, fc, ba, bc, rfl, st3'⟩
  have st3 : St H2 H3 (sysL s fm rm wm (newM things breaks)) := st3'.sub (List.sublist_append_left _ _)
  have hfs : FsOk (newM things breaks).files := layAll_fs fun p hp => by
    obtain ⟨k, hk⟩ := List.getElem?_of_mem hp
    obtain ⟨b, o, c, -, -, -, h3⟩ := hv.get hk
    exact (file_rep h3).2.2
  have hrd : (newM things breaks).reads = 0 := rfl
  have hwr : (newM things breaks).writes = 0 := rfl
  generalize newM things breaks = x at st3 hfs hrd hwr
  have sen2 : SentH H2 b o := sen.agr ag2
  have hbW : ∀ {G : Heap} {ps : List Pc}, St H2 G ps → Blk G pw 25 (fileL (n0, n1)) := fun st => hbw.agr st.old hbw.lt
  have fin : ∀ {G : Heap} {ps : List Pc}, St H2 G ps → Agr (Old H) H G := fun st => ag2.trans (st.old.mono fun k hk => old_lt ag2 hk)
  clear st1 st2 st3'
  (conv => whnf); refine VCall.mk (list_p (i := 0) st3 (x := x) (s := s) (fm := fm) (rm := rm) (wm := wm) ⟨rfl, rfl, rfl, rfl⟩ hfs) ?_
  rintro _ H4 ⟨a1, c1, rfl, st4⟩
  have hlen := hfs.len
  have ris := hfs.rise
  (conv => whnf)
  refine VLoop.mk [10, 11, 12] (fun k : Nat => [.string (dataM (x.files.take k) n0), .bool (lookF (x.files.take k) n0).isSome, .int .i64 (k : Int)]) (fun k G => k ≤ x.files.length ∧ St H2 G (sysL s fm rm wm x ++ [pS tFile 33 a1 x.files.length c1 x.files])) (fun k _ => x.files.length - k) ?_ ?_
  · (conv => whnf)
    exact ⟨0, rfl, Nat.zero_le _, st4⟩
  · clear st3 st4
    rintro k G junk ⟨hk, stg⟩
    (conv => whnf); refine VIte.mk (fun hz => ?_) (fun hz => ?_) <;> simp only [decide_eq_true_eq, decide_eq_false_iff_not] at hz
    · have hkl : k < x.files.length := by omega
      obtain ⟨p, hpk⟩ : ∃ p, x.files[k]? = some p := ⟨x.files[k], List.getElem?_eq_getElem hkl⟩
      have hls := look_step (n := n0) ris hpk
      (conv => whnf); refine VSeq.run ?_
      (conv => whnf); refine VDraw.quiet (Old G) rfl (by kernel_rfl) ?_
      (conv => whnf); refine ixO sl31 stg 4 rfl hpk rfl ?_
      intro u1 v1 w1 hb1 hd1 hr1
      obtain ⟨rfl, -, -⟩ := file_rep hr1
      (conv => whnf); refine VC.fa fl33_0 ?_
      (conv => whnf); refine ld1 (v := .string p.1) ct9 (hd1 0 _ rfl) hb1 ?_
      (conv => whnf); refine VC.fa fl25_0 ?_
      (conv => whnf); refine ld1 (v := .string n0) ct9 (by rw [(hbW stg).cell]; rfl) (hbW stg).lt ?_
      (conv => whnf); rw [txt_dec]
      (conv => whnf)
      intro G2 hg2
      have stg2 := stg.call hg2
      by_cases hpn : p.1 = n0
      · have d1 : decide (p.1 = n0) = true := decide_eq_true hpn
        (conv => whnf); rw [d1]
        (conv => whnf); refine ixO sl31 stg2 4 rfl hpk rfl ?_
        intro u2 v2 w2 hb2 hd2 hr2
        obtain ⟨rfl, -, -⟩ := file_rep hr2
        (conv => whnf); refine VC.fa fl33_1 ?_
        (conv => whnf); refine ld1 (v := .string p.2) ct9 (hd2 1 _ rfl) trivial ?_
        (conv => whnf); rw [w64 (x := (k : Int) + 1) (by omega) (by omega)]
        exact ⟨rfl, k + 1, by simp only [(hls.1 hpn).1, (hls.1 hpn).2]; rfl, ⟨by omega, stg2⟩, by omega⟩
      · have d1 : decide (p.1 = n0) = false := decide_eq_false hpn
        (conv => whnf); rw [d1]
        (conv => whnf); rw [w64 (x := (k : Int) + 1) (by omega) (by omega)]
        exact ⟨rfl, k + 1, by simp only [(hls.2 hpn).1, (hls.2 hpn).2]; rfl, ⟨by omega, stg2⟩, by omega⟩
    · obtain rfl : k = x.files.length := by omega
      rw [List.take_length]
      (conv => whnf); refine VC.fa fl25_0 ?_
      (conv => whnf); refine ld1 (v := .string n0) ct9 (by rw [(hbW stg).cell]; rfl) trivial ?_
      (conv => whnf); refine VC.fa fl25_1 ?_
      (conv => whnf); refine ld1 (v := .string n1) ct9 (by rw [(hbW stg).cell]; rfl) trivial ?_
      (conv => whnf); refine VCall.mk (write_p (i := 0) (s := s) (fm := fm) (rm := rm) (wm := wm) (x := x) sen2 stg (by rw [hwr]; decide) hnx hdx ⟨rfl, rfl, rfl, rfl⟩ ris) ?_
      rintro _ H5 ⟨qe, rfl, st5⟩
      obtain ⟨wfs, woth, wok, werr, wth, wc4⟩ := write_fs (x := x) hfs (n := n0) (d := n1) hdx
      have sy5 : SysAt ((((sysL s fm rm wm x ++ [pS tFile 33 a1 x.files.length c1 x.files]).set (0 + 1) (pB 83 s (sysC fm rm wm x.reads (x.writes + 1)))).set 0 (pM Value.string fm (fileV (writeM x n0 n1).2))) ++ errPs b o wrT n0 (writeM x n0 n1).1 qe) 0 s fm rm wm (write1 x n0 n1) := ⟨rfl, rfl, rfl, rfl⟩
      have p4 : ((((sysL s fm rm wm x ++ [pS tFile 33 a1 x.files.length c1 x.files]).set (0 + 1) (pB 83 s (sysC fm rm wm x.reads (x.writes + 1)))).set 0 (pM Value.string fm (fileV (writeM x n0 n1).2))) ++ errPs b o wrT n0 (writeM x n0 n1).1 qe)[4]? = some (pS tFile 33 a1 x.files.length c1 x.files) := rfl
      generalize ((((sysL s fm rm wm x ++ [pS tFile 33 a1 x.files.length c1 x.files]).set (0 + 1) (pB 83 s (sysC fm rm wm x.reads (x.writes + 1)))).set 0 (pM Value.string fm (fileV (writeM x n0 n1).2))) ++ errPs b o wrT n0 (writeM x n0 n1).1 qe) = ps5 at st5 sy5 p4
      have hrd5 : (write1 x n0 n1).reads = 0 := hrd
      have hf5 : (write1 x n0 n1).files = (writeM x n0 n1).2 := rfl
      generalize write1 x n0 n1 = y at sy5 hrd5 hf5
      generalize (writeM x n0 n1).2 = af at hf5 wfs woth wok werr wth
      generalize (writeM x n0 n1).1 = cd at wok werr wc4
      subst hf5
      (conv => whnf); refine VCall.mk (list_p st5 sy5 wfs) ?_
      rintro _ H6 ⟨a2, c2, rfl, st6⟩
      have hlen5 := wfs.len
      have ris5 := wfs.rise
      clear stg st5
      have p4' : (ps5 ++ [pS tFile 33 a2 y.files.length c2 y.files])[4]? = some (pS tFile 33 a1 x.files.length c1 x.files) := getL p4
      have p5 : (ps5 ++ [pS tFile 33 a2 y.files.length c2 y.files])[ps5.length]? = some (pS tFile 33 a2 y.files.length c2 y.files) := getR _ _ _
      have sy6 : SysAt (ps5 ++ [pS tFile 33 a2 y.files.length c2 y.files]) 0 s fm rm wm y := ⟨getL sy5.p0, getL sy5.p1, getL sy5.p2, getL sy5.p3⟩
      generalize ps5 ++ [pS tFile 33 a2 y.files.length c2 y.files] = ps6 at st6 p4' p5 sy6
      (conv => whnf)
      refine VLoop.mk [15, 16, 17, 18] (fun z : Nat × Nat => match z with | (i, m) => [.string (dataM (y.files.take i) n0), .bool (lookF (y.files.take i) n0).isSome, .int .i64 (m : Int), .int .i64 (i : Int)]) (fun z G => match z with | (i, m) => i ≤ y.files.length ∧ m ≤ x.files.length ∧ oth n0 (x.files.take m) = oth n0 (y.files.take i) ∧ St H2 G ps6) (fun z _ => match z with | (i, _) => y.files.length - i) ?_ ?_
      · (conv => whnf)
        exact ⟨(0, 0), rfl, Nat.zero_le _, Nat.zero_le _, rfl, st6⟩
      · clear st6
        rintro ⟨i, m⟩ G junk2 ⟨hi, hm, hoth, stg⟩
        (conv => whnf); refine VIte.mk (fun hz => ?_) (fun hz => ?_) <;> simp only [decide_eq_true_eq, decide_eq_false_iff_not] at hz
        · have hil : i < y.files.length := by omega
          obtain ⟨p, hpi⟩ : ∃ p, y.files[i]? = some p := ⟨y.files[i], List.getElem?_eq_getElem hil⟩
          have hls := look_step (n := n0) ris5 hpi
          have hti : y.files.take (i + 1) = y.files.take i ++ [p] := by rw [List.take_add_one, hpi]; rfl
          (conv => whnf); refine VSeq.run ?_
          (conv => whnf); refine VDraw.quiet (Old G) rfl (by kernel_rfl) ?_
          by_cases hi0 : i = 0
          · have d0 : decide ((0 : Int) < (i : Int)) = false := decide_eq_false (by omega)
            (conv => whnf); rw [d0]
            (conv => whnf)
            intro G2 hg2
            have stg := stg.call hg2
            (conv => whnf); refine VDraw.quiet (Old G2) rfl (by kernel_rfl) ?_
            (conv => whnf); refine ixO sl31 stg ps5.length p5 hpi rfl ?_
            intro u6 v6 w6 hb6 hd6 hr6
            obtain ⟨rfl, -, -⟩ := file_rep hr6
            (conv => whnf); refine VC.fa fl33_0 ?_
            (conv => whnf); refine ld1 (v := .string p.1) ct9 (hd6 0 _ rfl) hb6 ?_
            (conv => whnf); refine VC.fa fl25_0 ?_
            (conv => whnf); refine ld1 (v := .string n0) ct9 (by rw [(hbW stg).cell]; rfl) (hbW stg).lt ?_
            (conv => whnf); rw [txt_dec]
            (conv => whnf)
            intro G2 hg2
            have stg2 := stg.call hg2
            by_cases hpn : p.1 = n0
            · have d1 : decide (p.1 = n0) = true := decide_eq_true hpn
              have hoth2 : oth n0 (x.files.take m) = oth n0 (y.files.take (i + 1)) := by rw [hti, oth_snoc, if_pos hpn, List.append_nil]; exact hoth
              (conv => whnf); rw [d1]
              (conv => whnf); refine ixO sl31 stg2 ps5.length p5 hpi rfl ?_
              intro u7 v7 w7 hb7 hd7 hr7
              obtain ⟨rfl, -, -⟩ := file_rep hr7
              (conv => whnf); refine VC.fa fl33_1 ?_
              (conv => whnf); refine ld1 (v := .string p.2) ct9 (hd7 1 _ rfl) trivial ?_
              (conv => whnf); rw [w64 (x := (i : Int) + 1) (by omega) (by omega)]
              exact ⟨rfl, (i + 1, m), by simp only [(hls.1 hpn).1, (hls.1 hpn).2]; rfl, ⟨by omega, hm, hoth2, stg2⟩, by show y.files.length - (i + 1) < y.files.length - i; omega⟩
            · have d1 : decide (p.1 = n0) = false := decide_eq_false hpn
              (conv => whnf); rw [d1]
              (conv => whnf)
              clear stg
              refine VLoop.mk [17] (fun m : Nat => [.int .i64 (m : Int)]) (fun m G => m ≤ x.files.length ∧ oth n0 (x.files.take m) = oth n0 (y.files.take i) ∧ St H2 G ps6) (fun m _ => x.files.length - m) ?_ ?_
              · (conv => whnf)
                exact ⟨m, rfl, hm, hoth, stg2⟩
              · clear stg2 hm hoth
                rintro m G junk4 ⟨hm, hoth, stg⟩
                (conv => whnf); refine VDraw.quiet (Old G) rfl (by kernel_rfl) ?_
                by_cases hml : m < x.files.length
                · obtain ⟨q, hqm⟩ : ∃ q, x.files[m]? = some q := ⟨x.files[m], List.getElem?_eq_getElem hml⟩
                  have d2 : decide ((m : Int) < (x.files.length : Int)) = true := decide_eq_true (by omega)
                  have d3 : decide ((x.files.length : Int) ≤ (m : Int)) = false := decide_eq_false (by omega)
                  (conv => whnf); rw [d2]
                  (conv => whnf); refine ixO sl31 stg 4 p4' hqm rfl ?_
                  intro u8 v8 w8 hb8 hd8 hr8
                  obtain ⟨rfl, -, -⟩ := file_rep hr8
                  (conv => whnf); refine VC.fa fl33_0 ?_
                  (conv => whnf); refine ld1 (v := .string q.1) ct9 (hd8 0 _ rfl) hb8 ?_
                  (conv => whnf); refine VC.fa fl25_0 ?_
                  (conv => whnf); refine ld1 (v := .string n0) ct9 (by rw [(hbW stg).cell]; rfl) (hbW stg).lt ?_
                  (conv => whnf); rw [txt_dec]
                  (conv => whnf)
                  intro G2 hg2
                  have stg2 := stg.call hg2
                  by_cases hqn : q.1 = n0
                  · have d4 : decide (q.1 = n0) = true := decide_eq_true hqn
                    (conv => whnf); rw [d4]
                    (conv => whnf); rw [w64 (x := (m : Int) + 1) (by omega) (by omega)]
                    refine ⟨rfl, m + 1, rfl, ⟨by omega, ?_, stg2⟩, by omega⟩
                    rw [List.take_add_one, hqm, Option.toList_some, oth_snoc, if_pos hqn, List.append_nil]
                    exact hoth
                  · have d4 : decide (q.1 = n0) = false := decide_eq_false hqn
                    have hqp : q = p := by
                      have := oth_stop woth.symm hoth hpi hpn (fun q' hq' => by rw [hqm] at hq'; cases hq'; exact hqn)
                      rw [hqm] at this
                      exact Option.some.inj this
                    subst hqp
                    have hz := wfs.name q (List.mem_of_getElem? hpi)
                    have hz2 := wfs.data q (List.mem_of_getElem? hpi)
                    clear stg
                    (conv => whnf); rw [d4]
                    (conv => whnf); refine VDraw.quiet (Old G2) rfl (by kernel_rfl) ?_
                    (conv => whnf); rw [d3]
                    (conv => whnf); refine ixO sl31 stg2 4 p4' hqm rfl ?_
                    intro u9 v9 w9 hb9 hd9 hr9
                    obtain ⟨rfl, -, -⟩ := file_rep hr9
                    (conv => whnf); refine ldN (cs := fileL q) ag33 hd9 hb9 ?_
                    (conv => whnf); refine ixO sl31 stg2 ps5.length p5 hpi rfl ?_
                    intro u10 v10 w10 hb10 hd10 hr10
                    obtain ⟨rfl, -, -⟩ := file_rep hr10
                    (conv => whnf); refine ldN (cs := fileL q) ag33 hd10 hb10 ?_
                    (conv => whnf); refine file_same (by unfold maxLen; omega) hz2 ?_
                    (conv => whnf)
                    intro G3 hg3
                    have stg3 := stg2.call hg3
                    (conv => whnf); rw [w64 (x := (m : Int) + 1) (by omega) (by omega)]
                    (conv => whnf); rw [w64 (x := (i : Int) + 1) (by omega) (by omega)]
                    refine ⟨rfl, (i + 1, m + 1), by simp only [(hls.2 hpn).1, (hls.2 hpn).2]; rfl, ⟨by omega, by omega, ?_, stg3⟩, by show y.files.length - (i + 1) < y.files.length - i; omega⟩
                    rw [hti, List.take_add_one, hqm, Option.toList_some, oth_snoc, oth_snoc, hoth]
                · exfalso
                  have hnone : x.files[m]? = none := List.getElem?_eq_none (by omega)
                  have := oth_stop woth.symm hoth hpi hpn (fun q' hq' => by rw [hnone] at hq'; cases hq')
                  rw [hnone] at this
                  cases this
          · have d0 : decide ((0 : Int) < (i : Int)) = true := decide_eq_true (by omega)
            obtain ⟨q, hqi⟩ : ∃ q, y.files[i - 1]? = some q := ⟨y.files[i - 1], List.getElem?_eq_getElem (by omega)⟩
            have hqp := rise_step ris5 hqi (by rw [show i - 1 + 1 = i by omega]; exact hpi)
            (conv => whnf); rw [d0]
            (conv => whnf); rw [w64 (x := (i : Int) - 1) (by omega) (by omega)]
            (conv => whnf); refine ixO sl31 stg ps5.length p5 hqi (by omega) ?_
            intro u3 v3 w3 hb3 hd3 hr3
            obtain ⟨rfl, -, -⟩ := file_rep hr3
            (conv => whnf); refine VC.fa fl33_0 ?_
            (conv => whnf); refine ld1 (v := .string q.1) ct9 (hd3 0 _ rfl) hb3 ?_
            (conv => whnf); refine ixO sl31 stg ps5.length p5 hpi rfl ?_
            intro u4 v4 w4 hb4 hd4 hr4
            obtain ⟨rfl, -, -⟩ := file_rep hr4
            (conv => whnf); refine VC.fa fl33_0 ?_
            (conv => whnf); refine ld1 (v := .string p.1) ct9 (hd4 0 _ rfl) hb4 ?_
            (conv => whnf); refine vgeS ?_
            rw [less_ltT, hqp]
            (conv => whnf)
            intro G2 hg2
            have stg := stg.call hg2
            clear hqp hqi
            (conv => whnf); refine VDraw.quiet (Old G2) rfl (by kernel_rfl) ?_
            (conv => whnf); refine ixO sl31 stg ps5.length p5 hpi rfl ?_
            intro u11 v11 w11 hb11 hd11 hr11
            obtain ⟨rfl, -, -⟩ := file_rep hr11
            (conv => whnf); refine VC.fa fl33_0 ?_
            (conv => whnf); refine ld1 (v := .string p.1) ct9 (hd11 0 _ rfl) hb11 ?_
            (conv => whnf); refine VC.fa fl25_0 ?_
            (conv => whnf); refine ld1 (v := .string n0) ct9 (by rw [(hbW stg).cell]; rfl) (hbW stg).lt ?_
            (conv => whnf); rw [txt_dec]
            (conv => whnf)
            intro G2 hg2
            have stg2 := stg.call hg2
            by_cases hpn : p.1 = n0
            · have d1 : decide (p.1 = n0) = true := decide_eq_true hpn
              have hoth2 : oth n0 (x.files.take m) = oth n0 (y.files.take (i + 1)) := by rw [hti, oth_snoc, if_pos hpn, List.append_nil]; exact hoth
              (conv => whnf); rw [d1]
              (conv => whnf); refine ixO sl31 stg2 ps5.length p5 hpi rfl ?_
              intro u12 v12 w12 hb12 hd12 hr12
              obtain ⟨rfl, -, -⟩ := file_rep hr12
              (conv => whnf); refine VC.fa fl33_1 ?_
              (conv => whnf); refine ld1 (v := .string p.2) ct9 (hd12 1 _ rfl) trivial ?_
              (conv => whnf); rw [w64 (x := (i : Int) + 1) (by omega) (by omega)]
              exact ⟨rfl, (i + 1, m), by simp only [(hls.1 hpn).1, (hls.1 hpn).2]; rfl, ⟨by omega, hm, hoth2, stg2⟩, by show y.files.length - (i + 1) < y.files.length - i; omega⟩
            · have d1 : decide (p.1 = n0) = false := decide_eq_false hpn
              (conv => whnf); rw [d1]
              (conv => whnf)
              clear stg
              refine VLoop.mk [17] (fun m : Nat => [.int .i64 (m : Int)]) (fun m G => m ≤ x.files.length ∧ oth n0 (x.files.take m) = oth n0 (y.files.take i) ∧ St H2 G ps6) (fun m _ => x.files.length - m) ?_ ?_
              · (conv => whnf)
                exact ⟨m, rfl, hm, hoth, stg2⟩
              · clear stg2 hm hoth
                rintro m G junk4 ⟨hm, hoth, stg⟩
                (conv => whnf); refine VDraw.quiet (Old G) rfl (by kernel_rfl) ?_
                by_cases hml : m < x.files.length
                · obtain ⟨q, hqm⟩ : ∃ q, x.files[m]? = some q := ⟨x.files[m], List.getElem?_eq_getElem hml⟩
                  have d2 : decide ((m : Int) < (x.files.length : Int)) = true := decide_eq_true (by omega)
                  have d3 : decide ((x.files.length : Int) ≤ (m : Int)) = false := decide_eq_false (by omega)
                  (conv => whnf); rw [d2]
                  (conv => whnf); refine ixO sl31 stg 4 p4' hqm rfl ?_
                  intro u13 v13 w13 hb13 hd13 hr13
                  obtain ⟨rfl, -, -⟩ := file_rep hr13
                  (conv => whnf); refine VC.fa fl33_0 ?_
                  (conv => whnf); refine ld1 (v := .string q.1) ct9 (hd13 0 _ rfl) hb13 ?_
                  (conv => whnf); refine VC.fa fl25_0 ?_
                  (conv => whnf); refine ld1 (v := .string n0) ct9 (by rw [(hbW stg).cell]; rfl) (hbW stg).lt ?_
                  (conv => whnf); rw [txt_dec]
                  (conv => whnf)
                  intro G2 hg2
                  have stg2 := stg.call hg2
                  by_cases hqn : q.1 = n0
                  · have d4 : decide (q.1 = n0) = true := decide_eq_true hqn
                    (conv => whnf); rw [d4]
                    (conv => whnf); rw [w64 (x := (m : Int) + 1) (by omega) (by omega)]
                    refine ⟨rfl, m + 1, rfl, ⟨by omega, ?_, stg2⟩, by omega⟩
                    rw [List.take_add_one, hqm, Option.toList_some, oth_snoc, if_pos hqn, List.append_nil]
                    exact hoth
                  · have d4 : decide (q.1 = n0) = false := decide_eq_false hqn
                    have hqp : q = p := by
                      have := oth_stop woth.symm hoth hpi hpn (fun q' hq' => by rw [hqm] at hq'; cases hq'; exact hqn)
                      rw [hqm] at this
                      exact Option.some.inj this
                    subst hqp
                    have hz := wfs.name q (List.mem_of_getElem? hpi)
                    have hz2 := wfs.data q (List.mem_of_getElem? hpi)
                    clear stg
                    (conv => whnf); rw [d4]
                    (conv => whnf); refine VDraw.quiet (Old G2) rfl (by kernel_rfl) ?_
                    (conv => whnf); rw [d3]
                    (conv => whnf); refine ixO sl31 stg2 4 p4' hqm rfl ?_
                    intro u14 v14 w14 hb14 hd14 hr14
                    obtain ⟨rfl, -, -⟩ := file_rep hr14
                    (conv => whnf); refine ldN (cs := fileL q) ag33 hd14 hb14 ?_
                    (conv => whnf); refine ixO sl31 stg2 ps5.length p5 hpi rfl ?_
                    intro u15 v15 w15 hb15 hd15 hr15
                    obtain ⟨rfl, -, -⟩ := file_rep hr15
                    (conv => whnf); refine ldN (cs := fileL q) ag33 hd15 hb15 ?_
                    (conv => whnf); refine file_same (by unfold maxLen; omega) hz2 ?_
                    (conv => whnf)
                    intro G3 hg3
                    have stg3 := stg2.call hg3
                    (conv => whnf); rw [w64 (x := (m : Int) + 1) (by omega) (by omega)]
                    (conv => whnf); rw [w64 (x := (i : Int) + 1) (by omega) (by omega)]
                    refine ⟨rfl, (i + 1, m + 1), by simp only [(hls.2 hpn).1, (hls.2 hpn).2]; rfl, ⟨by omega, by omega, ?_, stg3⟩, by show y.files.length - (i + 1) < y.files.length - i; omega⟩
                    rw [hti, List.take_add_one, hqm, Option.toList_some, oth_snoc, oth_snoc, hoth]
                · exfalso
                  have hnone : x.files[m]? = none := List.getElem?_eq_none (by omega)
                  have := oth_stop woth.symm hoth hpi hpn (fun q' hq' => by rw [hnone] at hq'; cases hq')
                  rw [hnone] at this
                  cases this
        · obtain rfl : i = y.files.length := by omega
          rw [List.take_length] at hoth ⊢
          (conv => whnf)
          refine VLoop.mk [17] (fun m : Nat => [.int .i64 (m : Int)]) (fun m G => m ≤ x.files.length ∧ oth n0 (x.files.take m) = oth n0 y.files ∧ St H2 G ps6) (fun m _ => x.files.length - m) ?_ ?_
          · (conv => whnf)
            exact ⟨m, rfl, hm, hoth, stg⟩
          · clear stg hm hoth
            rintro m G junk4 ⟨hm, hoth, stg⟩
            (conv => whnf); refine VDraw.quiet (Old G) rfl (by kernel_rfl) ?_
            have key : (∀ q, x.files[m]? = some q → q.1 ≠ n0) → m = x.files.length := fun h => oth_end woth.symm hoth hm h
            by_cases hml : m < x.files.length
            · obtain ⟨q, hqm⟩ : ∃ q, x.files[m]? = some q := ⟨x.files[m], List.getElem?_eq_getElem hml⟩
              have d2 : decide ((m : Int) < (x.files.length : Int)) = true := decide_eq_true (by omega)
              (conv => whnf); rw [d2]
              (conv => whnf); refine ixO sl31 stg 4 p4' hqm rfl ?_
              intro u5 v5 w5 hb5 hd5 hr5
              obtain ⟨rfl, -, -⟩ := file_rep hr5
              (conv => whnf); refine VC.fa fl33_0 ?_
              (conv => whnf); refine ld1 (v := .string q.1) ct9 (hd5 0 _ rfl) hb5 ?_
              (conv => whnf); refine VC.fa fl25_0 ?_
              (conv => whnf); refine ld1 (v := .string n0) ct9 (by rw [(hbW stg).cell]; rfl) (hbW stg).lt ?_
              (conv => whnf); rw [txt_dec]
              (conv => whnf)
              intro G2 hg2
              have stg2 := stg.call hg2
              by_cases hqn : q.1 = n0
              · have d4 : decide (q.1 = n0) = true := decide_eq_true hqn
                (conv => whnf); rw [d4]
                (conv => whnf); rw [w64 (x := (m : Int) + 1) (by omega) (by omega)]
                refine ⟨rfl, m + 1, rfl, ⟨by omega, ?_, stg2⟩, by omega⟩
                rw [List.take_add_one, hqm, Option.toList_some, oth_snoc, if_pos hqn, List.append_nil]
                exact hoth
              · have := key fun q' hq' => by rw [hqm] at hq'; cases hq'; exact hqn
                omega
            · obtain rfl : m = x.files.length := by omega
              have d2 : decide ((x.files.length : Int) < (x.files.length : Int)) = false := decide_eq_false (by omega)
              (conv => whnf); rw [d2]
              (conv => whnf)
              intro G2 hg2
              have stg2 := stg.call hg2
              clear stg key
              have d5 : ((x.files.length : Int) != (x.files.length : Int)) = false := by simp
              obtain ⟨th, hth⟩ : ∃ th, th = (lookF x.files n0).isSome := ⟨_, rfl⟩
              obtain ⟨lf, hlf⟩ : ∃ lf, lf = (lookF y.files n0).isSome := ⟨_, rfl⟩
              rw [← hth, ← hlf]
              rw [← hth, ← hlf] at wth
              obtain ⟨nw, hnw⟩ : ∃ t, t = dataM y.files n0 := ⟨_, rfl⟩
              obtain ⟨od, hod⟩ : ∃ t, t = dataM x.files n0 := ⟨_, rfl⟩
              rw [← hnw, ← hod]
              have F0 : cd = 0 → lf = true ∧ nw = n1 := fun h => by
                rw [hlf, hnw]
                unfold dataM
                rw [wok h]
                exact ⟨rfl, rfl⟩
              have F1 : cd ≠ 0 → (lf = th ∧ nw = od) ∨ (lf = true ∧ nw.size ≤ n1.size ∧ n1.extract 0 nw.size = nw) := fun h => by
                rcases werr h with e | ⟨k, hk, e⟩
                · left
                  rw [hlf, hnw, hth, hod, e]
                  exact ⟨rfl, rfl⟩
                · right
                  have e2 : nw = n1.extract 0 k := by rw [hnw]; unfold dataM; rw [e]; rfl
                  have e3 : nw.size = k := by rw [e2, ByteArray.size_extract]; omega
                  refine ⟨by rw [hlf, e]; rfl, by omega, ?_⟩
                  rw [e3, e2]
              have FR : (readM y n0).2 = 0 → lf = true ∧ (readM y n0).1 = nw := fun h => by
                rw [hlf, hnw]
                unfold readM at h ⊢
                split
                · rename_i h1; rw [if_pos h1] at h; cases h
                · rename_i h1
                  rw [if_neg h1] at h
                  split
                  · rename_i h2; rw [if_pos h2] at h; cases h
                  · rename_i h2
                    rw [if_neg h2] at h
                    split
                    · rename_i h3; rw [if_pos h3] at h; cases h
                    · rename_i h3
                      exact ⟨by cases hl : (lookF y.files n0).isSome with | true => rfl | false => exact absurd hl h3, rfl⟩
              clear hnw hod hlf hth wok werr
              cases th <;> cases lf
              · clear wth
                (conv => whnf); rw [d5]
                (conv => whnf); refine VC.fa fl25_0 ?_
                (conv => whnf); refine ld1 (v := .string n0) ct9 (by rw [(hbW stg2).cell]; rfl) trivial ?_
                (conv => whnf); refine VCall.mk (read_p (i := 0) (s := s) (fm := fm) (rm := rm) (wm := wm) (x := y) sen2 stg2 (by rw [hrd5]; decide) hnx (.inl ⟨rfl, sy6, ris5, rfl⟩)) ?_
                rintro _ H7 ⟨qr, rfl, st7⟩
                have hb7 := hbw.agr st7.old hbw.lt
                have ag7 : Agr (Old H) H H7 := ag2.trans (st7.old.mono fun k hk => old_lt ag2 hk)
                clear st7 stg2
                generalize readM y n0 = R at FR ⊢
                obtain ⟨rt, rc⟩ := R
                cases rc with
                | zero =>
                  obtain ⟨f1, f2⟩ := FR rfl
                  cases f1
                | succ rc =>
                  (conv => whnf); refine ifeq Tryd.underlying35 ?_
                  cases cd with
                  | zero =>
                    obtain ⟨f3, f4⟩ := F0 rfl
                    cases f3
                  | succ cd =>
                    have f5 := F1 (Nat.succ_ne_zero cd)
                    (conv => whnf); refine ifeq Tryd.underlying35 ?_
                    (conv => whnf); refine beq_b Tryd.underlying4 ?_
                    by_cases hno : nw = od
                    · have d7 : decide (nw = od) = true := decide_eq_true hno
                      (conv => whnf); rw [txt_dec, d7]
                      (conv => whnf)
                      exact ⟨rfl, ag7⟩
                    · rcases f5 with ⟨-, f6⟩ | ⟨f6, -⟩
                      · exact absurd f6 hno
                      · cases f6
              · clear wth
                (conv => whnf); rw [d5]
                (conv => whnf); refine VC.fa fl25_0 ?_
                (conv => whnf); refine ld1 (v := .string n0) ct9 (by rw [(hbW stg2).cell]; rfl) trivial ?_
                (conv => whnf); refine VCall.mk (read_p (i := 0) (s := s) (fm := fm) (rm := rm) (wm := wm) (x := y) sen2 stg2 (by rw [hrd5]; decide) hnx (.inl ⟨rfl, sy6, ris5, rfl⟩)) ?_
                rintro _ H7 ⟨qr, rfl, st7⟩
                have hb7 := hbw.agr st7.old hbw.lt
                have ag7 : Agr (Old H) H H7 := ag2.trans (st7.old.mono fun k hk => old_lt ag2 hk)
                clear st7 stg2
                generalize readM y n0 = R at FR ⊢
                obtain ⟨rt, rc⟩ := R
                cases rc with
                | zero =>
                  obtain ⟨f1, f2⟩ := FR rfl
                  have f2 : rt = nw := f2
                  subst f2
                  (conv => whnf); refine ifeqN Tryd.underlying35 ?_
                  (conv => whnf); rw [txt_dec, decide_eq_true rfl]
                  cases cd with
                  | zero =>
                    obtain ⟨f3, f4⟩ := F0 rfl
                    subst f4
                    (conv => whnf); refine ifeqN Tryd.underlying35 ?_
                    (conv => whnf); refine VC.fa fl25_1 ?_
                    (conv => whnf); refine ld1 (v := .string rt) ct9 (by rw [hb7.cell]; rfl) trivial ?_
                    (conv => whnf); rw [txt_dec, decide_eq_true rfl]
                    (conv => whnf)
                    exact ⟨rfl, ag7⟩
                  | succ cd =>
                    have f5 := F1 (Nat.succ_ne_zero cd)
                    (conv => whnf); refine ifeq Tryd.underlying35 ?_
                    (conv => whnf); refine beq_b Tryd.underlying4 ?_
                    rcases f5 with ⟨f6, -⟩ | ⟨-, f6, f7⟩
                    · cases f6
                    · skip
                      (conv => whnf); refine VC.fa fl25_1 ?_
                      (conv => whnf); refine ld1 (v := .string n1) ct9 (by rw [hb7.cell]; rfl) trivial ?_
                      have d8 : decide ((rt.size : Int) ≤ (n1.size : Int)) = true := decide_eq_true (by omega)
                      (conv => whnf); rw [d8]
                      (conv => whnf); refine VC.fa fl25_1 ?_
                      (conv => whnf); refine ld1 (v := .string n1) ct9 (by rw [hb7.cell]; rfl) trivial ?_
                      (conv => whnf); refine vcutSH Tryd.underlying9 (by omega) (by omega) ?_
                      rw [Int.toNat_natCast, f7]
                      (conv => whnf); rw [txt_dec, decide_eq_true rfl]
                      (conv => whnf)
                      exact ⟨rfl, ag7⟩
                | succ rc =>
                  (conv => whnf); refine ifeq Tryd.underlying35 ?_
                  cases cd with
                  | zero =>
                    obtain ⟨f3, f4⟩ := F0 rfl
                    subst f4
                    (conv => whnf); refine ifeqN Tryd.underlying35 ?_
                    (conv => whnf); refine VC.fa fl25_1 ?_
                    (conv => whnf); refine ld1 (v := .string nw) ct9 (by rw [hb7.cell]; rfl) trivial ?_
                    (conv => whnf); rw [txt_dec, decide_eq_true rfl]
                    (conv => whnf)
                    exact ⟨rfl, ag7⟩
                  | succ cd =>
                    have f5 := F1 (Nat.succ_ne_zero cd)
                    (conv => whnf); refine ifeq Tryd.underlying35 ?_
                    (conv => whnf); refine beq_b Tryd.underlying4 ?_
                    rcases f5 with ⟨f6, -⟩ | ⟨-, f6, f7⟩
                    · cases f6
                    · skip
                      (conv => whnf); refine VC.fa fl25_1 ?_
                      (conv => whnf); refine ld1 (v := .string n1) ct9 (by rw [hb7.cell]; rfl) trivial ?_
                      have d8 : decide ((nw.size : Int) ≤ (n1.size : Int)) = true := decide_eq_true (by omega)
                      (conv => whnf); rw [d8]
                      (conv => whnf); refine VC.fa fl25_1 ?_
                      (conv => whnf); refine ld1 (v := .string n1) ct9 (by rw [hb7.cell]; rfl) trivial ?_
                      (conv => whnf); refine vcutSH Tryd.underlying9 (by omega) (by omega) ?_
                      rw [Int.toNat_natCast, f7]
                      (conv => whnf); rw [txt_dec, decide_eq_true rfl]
                      (conv => whnf)
                      exact ⟨rfl, ag7⟩
              · exact absurd (wth rfl) (by decide)
              · clear wth
                (conv => whnf); rw [d5]
                (conv => whnf); refine VC.fa fl25_0 ?_
                (conv => whnf); refine ld1 (v := .string n0) ct9 (by rw [(hbW stg2).cell]; rfl) trivial ?_
                (conv => whnf); refine VCall.mk (read_p (i := 0) (s := s) (fm := fm) (rm := rm) (wm := wm) (x := y) sen2 stg2 (by rw [hrd5]; decide) hnx (.inl ⟨rfl, sy6, ris5, rfl⟩)) ?_
                rintro _ H7 ⟨qr, rfl, st7⟩
                have hb7 := hbw.agr st7.old hbw.lt
                have ag7 : Agr (Old H) H H7 := ag2.trans (st7.old.mono fun k hk => old_lt ag2 hk)
                clear st7 stg2
                generalize readM y n0 = R at FR ⊢
                obtain ⟨rt, rc⟩ := R
                cases rc with
                | zero =>
                  obtain ⟨f1, f2⟩ := FR rfl
                  have f2 : rt = nw := f2
                  subst f2
                  (conv => whnf); refine ifeqN Tryd.underlying35 ?_
                  (conv => whnf); rw [txt_dec, decide_eq_true rfl]
                  cases cd with
                  | zero =>
                    obtain ⟨f3, f4⟩ := F0 rfl
                    subst f4
                    (conv => whnf); refine ifeqN Tryd.underlying35 ?_
                    (conv => whnf); refine VC.fa fl25_1 ?_
                    (conv => whnf); refine ld1 (v := .string rt) ct9 (by rw [hb7.cell]; rfl) trivial ?_
                    (conv => whnf); rw [txt_dec, decide_eq_true rfl]
                    (conv => whnf)
                    exact ⟨rfl, ag7⟩
                  | succ cd =>
                    have f5 := F1 (Nat.succ_ne_zero cd)
                    (conv => whnf); refine ifeq Tryd.underlying35 ?_
                    (conv => whnf); refine beq_b Tryd.underlying4 ?_
                    by_cases hno : rt = od
                    · have d7 : decide (rt = od) = true := decide_eq_true hno
                      (conv => whnf); rw [txt_dec, d7]
                      (conv => whnf)
                      exact ⟨rfl, ag7⟩
                    · rcases f5 with ⟨-, f6⟩ | ⟨-, f6, f7⟩
                      · exact absurd f6 hno
                      · have d7 : decide (rt = od) = false := decide_eq_false hno
                        (conv => whnf); rw [txt_dec, d7]
                        (conv => whnf); refine VC.fa fl25_1 ?_
                        (conv => whnf); refine ld1 (v := .string n1) ct9 (by rw [hb7.cell]; rfl) trivial ?_
                        have d8 : decide ((rt.size : Int) ≤ (n1.size : Int)) = true := decide_eq_true (by omega)
                        (conv => whnf); rw [d8]
                        (conv => whnf); refine VC.fa fl25_1 ?_
                        (conv => whnf); refine ld1 (v := .string n1) ct9 (by rw [hb7.cell]; rfl) trivial ?_
                        (conv => whnf); refine vcutSH Tryd.underlying9 (by omega) (by omega) ?_
                        rw [Int.toNat_natCast, f7]
                        (conv => whnf); rw [txt_dec, decide_eq_true rfl]
                        (conv => whnf)
                        exact ⟨rfl, ag7⟩
                | succ rc =>
                  (conv => whnf); refine ifeq Tryd.underlying35 ?_
                  cases cd with
                  | zero =>
                    obtain ⟨f3, f4⟩ := F0 rfl
                    subst f4
                    (conv => whnf); refine ifeqN Tryd.underlying35 ?_
                    (conv => whnf); refine VC.fa fl25_1 ?_
                    (conv => whnf); refine ld1 (v := .string nw) ct9 (by rw [hb7.cell]; rfl) trivial ?_
                    (conv => whnf); rw [txt_dec, decide_eq_true rfl]
                    (conv => whnf)
                    exact ⟨rfl, ag7⟩
                  | succ cd =>
                    have f5 := F1 (Nat.succ_ne_zero cd)
                    (conv => whnf); refine ifeq Tryd.underlying35 ?_
                    (conv => whnf); refine beq_b Tryd.underlying4 ?_
                    by_cases hno : nw = od
                    · have d7 : decide (nw = od) = true := decide_eq_true hno
                      (conv => whnf); rw [txt_dec, d7]
                      (conv => whnf)
                      exact ⟨rfl, ag7⟩
                    · rcases f5 with ⟨-, f6⟩ | ⟨-, f6, f7⟩
                      · exact absurd f6 hno
                      · have d7 : decide (nw = od) = false := decide_eq_false hno
                        (conv => whnf); rw [txt_dec, d7]
                        (conv => whnf); refine VC.fa fl25_1 ?_
                        (conv => whnf); refine ld1 (v := .string n1) ct9 (by rw [hb7.cell]; rfl) trivial ?_
                        have d8 : decide ((nw.size : Int) ≤ (n1.size : Int)) = true := decide_eq_true (by omega)
                        (conv => whnf); rw [d8]
                        (conv => whnf); refine VC.fa fl25_1 ?_
                        (conv => whnf); refine ld1 (v := .string n1) ct9 (by rw [hb7.cell]; rfl) trivial ?_
                        (conv => whnf); refine vcutSH Tryd.underlying9 (by omega) (by omega) ?_
                        rw [Int.toNat_natCast, f7]
                        (conv => whnf); rw [txt_dec, decide_eq_true rfl]
                        (conv => whnf)
                        exact ⟨rfl, ag7⟩
end Go.Proofs.YtfdlhakfmbdamaaDoor
