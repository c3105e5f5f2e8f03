/- speaks; the law FilesNil: the walks. -/
import Derived.Test.YtfdlhakfmbdamaaDoorPFs6
set_option linter.unusedVariables false
set_option linter.unusedSimpArgs false
set_option maxRecDepth 100000
namespace Go.Proofs.YtfdlhakfmbdamaaDoor
open Go.VC
def aT : ByteArray := ⟨#[97]⟩
def bT : ByteArray := ⟨#[98]⟩
def oneT : ByteArray := ⟨#[49]⟩
def saidT : ByteArray := ⟨#[114, 101, 97, 100, 32, 34, 98, 34, 58, 32, 109, 105, 115, 115, 105, 110, 103]⟩
theorem said_b : sayM rdT bT (causeT 1) = saidT := by decide +kernel
theorem rd_a : readM (newM [(aT, oneT)] []) aT = (oneT, 0) := by decide +kernel
theorem rd_b : readM (read1 (newM [(aT, oneT)] [])) bT = (⟨#[]⟩, 1) := by decide +kernel
theorem listN_p {H : Heap} : Pure Tryd.prog 8 #[.pointer none] H (.slice none 0 0) := by
  refine FnOk.of_vc Tryd.func8 rfl (Tryd.call8 _) ?_
  (conv => whnf); refine peqN Tryd.underlying27 ?_
  (conv => whnf)
  exact ⟨rfl, Agr.refl _ _⟩
set_option maxHeartbeats 8000000 in
theorem speaks_p {H : Heap} {b o : Nat → Nat} (sen : SentH H b o) : Pure Tryd.prog 6 #[] H (.bool true) := by
  refine FnOk.of_vc Tryd.func6 rfl (Tryd.call6 _) ?_
  (conv => whnf); refine vbuildS Tryd.underlying33 rfl _ rfl (fileL (aT, oneT)) rfl ?_
  (conv => whnf); refine vbuild1 sl31 (fileL (aT, oneT)) rfl rfl (by decide) (by decide) ?_
  intro q1 H1 hq1 hs1 hb1 ha1
  have st1 := ((St.nil H).new (T := tFile) (xs := [(aT, oneT)]) (n := 1) hq1 hs1 hb1 ha1 ⟨_, [], by simp; rfl, ⟨[.string aT], [.string oneT], rfl, ⟨rfl, by decide⟩, ⟨rfl, by decide⟩⟩, rfl⟩ rfl (by decide)).nils tBrk 68
  (conv => whnf); refine VCall.mk (new_p (i1 := 0) (i2 := 1) st1 rfl rfl) ?_
  rintro _ G1 ⟨s, fm, rm, wm, rfl, st2⟩
  (conv => whnf); refine VCall.mk (read_p (name := aT) (i := 2) sen st2 (by show 0 < _; decide) (by decide) (.inl ⟨rfl, ⟨rfl, rfl, rfl, rfl⟩, layAll_rise _, rfl⟩)) ?_
  rintro _ G2 ⟨qa, rfl, st3⟩
  obtain ⟨R1, hR1⟩ : ∃ t, t = (readM (newM [(aT, oneT)] []) aT).1 := ⟨_, rfl⟩
  rw [← hR1]
  rw [rd_a] at st3 hR1 ⊢
  (conv => whnf); refine VCall.mk (read_p (name := bT) (i := 2) (s := s) (fm := fm) (rm := rm) (wm := wm) (x := read1 (newM [(aT, oneT)] [])) sen st3 (by show 1 < _; decide) (by decide) (.inl ⟨rfl, ⟨rfl, rfl, rfl, rfl⟩, layAll_rise _, rfl⟩)) ?_
  rintro _ G3 ⟨qb, rfl, st4⟩
  rw [rd_b] at st4 ⊢
  have hb4 : Blk G3 qb 85 (peL rdT bT (b 1) (o 1)) := st4.blk 6 rfl
  have sen4 := sen.agr st4.old
  (conv => whnf); refine vta_yes Tryd.underlying61 (fun ms h => by cases h) ?_
  have d1 : (R1.toList == ByteArray.toList ⟨#[49]⟩) = true := txt_beq.2 hR1
  (conv => whnf); rw [d1]
  (conv => whnf); refine ifeqN Tryd.underlying35 ?_
  (conv => whnf); refine pneqS Tryd.underlying61 ?_
  have hbn : b 1 < G3.size := by
    obtain ⟨c, t, e⟩ := sen4.row 1 (by decide) (by decide)
    exact (Array.getElem?_eq_some_iff.1 e).1
  have hpe := perr_p (t := causeT 1) hb4 (sen4.text 1 (by decide) (by decide)) hbn (by decide) (by decide) (by decide)
  obtain ⟨R2, hR2⟩ : ∃ t, t = sayM rdT bT (causeT 1) := ⟨_, rfl⟩
  rw [← hR2] at hpe
  (conv => whnf); refine pures hpe fun G5 ga5 => ?_
  have d2 : (R2.toList == ByteArray.toList ⟨#[114, 101, 97, 100, 32, 34, 98, 34, 58, 32, 109, 105, 115, 115, 105, 110, 103]⟩) = true := txt_beq.2 (hR2.trans said_b)
  (conv => whnf); rw [d2]
  (conv => whnf)
  exact ⟨rfl, st4.old.trans (ga5.mono fun k hk => old_lt st4.old hk)⟩
theorem rd_nil (name : ByteArray) : readM (newM [] []) name = (⟨#[]⟩, if goodM name then 1 else 4) := by
  unfold readM
  cases h : goodM name with
  | false => rfl
  | true => rfl
set_option maxHeartbeats 8000000 in
theorem filesNil_p {H : Heap} {b o : Nat → Nat} {name data : ByteArray} (hnm : name.size ≤ 4194304) (sen : SentH H b o) : Pure Tryd.prog 5 #[.string name, .string data] H (.bool true) := by
  have hnx : name.size ≤ maxLen := by unfold maxLen; omega
  refine FnOk.of_vc Tryd.func5 rfl (Tryd.call5 _) ?_
  (conv => whnf); refine pures (speaks_p sen) fun H1 ha1 => ?_
  have st1 : St H H1 [] := (St.nil H).call ha1
  (conv => whnf); refine VCall.mk (read_p (name := name) (i := 0) (s := 0) (fm := 0) (rm := 0) (wm := 0) (x := newM [] []) sen st1 (by show 0 < _; decide) hnx (.inr ⟨rfl, rfl, rfl⟩)) ?_
  rintro _ G2 ⟨qa, rfl, st2⟩
  obtain ⟨R1, hR1⟩ : ∃ t, t = (readM (newM [] []) name).1 := ⟨_, rfl⟩
  rw [← hR1]
  rw [rd_nil] at hR1 st2 ⊢
  (conv => whnf); refine VCall.mk (writeN_p (name := name) (data := data) sen st2 hnx) ?_
  rintro _ G3 ⟨qb, rfl, st3⟩
  have sen3 := sen.agr st3.old
  (conv => whnf); refine VSeq.run ?_
  (conv => whnf); refine pures (rgood_p hnx) fun H4 ha4 => ?_
  have st4 := st3.call ha4
  have sen4 := sen.agr st4.old
  have d1 : (R1.toList == ByteArray.toList ⟨#[]⟩) = true := txt_beq.2 hR1
  cases hgd : goodM name with
  | true =>
    rw [hgd] at st4
    have hb1 : Blk H4 qa 85 (peL rdT name (b 1) (o 1)) := st4.blk 0 rfl
    have hb2 : Blk H4 qb 85 (peL wrT name (b 3) (o 3)) := st4.blk 1 rfl
    (conv => whnf); rw [d1]
    (conv => whnf); refine pures (lawcause_p (op := rdT) sen4 (by decide) hnm (n := 1) (by decide) (by decide) hb1) fun H5 ha5 => ?_
    have st5 := st4.call ha5
    (conv => whnf); refine pures (lawcause_p (op := wrT) (sen4.agr ha5) (by decide) hnm (n := 3) (by decide) (by decide) (hb2.agr ha5 hb2.lt)) fun H6 ha6 => ?_
    have st6 := st5.call ha6
    (conv => whnf); refine pures listN_p fun H7 ha7 => ?_
    (conv => whnf)
    exact ⟨rfl, (st6.call ha7).old⟩
  | false =>
    rw [hgd] at st4
    have hb1 : Blk H4 qa 85 (peL rdT name (b 4) (o 4)) := st4.blk 0 rfl
    have hb2 : Blk H4 qb 85 (peL wrT name (b 4) (o 4)) := st4.blk 1 rfl
    (conv => whnf); rw [d1]
    (conv => whnf); refine pures (lawcause_p (op := rdT) sen4 (by decide) hnm (n := 4) (by decide) (by decide) hb1) fun H5 ha5 => ?_
    have st5 := st4.call ha5
    (conv => whnf); refine pures (lawcause_p (op := wrT) (sen4.agr ha5) (by decide) hnm (n := 4) (by decide) (by decide) (hb2.agr ha5 hb2.lt)) fun H6 ha6 => ?_
    have st6 := st5.call ha6
    (conv => whnf); refine pures listN_p fun H7 ha7 => ?_
    (conv => whnf)
    exact ⟨rfl, (st6.call ha7).old⟩
end Go.Proofs.YtfdlhakfmbdamaaDoor
