/- cause: the walk. -/
import Derived.Test.YtfdlhakfmbdamaaDoorPFs5
set_option linter.unusedVariables false
set_option linter.unusedSimpArgs false
set_option maxRecDepth 100000
namespace Go.Proofs.YtfdlhakfmbdamaaDoor
open Go.VC
theorem sent_eq {H : Heap} {b o : Nat → Nat} (sen : SentH H b o) {m n : Nat} (h1 : 1 ≤ m) (h2 : m ≤ 4) (h3 : 1 ≤ n) (h4 : n ≤ 4) : decide ((⟨b m, o m, none⟩ : Addr) = ⟨b n, o n, none⟩) = decide (m = n) := by
  refine decide_eq_decide.2 ⟨fun h => ?_, fun h => by rw [h]⟩
  injection h with h5 h6
  exact sen.inj m n h1 h2 h3 h4 h5 h6
theorem sent_is {H : Heap} {b o : Nat → Nat} (sen : SentH H b o) {m n : Nat} (h1 : 1 ≤ m) (h2 : m ≤ 4) (h3 : 1 ≤ n) (h4 : n ≤ 4) :
    Pure Tryd.prog 28 #[sentV b o m, sentV b o n] H (.bool (decide (m = n))) := by
  obtain ⟨ca, ta, ea⟩ := sen.row m h1 h2
  obtain ⟨cb, tb, eb⟩ := sen.row n h3 h4
  have := is_p (H := H) (a := ⟨b m, o m, none⟩) (b := ⟨b n, o n, none⟩) ea eb
  rwa [sent_eq sen h1 h2 h3 h4] at this
/-- What is known of the cause when the first k were asked. -/
def curM (n k : Nat) : Int := if n ≤ k then (n : Int) else -1
theorem cause_nil {H : Heap} {op name : ByteArray} : Pure Tryd.prog 12 #[.nilIface, .string op, .string name] H (.int .i64 0) := by
  refine FnOk.of_vc Tryd.func12 rfl (Tryd.call12 _) ?_
  (conv => whnf); refine ifeqN Tryd.underlying35 ?_
  (conv => whnf)
  exact ⟨rfl, Agr.refl _ _⟩
set_option maxHeartbeats 8000000 in
theorem lawcause_p {H : Heap} {op name : ByteArray} {n q : Nat} {b o : Nat → Nat} (sen : SentH H b o) (hop : op.size ≤ 4194304) (hnm : name.size ≤ 4194304) (hn1 : 1 ≤ n) (hn4 : n ≤ 4) (hb : Blk H q 85 (peL op name (b n) (o n))) :
    Pure Tryd.prog 12 #[.iface 61 (.pointer (some ⟨q, 0, none⟩)), .string op, .string name] H (.int .i64 (n : Int)) := by
  have hql := hb.lt
  have e1 : (!(op.toList == op.toList)) = false := by rw [beq_self_eq_true]; rfl
  have e2 : (!(name.toList == name.toList)) = false := by rw [beq_self_eq_true]; rfl
  refine FnOk.of_vc Tryd.func12 rfl (Tryd.call12 _) ?_
  (conv => whnf); refine ifeq Tryd.underlying35 ?_
  (conv => whnf); refine vta_yes Tryd.underlying61 (fun ms h => by cases h) ?_
  (conv => whnf); refine peqS Tryd.underlying61 ?_
  (conv => whnf); refine VC.fa fl85_0 ?_
  (conv => whnf); refine ld1 (v := .string op) ct9 (by rw [hb.cell]; rfl) trivial ?_
  (conv => whnf); rw [e1]
  (conv => whnf); refine VC.fa fl85_1 ?_
  (conv => whnf); refine ld1 (v := .string name) ct9 (by rw [hb.cell]; rfl) trivial ?_
  (conv => whnf); rw [e2]
  (conv => whnf); refine VC.fa fl85_2 ?_
  (conv => whnf); refine ld1 (v := sentV b o n) ct35 (by rw [hb.cell]; rfl) trivial ?_
  (conv => whnf); refine ifeq Tryd.underlying35 ?_
  (conv => whnf); refine pures (unwrap_p (v := sentV b o n) hb rfl rfl) fun H1 ha1 => ?_
  (conv => whnf); refine ifeq Tryd.underlying35 ?_
  have sen1 := sen.agr ha1
  (conv => whnf); refine ld1 (v := sentV b o 1) ct35 (sen1.cellG 1 (by decide) (by decide) rfl) trivial ?_
  (conv => whnf); refine ld1 (v := sentV b o 2) ct35 (sen1.cellG 2 (by decide) (by decide) rfl) trivial ?_
  (conv => whnf); refine ld1 (v := sentV b o 3) ct35 (sen1.cellG 3 (by decide) (by decide) rfl) trivial ?_
  (conv => whnf); refine ld1 (v := sentV b o 4) ct35 (sen1.cellG 4 (by decide) (by decide) rfl) trivial ?_
  (conv => whnf); refine vbuildL sl94 [sentV b o 1, sentV b o 2, sentV b o 3, sentV b o 4] [[sentV b o 1], [sentV b o 2], [sentV b o 3], [sentV b o 4]] rfl (by simp) rfl (by decide) (by decide) ?_
  intro q2 H2 hq2 hs2 hb2 ha2
  (conv => whnf); refine vbuildL sl95 [.int .i64 1, .int .i64 2, .int .i64 3, .int .i64 4] [[.int .i64 1], [.int .i64 2], [.int .i64 3], [.int .i64 4]] rfl (by simp) rfl (by decide) (by decide) ?_
  intro q3 H3 hq3 hs3 hb3 ha3
  have ag2 : Agr (Old H) H H2 := ha1.trans (ha2.mono fun k hk => by have := old_lt ha1 hk; omega)
  have ag3 : Agr (Old H) H H3 := ag2.trans (ha3.mono fun k hk => by have := old_lt ag2 hk; omega)
  have hb2' : Blk H3 q2 35 [sentV b o 1, sentV b o 2, sentV b o 3, sentV b o 4] := hb2.agr ha3 (by omega)
  have ag13 : Agr (Old H3) H3 H3 := Agr.refl _ _
  (conv => whnf)
  refine VLoop.mk [9, 12] (fun k : Nat => [.int .i64 (curM n k), .int .i64 (k : Int)]) (fun k G => k ≤ 4 ∧ Agr (Old H3) H3 G) (fun k _ => 4 - k) ?_ ?_
  · (conv => whnf)
    refine ⟨0, ?_, Nat.zero_le _, Agr.refl _ _⟩
    unfold curM
    rw [if_neg (by omega)]
    rfl
  · rintro k G junk ⟨hk, hg⟩
    have agG : Agr (Old H) H G := ag3.trans (hg.mono fun k hk => old_lt ag3 hk)
    (conv => whnf); refine VIte.mk (fun hz => ?_) (fun hz => ?_) <;> simp only [decide_eq_true_eq, decide_eq_false_iff_not] at hz
    · have hbG := hb.agr agG hql
      have senG := sen.agr agG
      have hb2G := hb2'.agr hg hb2'.lt
      have hb3G := hb3.agr hg hb3.lt
      have hcell : VC.cell G q2 (0 + (k : Int).toNat * 1) = some (sentV b o (k + 1)) := by
        rw [hb2G.cell, show 0 + (k : Int).toNat * 1 = k by omega]
        match k, (show k < 4 by omega) with
        | 0, _ => rfl
        | 1, _ => rfl
        | 2, _ => rfl
        | 3, _ => rfl
      (conv => whnf); try (refine VSeq.run ?_)
      (conv => whnf); try (refine VSeq.run ?_)
      (conv => whnf); refine VDraw.held (Old G) 17 (sq [0,1,2,3,4,5,6,7,9,11,12,13,14] (.f 8 (.f 10 (.f 15 (.f 16 .e))))) rfl (by kernel_rfl) ?_
      (conv => whnf); refine VC.fa fl85_2 ?_
      (conv => whnf); refine ld1 (v := sentV b o n) ct35 (by rw [hbG.cell]; rfl) hbG.lt ?_
      (conv => whnf); refine ix sl94 (by omega) (by omega) ?_
      (conv => whnf); refine ld1 (v := sentV b o (k + 1)) ct35 hcell hb2G.lt ?_
      (conv => whnf); refine ix sl94 (by omega) (by omega) ?_
      (conv => whnf); refine ld1 (v := sentV b o (k + 1)) ct35 hcell hb2G.lt ?_
      (conv => whnf); refine pures (sent_is senG hn1 hn4 (by omega) (by omega)) fun G1 ga1 => ?_
      refine ⟨ga1, ?_⟩
      (conv => whnf); refine pures (unwrap_p (v := sentV b o n) (hbG.agr ga1 hbG.lt) rfl rfl) fun G2 ga2 => ?_
      have ag2' : Agr (Old G) G G2 := ga1.trans (ga2.mono fun k hk => old_lt ga1 hk)
      refine ⟨ag2', ?_⟩
      (conv => whnf); refine pures (sent_is (senG.agr ag2') hn1 hn4 (by omega) (by omega)) fun G3 ga3 => ?_
      have ag3' : Agr (Old G) G G3 := ag2'.trans (ga3.mono fun k hk => old_lt ag2' hk)
      refine ⟨ag3', ?_⟩
      (conv => whnf); refine bneq_b Tryd.underlying4 ?_
      refine ⟨ag3', ?_⟩
      have d1 : (!(decide (n = k + 1) == decide (n = k + 1))) = false := by rw [beq_self_eq_true]; rfl
      (conv => whnf); rw [d1]
      (conv => whnf); try (refine VSeq.run ?_)
      have hbG3 := hbG.agr ag3' hbG.lt
      have senG3 := senG.agr ag3'
      have hb2G3 := hb2G.agr ag3' hb2G.lt
      have hb3G3 := hb3G.agr ag3' hb3G.lt
      have hcell3 : VC.cell G3 q2 (0 + (k : Int).toNat * 1) = some (sentV b o (k + 1)) := by
        rw [cell_eq (ag3' q2 hb2G.lt)]; exact hcell
      (conv => whnf); refine VDraw.held (Old G3) 9 (sq [0,1,2,3,4,5,6,7] (.f 8 .e)) rfl (by kernel_rfl) ?_
      (conv => whnf); refine VC.fa fl85_2 ?_
      (conv => whnf); refine ld1 (v := sentV b o n) ct35 (by rw [hbG3.cell]; rfl) hbG3.lt ?_
      (conv => whnf); refine ix sl94 (by omega) (by omega) ?_
      (conv => whnf); refine ld1 (v := sentV b o (k + 1)) ct35 hcell3 hb2G3.lt ?_
      (conv => whnf); refine pures (sent_is senG3 hn1 hn4 (by omega) (by omega)) fun G4 ga4 => ?_
      refine ⟨ga4, ?_⟩
      have hg4 : Agr (Old H3) H3 G4 := hg.trans ((ag3'.trans (ga4.mono fun k hk => old_lt ag3' hk)).mono fun k hk => old_lt hg hk)
      have hb3G4 := hb3G3.agr ga4 hb3G3.lt
      by_cases hnk : n = k + 1
      · have d2 : decide (n = k + 1) = true := decide_eq_true hnk
        have hcell4 : VC.cell G4 q3 (0 + (k : Int).toNat * 1) = some (.int .i64 (((k + 1 : Nat) : Int))) := by
          rw [hb3G4.cell, show 0 + (k : Int).toNat * 1 = k by omega]
          match k, (show k < 4 by omega) with
          | 0, _ => rfl
          | 1, _ => rfl
          | 2, _ => rfl
          | 3, _ => rfl
        (conv => whnf); rw [d2]
        (conv => whnf); refine ix sl95 (by omega) (by omega) ?_
        (conv => whnf); refine ld1 (v := .int .i64 ((k + 1 : Nat) : Int)) ct3 hcell4 trivial ?_
        (conv => whnf); rw [w64 (x := (k : Int) + 1) (by omega) (by omega)]
        refine ⟨rfl, k + 1, ?_, ⟨by omega, hg4⟩, by omega⟩
        rw [show curM n (k + 1) = (k : Int) + 1 by unfold curM; rw [if_pos (by omega)]; omega]
        rfl
      · have d2 : decide (n = k + 1) = false := decide_eq_false hnk
        (conv => whnf); rw [d2]
        (conv => whnf); rw [w64 (x := (k : Int) + 1) (by omega) (by omega)]
        refine ⟨rfl, k + 1, ?_, ⟨by omega, hg4⟩, by omega⟩
        rw [show curM n (k + 1) = curM n k by unfold curM; by_cases h : n ≤ k; rw [if_pos h, if_pos (by omega)]; rw [if_neg h, if_neg (by omega)]]
        rfl
    · obtain rfl : k = 4 := by omega
      have hbG := hb.agr agG hql
      have senG := sen.agr agG
      have hcu : curM n 4 = (n : Int) := by unfold curM; rw [if_pos (by omega)]
      have d1 : decide (curM n 4 > 0) = true := decide_eq_true (by omega)
      have hbn : b n < G.size := by
        obtain ⟨c, t, e⟩ := senG.row n hn1 hn4
        exact (Array.getElem?_eq_some_iff.1 e).1
      (conv => whnf); rw [d1]
      (conv => whnf); refine pures (perr_p hbG (senG.text n hn1 hn4) hbn hop hnm (Nat.le_trans (causeT_size n) (by decide))) fun G1 ga1 => ?_
      rw [hcu]
      (conv => whnf); refine pures (say_p hop hnm (n := n) (by omega)) fun G2 ga2 => ?_
      have e3 : (!((sayM op name (causeT n)).toList == (sayM op name (causeT n)).toList)) = false := by rw [beq_self_eq_true]; rfl
      (conv => whnf); rw [e3]
      (conv => whnf)
      exact ⟨rfl, (agG.trans (ga1.mono fun k hk => old_lt agG hk)).trans (ga2.mono fun k hk => old_lt (agG.trans (ga1.mono fun k hk => old_lt agG hk)) hk)⟩
end Go.Proofs.YtfdlhakfmbdamaaDoor
