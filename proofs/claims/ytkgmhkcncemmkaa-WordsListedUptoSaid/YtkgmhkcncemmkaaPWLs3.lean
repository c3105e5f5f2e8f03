/- words.List: the walk. -/
import Derived.Test.YtkgmhkcncemmkaaPWLs2
set_option linter.unusedVariables false
set_option linter.unusedSimpArgs false
set_option maxRecDepth 100000
namespace Go.Proofs.Ytkgmhkcncemmkaa
open Go.VC
attribute [local irreducible] mRun gRun atRun
/-- The members of fewer than m bytes, in order. -/
def allM (o : Option AM) (m : Nat) : List (List Nat) := (List.range m).flatMap fun k => memL o k 0
theorem allM_succ (o : Option AM) (m : Nat) : allM o (m + 1) = allM o m ++ memL o m 0 := by
  unfold allM
  rw [List.range_succ, List.flatMap_append, List.flatMap_cons, List.flatMap_nil, List.append_nil]
theorem allM_pre (o : Option AM) {c d : Nat} (h : c ≤ d) : ∃ r, allM o d = allM o c ++ r := by
  obtain ⟨e, rfl⟩ := Nat.exists_eq_add_of_le h
  induction e with
  | zero => exact ⟨[], by simp⟩
  | succ e ih =>
    obtain ⟨r, hr⟩ := ih (by omega)
    exact ⟨r ++ memL o (c + e) 0, by rw [← Nat.add_assoc, allM_succ, hr, List.append_assoc]⟩
def listR (o : Option AM) (n : Int) : List ByteArray × Int := if n < 0 ∨ 100 < n then ([], 2) else (((allM o 65).take n.toNat).map txt, 0)
abbrev tS : Ty ByteArray := tStr
/-- What the loop's body holds while words come, and when it has enough. -/
def LQ (L : Nat) (rec : LoopState → Option Code → Loop) (b7 b4 b5 b3 N : Nat) (pre : List (List Nat)) (p : Pc) : Prop :=
  ∃ a cap, p = pAll [pLp L (rec .ready none), pB 57 b7 [.slice a (pre.map txt).length cap], pS tS 9 a (pre.map txt).length cap (pre.map txt), pB 57 b4 [.slice none 0 0], pB 28 b5 [.int .i64 0], pB 3 b3 [.int .i64 (N : Int)]]
def LQx (L : Nat) (rec : LoopState → Option Code → Loop) (b7 b4 b5 b3 N : Nat) (pre : List (List Nat)) (p : Pc) : Prop :=
  ∃ a cap, p = pAll [pLp L (rec .done (some .ret)), pB 57 b7 [.slice a (pre.map txt).length cap], pS tS 9 a (pre.map txt).length cap (pre.map txt), pB 57 b4 [.slice a (pre.map txt).length cap], pB 28 b5 [.int .i64 0], pB 3 b3 [.int .i64 (N : Int)]]
set_option maxHeartbeats 8000000 in
theorem list_c {S : Nat → Prop} {H : Heap} {v : Value} {o : Option AM} {ls : List Nat} (n : Int) (hS : ∀ k, S k → k < H.size) (h : AutoV S H v o) (hc : CellsOk o ls) :
    FnOk Try.prog 29 #[v, .int .i64 n] H fun r H' => Agr (Old H) H H' ∧ ∃ a cap, r = .tuple #[.slice a (listR o n).1.length cap, .int .i64 (listR o n).2] ∧ SlO tS none_ H' H.size 9 (.slice a (listR o n).1.length cap) (listR o n).1 := by
  have hst := stepIn_ h
  refine FnOk.of_vcI Try.func29 rfl (Try.call29 _) ?_
  (conv => whnf); refine vbox [.int .i64 n] rfl ?_
  intro b3 H1 hb3 hs1 hk1 ha1
  have st1 := (St.nil H).box hb3 hs1 hk1 ha1
  (conv => whnf); refine valloc (.slice none 0 0) [.slice none 0 0] rfl rfl ?_
  intro b4 H2 hb4 hs2 hk2 ha2
  have st2 := st1.box hb4 hs2 hk2 ha2
  (conv => whnf); refine valloc (.int .i64 0) [.int .i64 0] rfl rfl ?_
  intro b5 H3 hb5 hs3 hk3 ha3
  have st3 := st2.box hb5 hs3 hk3 ha3
  (conv => whnf); refine ld1 (v := .int .i64 n) ct3 (by rw [(st3.blk 0 rfl).cell]; rfl) trivial ?_
  by_cases hbad : n < 0 ∨ 100 < n
  · have hR : listR o n = ([], 2) := by unfold listR; rw [if_pos hbad]
    have fin : ∀ {H' : Heap} {ps : List Pc} (st : St H H' ps), ps[1]? = some (pB 57 b4 [.slice none 0 0]) → ps[2]? = some (pB 28 b5 [.int .i64 2]) → ∀ fr, VRet Try.prog [ResultVar.cell 4 57, ResultVar.cell 5 28] (fun r H' => Agr (Old H) H H' ∧ ∃ a cap, r = .tuple #[.slice a (listR o n).1.length cap, .int .i64 (listR o n).2] ∧ SlO tS none_ H' H.size 9 (.slice a (listR o n).1.length cap) (listR o n).1) (v :: .int .i64 n :: undef :: .pointer (some ⟨b3, 0, none⟩) :: .pointer (some ⟨b4, 0, none⟩) :: .pointer (some ⟨b5, 0, none⟩) :: fr) [] H' := fun {H' ps} st h4 h5 fr => by
      refine VRet.nil ?_
      (conv => whnf); refine ld1 (v := .slice none 0 0) ct57 (by rw [(st.blk 1 h4).cell]; rfl) trivial ?_
      (conv => whnf); refine ld1 (v := .int .i64 2) ct28 (by rw [(st.blk 2 h5).cell]; rfl) trivial ?_
      rw [hR]
      exact ⟨st.old, none, 0, rfl, SlO.nil⟩
    by_cases h1 : n < 0
    · have d1 : decide (n < 0) = true := decide_eq_true h1
      (conv => whnf); rw [d1]
      (conv => whnf); refine st1B st3 1 ct57 rfl (by simp) rfl fun H4 st4 => ?_
      (conv => whnf); refine st1B st4 2 ct28 rfl (by simp) rfl fun H5 st5 => ?_
      (conv => whnf)
      exact fin st5 rfl rfl _
    · have d1 : decide (n < 0) = false := decide_eq_false h1
      have d2 : decide (100 < n) = true := decide_eq_true (by omega)
      (conv => whnf); rw [d1]
      (conv => whnf); refine ld1 (v := .int .i64 n) ct3 (by rw [(st3.blk 0 rfl).cell]; rfl) trivial ?_
      (conv => whnf); rw [d2]
      (conv => whnf); refine st1B st3 1 ct57 rfl (by simp) rfl fun H4 st4 => ?_
      (conv => whnf); refine st1B st4 2 ct28 rfl (by simp) rfl fun H5 st5 => ?_
      (conv => whnf)
      exact fin st5 rfl rfl _
  have d1 : decide (n < 0) = false := decide_eq_false (by omega)
  have d2 : decide (100 < n) = false := decide_eq_false (by omega)
  obtain ⟨N, rfl⟩ := Int.eq_ofNat_of_zero_le (show 0 ≤ n by omega)
  have hN : N ≤ 100 := by omega
  have hR : listR o (N : Int) = (((allM o 65).take N).map txt, 0) := by unfold listR; rw [if_neg hbad, Int.toNat_natCast]
  (conv => whnf); rw [d1]
  (conv => whnf); refine ld1 (v := .int .i64 (N : Int)) ct3 (by rw [(st3.blk 0 rfl).cell]; rfl) trivial ?_
  (conv => whnf); rw [d2]
  (conv => whnf); refine newTally_v st3 hS (h.frame (st3.old.mono hS)) fun pb F0 H4 st4 => ?_
  (conv => whnf); refine valloc (.slice none 0 0) [.slice none 0 0] rfl rfl ?_
  intro b7 H5 hb7 hs5 hk5 ha5
  have st5 := ((st4.box hb7 hs5 hk5 ha5).nils tS 9).push_ds
  have st6 : St H H5 [pTal F0 v o pb 1, pDs [], pB 57 b7 [.slice none 0 0], pS tS 9 none 0 0 [], pB 57 b4 [.slice none 0 0], pB 28 b5 [.int .i64 0], pB 3 b3 [.int .i64 (N : Int)]] := st5.pick [3, 6, 4, 5, 1, 2, 0] (by decide)
  have fin : ∀ {H' : Heap} {ds : List Nat} {F : Nat → Prop} {L : Nat} {a a7 : Option Addr} {cap n7 c7 : Nat} (st : St H H' [pTal F v o pb L, pDs ds, pB 57 b7 [.slice a7 n7 c7], pS tS 9 a (((allM o 65).take N).map txt).length cap (((allM o 65).take N).map txt), pB 57 b4 [.slice a (((allM o 65).take N).map txt).length cap], pB 28 b5 [.int .i64 0], pB 3 b3 [.int .i64 (N : Int)]]), ds.Nodup → ∀ fr,
      VRet Try.prog [ResultVar.cell 4 57, ResultVar.cell 5 28] (fun r H' => Agr (Old H) H H' ∧ ∃ a cap, r = .tuple #[.slice a (listR o (N : Int)).1.length cap, .int .i64 (listR o (N : Int)).2] ∧ SlO tS none_ H' H.size 9 (.slice a (listR o (N : Int)).1.length cap) (listR o (N : Int)).1) (v :: .int .i64 (N : Int) :: undef :: .pointer (some ⟨b3, 0, none⟩) :: .pointer (some ⟨b4, 0, none⟩) :: .pointer (some ⟨b5, 0, none⟩) :: fr) ds H' := fun {H' ds F L a a7 cap n7 c7} st hnd fr => by
    refine VRet.in_ hnd (st.at_ 1 rfl) fun H'' ha hs => ?_
    have stp := st.pick [1, 0, 2, 3, 4, 5, 6] (by decide)
    have st' : St H H'' [pTal F v o pb L, pB 57 b7 [.slice a7 n7 c7], pS tS 9 a (((allM o 65).take N).map txt).length cap (((allM o 65).take N).map txt), pB 57 b4 [.slice a (((allM o 65).take N).map txt).length cap], pB 28 b5 [.int .i64 0], pB 3 b3 [.int .i64 (N : Int)]] := stp.dsOff ha hs
    (conv => whnf); refine ld1 (v := .slice a (((allM o 65).take N).map txt).length cap) ct57 (by rw [(st'.blk 3 rfl).cell]; rfl) trivial ?_
    (conv => whnf); refine ld1 (v := .int .i64 0) ct28 (by rw [(st'.blk 4 rfl).cell]; rfl) trivial ?_
    rw [hR]
    exact ⟨st'.old, a, cap, rfl, St.own st' 2 rfl⟩
  (conv => whnf)
  refine VLoopD.mk [8] (fun m : Nat => [.int .i64 (m : Int)]) (fun m ds H6 => m ≤ 65 ∧ ds.Nodup ∧ (allM o m).length ≤ N ∧ ∃ F L a cap, 1 ≤ L ∧ L ≤ 65 ∧ St H H6 [pTal F v o pb L, pDs ds, pB 57 b7 [.slice a ((allM o m).map txt).length cap], pS tS 9 a ((allM o m).map txt).length cap ((allM o m).map txt), pB 57 b4 [.slice none 0 0], pB 28 b5 [.int .i64 0], pB 3 b3 [.int .i64 (N : Int)]]) (fun m _ => 65 - m) ?_ ?_
  · (conv => whnf)
    exact ⟨0, rfl, Nat.zero_le _, List.Pairwise.nil, Nat.zero_le _, F0, 1, none, 0, Nat.le_refl _, by omega, st6⟩
  · rintro m ds H6 junk6 ⟨hm, hnd, hlen, F, L, a, cap, hL1, hL2, st6⟩
    (conv => whnf); refine VIte.mk (fun hz => ?_) (fun hz => ?_) <;> simp only [decide_eq_true_eq, decide_eq_false_iff_not] at hz
    · (conv => whnf); refine members_c st6 (n := m) fun c1 c2 H7 st7 => ?_
      (conv => whnf); refine VRF.mk 81 #[.pointer (some ⟨c1, 0, none⟩), .pointer (some ⟨c2, 0, none⟩)] rfl ?_
      rintro rec ⟨fn, hrec⟩
      have st8 := (st7.pushMark).pushLoop (rec .ready none)
      rw [Array.size_push] at st8
      have st9 : St H _ ([pLp (H7.size + 1) (rec .ready none), pB 57 b7 [.slice a ((allM o m).map txt).length cap], pS tS 9 a ((allM o m).map txt).length cap ((allM o m).map txt), pB 57 b4 [.slice none 0 0], pB 28 b5 [.int .i64 0], pB 3 b3 [.int .i64 (N : Int)]] ++ [pTal F v o pb L, pB 81 c1 [.pointer (some ⟨pb, 0, none⟩)], pB 3 c2 [.int .i64 (m : Int)], pDs [H7.size], pDs ds]) := st8.pick [10, 2, 3, 4, 5, 6, 0, 7, 8, 9, 1] (by decide)
      have st10 := (st9.bundle).perm (List.Perm.swap _ _ _)
      have hy : YOk (H7.size + 1) N (LQ (H7.size + 1) rec b7 b4 b5 b3 N) (LQx (H7.size + 1) rec b7 b4 b5 b3 N) := by
        intro B' H0' H'' ps st i p pre w hp hQ hle hw
        obtain ⟨a', cap', rfl⟩ := hQ
        have so := st.open_ i hp
        refine VRound.mk2 _ _ _ _ _ _ rec hrec (so.at_ 0 rfl) rfl ?_
        (conv => whnf)
        refine ⟨rfl, so.at_ 0 rfl, ?_⟩
        have so1 := so.lpSet 0 rfl (rec .busy none)
        have hpl : (pre.map txt).length = pre.length := List.length_map _
        (conv => whnf); refine ld1 (v := .slice a' (pre.map txt).length cap') ct57 (by rw [(so1.blk 1 rfl).cell]; rfl) trivial ?_
        (conv => whnf); refine ld1 (v := .int .i64 (N : Int)) ct3 (by rw [(so1.blk 5 rfl).cell]; rfl) trivial ?_
        by_cases heq : pre.length = N
        · have d3 : (((pre.map txt).length : Int) == (N : Int)) = true := by rw [hpl, heq]; simp
          (conv => whnf); rw [d3]
          (conv => whnf); refine ld1 (v := .slice a' (pre.map txt).length cap') ct57 (by rw [(so1.blk 1 rfl).cell]; rfl) trivial ?_
          (conv => whnf); refine st1B so1 3 ct57 rfl (by simp) rfl fun H21 so2 => ?_
          (conv => whnf); refine st1B so2 4 ct28 rfl (by simp) rfl fun H22 so3 => ?_
          (conv => whnf)
          have so4 := so3.lpSet 0 rfl (rec .done (some .ret))
          exact ⟨so3.at_ 0 rfl, .inr ⟨heq, rfl, _, ⟨a', cap', rfl⟩, st.close i hp so4⟩⟩
        · have d3 : (((pre.map txt).length : Int) == (N : Int)) = false := by rw [hpl]; exact beq_eq_false_iff_ne.2 (by omega)
          (conv => whnf); rw [d3]
          (conv => whnf); refine ld1 (v := .slice a' (pre.map txt).length cap') ct57 (by rw [(so1.blk 1 rfl).cell]; rfl) trivial ?_
          (conv => whnf); refine vbuild1 sl57 [.string (txt w)] rfl rfl (by decide) (by decide) ?_
          intro q21 H21 hq21 hs21 hb21 ha21
          (conv => whnf); refine app1 (x := txt w) (so1.skip hq21 ha21) 2 sl57 rfl hb21 ⟨rfl, by rw [txt_size]; unfold maxLen; omega⟩ rfl (by omega) (by decide) fun a'' c'' H22 so2 _ => ?_
          (conv => whnf); refine st1B so2 1 ct57 rfl (by simp) rfl fun H23 so3 => ?_
          (conv => whnf)
          have so4 := so3.lpSet 0 rfl (rec .ready none)
          have ee : pre.map txt ++ [txt w] = (pre ++ [w]).map txt := by simp
          have el : (pre.map txt).length + 1 = ((pre ++ [w]).map txt).length := by simp
          refine ⟨so3.at_ 0 rfl, .inl ⟨by omega, rfl, _, ⟨a'', c'', rfl⟩, ?_⟩⟩
          rw [ee, el] at so4
          exact st.close i hp so4
      refine (mem1_c (Q := LQ (H7.size + 1) rec b7 b4 b5 b3 N) (Qx := LQx (H7.size + 1) rec b7 b4 b5 b3 N) (B := Old H) hS h hc hy (show m ≤ 64 by omega) st10 hL1 hL2 ⟨a, cap, rfl⟩ hlen).mono fun _ H8 hE => ?_
      obtain ⟨v', F1, L1, p1, hL11, hL12, st11, hcase⟩ := hE
      rw [← allM_succ] at hcase
      rcases hcase with ⟨-, hlen1, a1, cap1, rfl⟩ | ⟨-, hlen1, a1, cap1, rfl⟩
      · have st12 := (st11.perm (List.Perm.swap _ _ _)).unbundle
        refine ⟨.ready, none, by decide, st12.at_ 0 rfl, .inl ⟨rfl, ?_⟩⟩
        have st13 := st12.lpSet 0 rfl (rec .exhausted none)
        obtain ⟨st14, hnot⟩ := (st13.pick [7, 8, 6, 1, 2, 3, 4, 5] (by decide) : St H _ [pDs [H7.size], pDs ds, pTal F1 v o pb L1, pB 57 b7 [.slice a1 ((allM o (m + 1)).map txt).length cap1], pS tS 9 a1 ((allM o (m + 1)).map txt).length cap1 ((allM o (m + 1)).map txt), pB 57 b4 [.slice none 0 0], pB 28 b5 [.int .i64 0], pB 3 b3 [.int .i64 (N : Int)]]).dsJoin
        (conv => whnf); rw [w64 (x := (m : Int) + 1) (by omega) (by omega)]
        exact ⟨rfl, m + 1, by simp, ⟨by omega, List.nodup_cons.2 ⟨hnot, hnd⟩, hlen1, F1, L1, a1, cap1, hL11, hL12, st14.pick [1, 0, 2, 3, 4, 5, 6] (by decide)⟩, by omega⟩
      · have st12 := (st11.perm (List.Perm.swap _ _ _)).unbundle
        refine ⟨.done, some .ret, by decide, st12.at_ 0 rfl, .inr ⟨rfl, ?_⟩⟩
        have st13 := st12.lpSet 0 rfl (rec .exhausted (some .ret))
        obtain ⟨r, hr⟩ := allM_pre o (c := m + 1) (d := 65) (by omega)
        have htk : (allM o (m + 1)).take N = (allM o 65).take N := by rw [hr, List.take_append_of_le_length (by omega)]
        rw [htk] at st13
        obtain ⟨st14, hnot⟩ := (st13.pick [7, 8, 6, 1, 2, 3, 4, 5] (by decide) : St H _ [pDs [H7.size], pDs ds, pTal F1 v o pb L1, pB 57 b7 [.slice a1 (((allM o 65).take N).map txt).length cap1], pS tS 9 a1 (((allM o 65).take N).map txt).length cap1 (((allM o 65).take N).map txt), pB 57 b4 [.slice a1 (((allM o 65).take N).map txt).length cap1], pB 28 b5 [.int .i64 0], pB 3 b3 [.int .i64 (N : Int)]]).dsJoin
        (conv => whnf)
        exact fin (st14.pick [1, 0, 2, 3, 4, 5, 6] (by decide)) (List.nodup_cons.2 ⟨hnot, hnd⟩) _
    · obtain rfl : m = 65 := by omega
      have htk : (allM o 65).take N = allM o 65 := List.take_of_length_le hlen
      (conv => whnf); refine ld1 (v := .slice a ((allM o 65).map txt).length cap) ct57 (by rw [(st6.blk 2 rfl).cell]; rfl) trivial ?_
      (conv => whnf); refine st1B st6 4 ct57 rfl (by simp) rfl fun H7 st7 => ?_
      (conv => whnf); refine st1B st7 5 ct28 rfl (by simp) rfl fun H8 st8 => ?_
      (conv => whnf)
      rw [← htk] at st8
      exact fin st8 hnd _
end Go.Proofs.Ytkgmhkcncemmkaa
