/- words.Count, louperef08.Count; speaks of layer 8. -/
import Derived.Test.YtkgmhkcncemmkaaPWrd6
import Derived.Test.YtkgmhkcncemmkaaPAut08
set_option linter.unusedVariables false
set_option linter.unusedSimpArgs false
set_option maxRecDepth 100000
namespace Go.Proofs.Ytkgmhkcncemmkaa
open Go.VC
def duoM : AM := madeM [BitVec.allOnes 256] [[1], [0]] [false, true]
def duoN : AM := ⟨duoM.sets, List.replicate 256 0, [[0 + 1], [0]], [false, true]⟩
theorem duo_sound : soundB [BitVec.allOnes 256] [[1], [0]] 2 = true := by rfl
theorem duo_same : duoM = duoN := by
  have h1 : duoM.cell = List.replicate 256 0 := by kernel_rfl
  have h2 : duoM.next = [[0 + 1], [0]] := by kernel_rfl
  have h3 : duoM.final = [false, true] := rfl
  unfold duoN
  rw [← h1, ← h2, ← h3]
theorem duo_auto : autoOf [BitVec.allOnes 256] [[1], [0]] [false, true] = some duoM := by
  unfold autoOf
  rw [show soundB [BitVec.allOnes 256] [[1], [0]] [false, true].length = true from duo_sound]; rfl
attribute [local irreducible] duoM
theorem duo_count : wN (some duoM) 1 0 = 256 := by rw [duo_same]; kernel_rfl
theorem duo_least : leastM (some duoM) = some ⟨#[0]⟩ := by rw [duo_same]; kernel_rfl
attribute [local irreducible] mRun gRun atRun

def countR (o : Option AM) (n : Int) : Int × Int := if n < 0 ∨ 64 < n then (0, 2) else if wN o n.toNat 0 < TM then (((wN o n.toNat 0 : Nat) : Int), (0 : Int)) else (0, 4)
theorem tal_pure {H H1 H2 : Heap} {F F' : Nat → Prop} {va : Value} {o : Option AM} {pb L : Nat} (ha : Agr (Old H) H H1) (hF : ∀ k, F k → H.size ≤ k ∧ k < H1.size) (h : TS H1 F H2 F' va o pb L) : Agr (Old H) H H2 :=
  ha.trans (h.agr.mono fun k hk => ⟨old_lt ha hk, fun hf => by have := (hF k hf).1; unfold Old at hk; omega⟩)
theorem countW_p {S : Nat → Prop} {H : Heap} {v : Value} {o : Option AM} {ls : List Nat} (n : Int) (hS : ∀ k, S k → k < H.size) (h : AutoV S H v o) (hc : CellsOk o ls) :
    Pure Try.prog 16 #[v, .int .i64 n] H (.tuple #[.int .i64 (countR o n).1, .int .i64 (countR o n).2]) := by
  obtain ⟨hn1, hn2⟩ := stN_le h
  have hst : StepIn o := fun q b h0 h1 hb => by
    obtain ⟨n, rfl⟩ := Int.eq_ofNat_of_zero_le h0
    exact step_rng h (by omega) hb
  refine FnOk.of_vc Try.func16 rfl (Try.call16 _) ?_
  by_cases h1 : n < 0
  · have d1 : decide (n < 0) = true := decide_eq_true h1
    (conv => whnf); rw [d1]
    (conv => whnf)
    exact ⟨by unfold countR; rw [if_pos (.inl h1)], Agr.refl _ _⟩
  · have d1 : decide (n < 0) = false := decide_eq_false h1
    (conv => whnf); rw [d1]
    by_cases h2 : 64 < n
    · have d2 : decide (64 < n) = true := decide_eq_true h2
      (conv => whnf); rw [d2]
      (conv => whnf)
      exact ⟨by unfold countR; rw [if_pos (.inr h2)], Agr.refl _ _⟩
    · have d2 : decide (64 < n) = false := decide_eq_false h2
      obtain ⟨m, rfl⟩ := Int.eq_ofNat_of_zero_le (Int.not_lt.1 h1)
      have hcR : countR o (m : Int) = if wN o m 0 < TM then (((wN o m 0 : Nat) : Int), (0 : Int)) else (0, 4) := by
        unfold countR
        rw [if_neg (by omega), Int.toNat_natCast]
      (conv => whnf); rw [d2]
      (conv => whnf); refine VCall.mk (newTally_c hS h) ?_
      rintro _ H1 ⟨ha1, pb, F, rfl, ht, hF⟩
      (conv => whnf); refine VCall.mk (from_c (q := 0) (n := m) (fun k hk => ⟨old_lt ha1 (hS k hk), fun hf => by have := (hF k hf).1; have := hS k hk; omega⟩) (fun k hk => (hF k hk).2) (h.frame (ha1.mono hS)) ht (Nat.le_refl _) (by omega) (by omega) (by omega)) ?_
      rintro _ H2 ⟨rfl, F', ts⟩
      have hpure := tal_pure ha1 hF ts
      have hcnt := cnt_eq hc hst m 0 (Int.le_refl _) (by omega)
      have hq0 : cntP o m ((0 : Nat) : Int) = cntP o m 0 := rfl
      rw [hq0, hcnt]
      by_cases h3 : wN o m 0 < TM
      · have hcR' : countR o (m : Int) = (((wN o m 0 : Nat) : Int), (0 : Int)) := by rw [hcR, if_pos h3]
        rw [Nat.min_eq_left (by omega), hcR']
        unfold TM at h3
        have d3 : decide ((9223372036854775808 : Int) ≤ ((wN o m 0 : Nat) : Int)) = false := decide_eq_false (by omega)
        (conv => whnf); rw [d3]
        (conv => whnf); rw [wi_nat (n := wN o m 0) (by omega)]
        (conv => whnf)
        exact ⟨rfl, hpure⟩
      · have hcR' : countR o (m : Int) = (0, 4) := by rw [hcR, if_neg h3]
        rw [Nat.min_eq_right (by omega), hcR']
        (conv => whnf)
        exact ⟨rfl, hpure⟩
theorem refcount_p {S : Nat → Prop} {H : Heap} {v : Value} {o : Option AM} {D : DM} (n : Int) (hS : ∀ k, S k → k < H.size) (hv : DfaV S H v D) (hB : Both o D) :
    Pure Try.prog 18 #[v, .int .i64 n] H (.tuple #[.int .i64 (countR o n).1, .int .i64 (countR o n).2]) := by
  have hl := hv.len
  have hn1 := hB.ok.n1
  have hN := hB.n
  refine FnOk.of_vc Try.func18 rfl (Try.call18 _) ?_
  (conv => whnf); refine dfa_box hv fun ra rc na nc fa fc he a1 a2 a3 => ?_
  subst he
  intro pa H1 hpa hs1 hb1 ha1
  have st1 := (St.nil H).box hpa hs1 hb1 ha1
  by_cases h1 : n < 0
  · have d1 : decide (n < 0) = true := decide_eq_true h1
    (conv => whnf); rw [d1]
    (conv => whnf)
    exact ⟨by unfold countR; rw [if_pos (.inl h1)], st1.old⟩
  · have d1 : decide (n < 0) = false := decide_eq_false h1
    (conv => whnf); rw [d1]
    by_cases h2 : 64 < n
    · have d2 : decide (64 < n) = true := decide_eq_true h2
      (conv => whnf); rw [d2]
      (conv => whnf)
      exact ⟨by unfold countR; rw [if_pos (.inr h2)], st1.old⟩
    · have d2 : decide (64 < n) = false := decide_eq_false h2
      obtain ⟨m, rfl⟩ := Int.eq_ofNat_of_zero_le (Int.not_lt.1 h1)
      have hcR : countR o (m : Int) = if wN o m 0 < TM then (((wN o m 0 : Nat) : Int), (0 : Int)) else (0, 4) := by
        unfold countR
        rw [if_neg (by omega), Int.toNat_natCast]
      (conv => whnf); rw [d2]
      (conv => whnf); refine dfa_load (st1.blk 0 rfl) hl trivial (a1.frame (st1.old.mono hS)) (a2.frame (st1.old.mono hS)) (a3.frame (st1.old.mono hS)) fun v3 hv3 => ?_
      (conv => whnf); refine VCall.mk (paths_c m (by omega) (fun k hk => old_lt st1.old (hS k hk)) hv3 hB) ?_
      rintro _ H2 ⟨ha2, nb, rfl, hrows⟩
      have hA2 := st1.old.trans (ha2.mono fun k hk => old_lt st1.old hk)
      have hget : (pathL o m (m + 1))[m]? = some (pathR o m) := by rw [pathL_get o m (m + 1) (by omega), if_pos (by omega)]
      (conv => whnf); refine ixrn (i := m) sl23 hrows (pathL_len o m (m + 1)).symm hget rfl ?_
      rintro b3 o3 c3 hS3 hc3 ⟨xa, xc, rfl, hx⟩
      (conv => whnf); refine ld1 ct36 hc3.one trivial ?_
      (conv => whnf); refine ixr (i := 0) sl36 hx (pathR_get o m (by omega)) rfl ?_
      rintro b4 o4 c4 hS4 hc4 ⟨rfl, -⟩
      (conv => whnf); refine ld1 ct3 hc4.one trivial ?_
      have hq0 : wN o m ((0 : Nat) : Int) = wN o m 0 := rfl
      rw [hq0]
      by_cases h3 : wN o m 0 < TM
      · have hcR' : countR o (m : Int) = (((wN o m 0 : Nat) : Int), (0 : Int)) := by rw [hcR, if_pos h3]
        have hcap : capI (wN o m 0) = ((wN o m 0 : Nat) : Int) := if_pos h3
        rw [hcap, hcR']
        (conv => whnf)
        exact ⟨rfl, hA2⟩
      · have hcR' : countR o (m : Int) = (0, 4) := by rw [hcR, if_neg h3]
        have hcap : capI (wN o m 0) = -1 := if_neg h3
        rw [hcap, hcR']
        (conv => whnf)
        exact ⟨rfl, hA2⟩

theorem speaks08_p (H : Heap) : Pure Try.prog 15 #[] H (.bool true) := by
  obtain ⟨ls, hc⟩ := cells_ok [BitVec.allOnes 256] [[1], [0]] [false, true]
  rw [duo_auto] at hc
  refine FnOk.of_vc Try.func15 rfl (Try.call15 _) ?_
  (conv => whnf); refine pures (span_p 0 255 (by decide) (by decide) H) fun H1 ha1 => ?_
  rw [spanS_full]
  have hs1 := old_size ha1
  (conv => whnf); refine vbuild1 sl80 (setL (BitVec.allOnes 256)) rfl rfl (by decide) (by decide) ?_
  intro b2 H2 hb2 hs2 hk2 ha2
  (conv => whnf); refine vbuild1 sl36 [.int .i64 1] rfl rfl (by decide) (by decide) ?_
  intro b3 H3 hb3 hs3 hk3 ha3
  (conv => whnf); refine vbuild1 sl36 [.int .i64 0] rfl rfl (by decide) (by decide) ?_
  intro b4 H4 hb4 hs4 hk4 ha4
  (conv => whnf); refine vbuild2 sl23 [.slice (some ⟨b3, 0, none⟩) 1 1] [.slice (some ⟨b4, 0, none⟩) 1 1] rfl rfl rfl rfl (by decide) (by decide) ?_
  intro b5 H5 hb5 hs5 hk5 ha5
  (conv => whnf); refine vbuild2 sl24 [.bool false] [.bool true] rfl rfl rfl rfl (by decide) (by decide) ?_
  intro b6 H6 hb6 hs6 hk6 ha6
  have hk5' := hk5.agr ha6 (show b5 < b6 by omega)
  have hk4' := (hk4.agr ha5 (show b4 < b5 by omega)).agr ha6 (show b4 < b6 by omega)
  have hk3' := ((hk3.agr ha4 (show b3 < b4 by omega)).agr ha5 (show b3 < b5 by omega)).agr ha6 (show b3 < b6 by omega)
  have hk2' := (((hk2.agr ha3 (show b2 < b3 by omega)).agr ha4 (show b2 < b4 by omega)).agr ha5 (show b2 < b5 by omega)).agr ha6 (show b2 < b6 by omega)
  have hA6 : Agr (Old H) H H6 := ((((ha1.trans (ha2.mono fun k hk => by unfold Old at hk; omega)).trans (ha3.mono fun k hk => by unfold Old at hk; omega)).trans (ha4.mono fun k hk => by unfold Old at hk; omega)).trans (ha5.mono fun k hk => by unfold Old at hk; omega)).trans (ha6.mono fun k hk => by unfold Old at hk; omega)
  have i1 : SlD tI (Fresh H H6) H6 (some ⟨b3, 0, none⟩) 1 [1] := SlD.ofBlk hk3' ⟨by omega, by omega⟩ (Ty.reps_one ⟨rfl, inI64 (x := 1) (by decide)⟩) rfl (by decide)
  have i2 : SlD tI (Fresh H H6) H6 (some ⟨b4, 0, none⟩) 1 [0] := SlD.ofBlk hk4' ⟨by omega, by omega⟩ (Ty.reps_one ⟨rfl, inI64 (x := 0) (by decide)⟩) rfl (by decide)
  (conv => whnf)
  refine VCall.mk (new_c (some ⟨b2, 0, none⟩) (some ⟨b5, 0, none⟩) (some ⟨b6, 0, none⟩) 1 2 2 [BitVec.allOnes 256] [[1], [0]] [false, true] (Fresh H H6) H6 (fun k hk => hk.2)
    (SlD.ofBlk hk2' ⟨by omega, by omega⟩ (Ty.reps_one rfl) rfl (by decide)) (SlD.ofBlk hk5' ⟨by omega, by omega⟩ ⟨[_], [_], rfl, ⟨_, _, rfl, i1⟩, Ty.reps_one ⟨_, _, rfl, i2⟩⟩ rfl (by decide)) (SlD.ofBlk hk6 ⟨by omega, by omega⟩ ⟨[_], [_], rfl, rfl, Ty.reps_one rfl⟩ rfl (by decide))) ?_
  rintro v7 H7 ⟨ha7, hs7, hv7⟩
  rw [show soundB [BitVec.allOnes 256] [[1], [0]] [false, true].length = true from duo_sound] at hv7
  have hA7 := hA6.trans (ha7.mono fun k hk => old_lt hA6 hk)
  have hv7 : AutoV (Old H7) H7 v7 (some duoM) := by
    have h := hv7.mono (S' := Old H7) fun k hk => hk.2
    have e : (if true = true then some (madeM [BitVec.allOnes 256] [[1], [0]] [false, true]) else none) = some duoM := by unfold duoM; rfl
    simp only [if_true] at h
    unfold duoM
    exact h
  (conv => whnf); refine pures (countW_p 1 (fun k hk => hk) hv7 hc) fun H8 ha8 => ?_
  have hcr : countR (some duoM) 1 = (256, 0) := by
    unfold countR
    rw [if_neg (by decide), show (1 : Int).toNat = 1 from rfl, duo_count, if_pos (by decide)]; rfl
  rw [hcr]
  (conv => whnf); refine pures (least_p (S := Old H7) (fun k hk => old_lt ha8 hk) (hv7.frame ha8) hc) fun H9 ha9 => ?_
  rw [duo_least]
  (conv => whnf)
  rw [show (((some (⟨#[0]⟩ : ByteArray)).getD ⟨#[]⟩).toList == (⟨#[0]⟩ : ByteArray).toList) = true from beq_self_eq_true _]
  (conv => whnf)
  exact ⟨rfl, (hA7.trans (ha8.mono fun k hk => old_lt hA7 hk)).trans (ha9.mono fun k hk => old_lt ha8 (old_lt hA7 hk))⟩
end Go.Proofs.Ytkgmhkcncemmkaa
