/- split.Cut; auto, some, ints of the laws of layer 10. -/
import Derived.Test.YtpnnedkpbmilkaaPSpl2
set_option linter.unusedVariables false
set_option linter.unusedSimpArgs false
set_option maxRecDepth 100000
namespace Go.Proofs.Ytpnnedkpbmilkaa
open Go.VC
def someM : AM := madeM [BitVec.allOnes 256] [[1], [1]] [false, true]
theorem some_sound : soundB [BitVec.allOnes 256] [[1], [1]] 2 = true := by rfl
attribute [local irreducible] mRun atRun

def cutM (oa ob : Option AM) (s : ByteArray) : Int × Int := match cutsM oa ob s with
  | [] => (0, 3)
  | x :: _ => (x, 0)
theorem cut_c {S : Nat → Prop} {H : Heap} {va vb : Value} {oa ob : Option AM} {s : ByteArray} (hS : ∀ k, S k → k < H.size) (ha : AutoV S H va oa) (hb : AutoV S H vb ob) (hs : s.size ≤ 1048576) :
    Pure Try.prog 42 #[va, vb, .string s] H (.tuple #[.int .i64 (cutM oa ob s).1, .int .i64 (cutM oa ob s).2]) := by
  refine FnOk.of_vc Try.func42 rfl (Try.call42 _) ?_
  (conv => whnf); refine VCall.mk (cuts_c hS ha hb hs) ?_
  rintro v1 H1 ⟨hA1, hs1, w, rfl, hw⟩
  obtain ⟨wa, wc, rfl, hd, -⟩ := hw.view (S' := Old H1) (fun j hj => (hw.lt hj).2) (fun _ f => f.elim)
  unfold cutM
  cases hc : cutsM oa ob s with
  | nil =>
    (conv => whnf)
    exact ⟨rfl, hA1⟩
  | cons x l =>
    rw [hc] at hd
    have d0 : (((x :: l).length : Int) == 0) = false := by
      simp only [List.length_cons]
      rw [beq_eq_false_iff_ne]; omega
    (conv => whnf); rw [d0]
    (conv => whnf); refine ixr (i := 0) sl35 hd rfl rfl ?_
    rintro b3 o3 cs3 hSb3 hcells3 ⟨rfl, -⟩
    (conv => whnf); refine ld1 ct3 hcells3.one trivial ?_
    (conv => whnf)
    exact ⟨rfl, hA1⟩

theorem ints_p (a1 a2 : Option Addr) (c1 c2 : Nat) (xs : List Int) (S : Nat → Prop) (H : Heap) (hS : ∀ k, S k → k < H.size) (h1 : SlD tI S H a1 c1 xs) (h2 : SlD tI S H a2 c2 xs) :
    Pure Try.prog 41 #[.slice a1 xs.length c1, .slice a2 xs.length c2] H (.bool true) := by
  have l1 := h1.le
  unfold maxLen at l1
  refine FnOk.of_vc Try.func41 rfl (Try.call41 _) ?_
  have d0 : ((xs.length : Int) != (xs.length : Int)) = false := by simp
  (conv => whnf); rw [d0]
  (conv => whnf)
  refine VLoop.mk [5] (fun k : Nat => [.int .i64 k]) (fun k H2 => k ≤ xs.length ∧ H2 = H) (fun k _ => xs.length - k) ?_ ?_
  · (conv => whnf); exact ⟨0, rfl, by omega, rfl⟩
  · rintro k H2 junk ⟨hk, rfl⟩
    (conv => whnf); refine VIte.mk (fun h => ?_) (fun h => ?_) <;> simp only [decide_eq_true_eq, decide_eq_false_iff_not] at h
    · obtain ⟨x, hx⟩ := get_some (l := xs) (k := k) (by omega)
      (conv => whnf); refine VDraw.lex rfl (by kernel_rfl) ?_
      (conv => whnf); refine ixr sl35 h1 hx rfl ?_
      rintro b3 o3 cs3 hSb3 hcells3 ⟨rfl, -⟩
      (conv => whnf); refine ld1 ct3 hcells3.one trivial ?_
      (conv => whnf); refine ixr sl35 h2 hx rfl ?_
      rintro b4 o4 cs4 hSb4 hcells4 ⟨rfl, -⟩
      (conv => whnf); refine ld1 ct3 hcells4.one trivial ?_
      have d1 : (x != x) = false := by simp
      (conv => whnf); rw [d1]
      (conv => whnf); rw [w64 (x := (k : Int) + 1) (by omega) (by omega)]
      exact ⟨rfl, k + 1, by simp, ⟨by omega, rfl⟩, by omega⟩
    · (conv => whnf)
      exact ⟨rfl, Agr.refl _ _⟩

theorem some_c (H : Heap) : FnOk Try.prog 62 #[] H fun v' H' => Agr (Old H) H H' ∧ H.size ≤ H'.size ∧ AutoV (Fresh H H') H' v' (some someM) := by
  refine FnOk.of_vc Try.func62 rfl (Try.call62 _) ?_
  (conv => whnf); refine pures (span_p 0 255 (by decide) (by decide) H) fun H1 ha1 => ?_
  rw [spanS_full]
  have hs1 := old_size ha1
  (conv => whnf); refine vbuild1 sl29 (setL (BitVec.allOnes 256)) rfl rfl (by decide) (by decide) ?_
  intro b2 H2 hb2 hs2 hk2 ha2
  (conv => whnf); refine vbuild1 sl35 [.int .i64 1] rfl rfl (by decide) (by decide) ?_
  intro b3 H3 hb3 hs3 hk3 ha3
  (conv => whnf); refine vbuild1 sl35 [.int .i64 1] rfl rfl (by decide) (by decide) ?_
  intro b4 H4 hb4 hs4 hk4 ha4
  (conv => whnf); refine vbuild2 sl23 [.slice (some ⟨b3, 0, none⟩) 1 1] [.slice (some ⟨b4, 0, none⟩) 1 1] rfl rfl rfl rfl (by decide) (by decide) ?_
  intro b5 H5 hb5 hs5 hk5 ha5
  (conv => whnf); refine vbuild2 sl24 [.bool false] [.bool true] rfl rfl rfl rfl (by decide) (by decide) ?_
  intro b6 H6 hb6 hs6 hk6 ha6
  have hk5' := hk5.agr ha6 (show b5 < b6 by omega)
  have hk4' := (hk4.agr ha5 (show b4 < b5 by omega)).agr ha6 (show b4 < b6 by omega)
  have hk3' := ((hk3.agr ha4 (show b3 < b4 by omega)).agr ha5 (show b3 < b5 by omega)).agr ha6 (show b3 < b6 by omega)
  have hk2' := (((hk2.agr ha3 (show b2 < b3 by omega)).agr ha4 (show b2 < b4 by omega)).agr ha5 (show b2 < b5 by omega)).agr ha6 (show b2 < b6 by omega)
  have hA6 : Agr (Old H) H H6 := ((((ha1.trans (ha2.mono fun k hk => by unfold Old at hk; omega)).trans (ha3.mono fun k hk => by unfold Old at hk; omega)).trans (ha4.mono fun k hk => by unfold Old at hk; omega)).trans (ha5.mono fun k hk => by unfold Old at hk; omega)).trans (ha6.mono fun k hk => by unfold Old at hk; omega)
  have i1 : SlD tI (Fresh H H6) H6 (some ⟨b3, 0, none⟩) 1 [1] := SlD.ofBlk hk3' ⟨by omega, by omega⟩ (Ty.reps_one ⟨rfl, inI64 (by decide)⟩) rfl (by decide)
  have i2 : SlD tI (Fresh H H6) H6 (some ⟨b4, 0, none⟩) 1 [1] := SlD.ofBlk hk4' ⟨by omega, by omega⟩ (Ty.reps_one ⟨rfl, inI64 (by decide)⟩) rfl (by decide)
  (conv => whnf)
  refine VCall.mk (new_c (some ⟨b2, 0, none⟩) (some ⟨b5, 0, none⟩) (some ⟨b6, 0, none⟩) 1 2 2 [BitVec.allOnes 256] [[1], [1]] [false, true] (Fresh H H6) H6 (fun k hk => hk.2)
    (SlD.ofBlk hk2' ⟨by omega, by omega⟩ (Ty.reps_one rfl) rfl (by decide)) (SlD.ofBlk hk5' ⟨by omega, by omega⟩ ⟨[_], [_], rfl, ⟨_, _, rfl, i1⟩, Ty.reps_one ⟨_, _, rfl, i2⟩⟩ rfl (by decide)) (SlD.ofBlk hk6 ⟨by omega, by omega⟩ ⟨[_], [_], rfl, rfl, Ty.reps_one rfl⟩ rfl (by decide))) ?_
  rintro v7 H7 ⟨ha7, hs7, hv7⟩
  rw [show soundB [BitVec.allOnes 256] [[1], [1]] [false, true].length = true from some_sound] at hv7
  (conv => whnf)
  exact ⟨hA6.trans (ha7.mono fun k hk => by unfold Old at *; omega), by omega, hv7.mono fun k hk => ⟨by omega, hk.2⟩⟩

set_option maxHeartbeats 4000000 in
theorem auto_c (v : Value) (cells : List (BitVec 256)) (next : List (List Int)) (final : List Bool) (S : Nat → Prop) (H : Heap) (ht : TabIn S H v cells next final) :
    FnOk Try.prog 38 #[v] H fun v H' => Agr (Old H) H H' ∧ H.size ≤ H'.size ∧ AutoV (Fresh H H') H' v (autoOf cells next final) := by
  obtain ⟨hS, ⟨ca, na, fa, cc, nc, fc, rfl, hc, hn, hf⟩, cn, nn, rn, fn⟩ := ht
  refine FnOk.of_vc Try.func38 rfl (Try.call38 _) ?_
  (conv => whnf); refine vbox [.slice ca cells.length cc, .slice na next.length nc, .slice fa final.length fc] rfl ?_
  intro pb H1 hpb hs1 hb1 ha1
  (conv => whnf); refine VC.fa fl26_0 ?_
  (conv => whnf); refine ld1 ct22 (by rw [hb1.cell]; rfl) trivial ?_
  (conv => whnf); refine vmakeT (T := tSet) (v := 0#256) (S := fun _ => False) sl29 (zero_set _ _) (by omega) rfl (by omega) (by omega) ?_
  intro nb H2 hnb hs2 hb2' ha2
  rw [Int.toNat_natCast] at hb2'
  have hA2 : Agr (Old H) H H2 := (ha1.mono fun j hj => by unfold Old at hj; omega).trans (ha2.mono fun j hj => by unfold Old at hj; omega)
  (conv => whnf)
  refine VLoop.mk [4] (fun k : Nat => [.int .i64 k]) (fun k H3 => k ≤ cells.length ∧ Agr (fun j => j < H2.size ∧ j ≠ nb) H2 H3 ∧ H3.size = H2.size ∧
    SlO tSet (fun _ => False) H3 H.size 41 (.slice (some ⟨nb, 0, none⟩) cells.length cells.length) (cells.take k ++ List.replicate (cells.length - k) 0#256)) (fun k _ => cells.length - k) ?_ ?_
  · (conv => whnf)
    refine ⟨0, rfl, by omega, Agr.refl _ _, rfl, ?_⟩
    rw [fill_beg]
    exact SlO.made (by omega) hb2' (zero_set _ _) (by unfold maxLen; omega)
  · rintro k H3 junk ⟨hk, ha3, hs3, hown⟩
    have hb13 := (hb1.agr ha2 (show pb < nb by omega)).agr ha3 ⟨by omega, by omega⟩
    have hA3 : Agr (Old H) H H3 := hA2.trans (ha3.mono fun j hj => by unfold Old at hj; omega)
    (conv => whnf); refine VC.fa fl26_0 ?_
    (conv => whnf); refine ld1 ct22 (by rw [hb13.cell]; rfl) trivial ?_
    (conv => whnf); refine VIte.mk (fun h => ?_) (fun h => ?_) <;> simp only [decide_eq_true_eq, decide_eq_false_iff_not] at h
    · obtain ⟨x, hx⟩ := get_some (l := cells) (k := k) (by omega)
      (conv => whnf); refine VC.fa fl26_0 ?_
      (conv => whnf); refine ld1 ct22 (by rw [hb13.cell]; rfl) trivial ?_
      (conv => whnf); refine ixr sl22 (hc.frame (hA3.mono hS)) hx rfl ?_
      rintro b4 o4 cs4 hSb4 hcells4 rfl
      (conv => whnf); refine ldN (cs := setL x) ag40 hcells4 trivial ?_
      obtain ⟨-, -, hlo5, l5, hblk5, hlen5, hget5, hput5⟩ := hown.placeS (i := k) (by rw [fill_len hk]; omega)
      (conv => whnf); refine ix sl29 (by omega) (by omega) ?_
      (conv => whnf); refine VC.stN rfl hblk5 (by rw [Nat.zero_add, Int.toNat_natCast]; exact hlen5) rfl ?_
      intro H6 hb6 ha6 hs6
      rw [Nat.zero_add, Int.toNat_natCast] at hb6
      have hown6 := hput5 H6 (setL x) x hb6 (fun j hj => hj.elim) rfl
      rw [fill_set hx] at hown6
      (conv => whnf); rw [w64 (x := (k : Int) + 1) (by omega) (by omega)]
      exact ⟨rfl, k + 1, by simp, ⟨by omega, ha3.trans (ha6.mono fun j hj => hj.2), by omega, hown6⟩, by omega⟩
    · obtain rfl : k = cells.length := by omega
      rw [fill_end] at hown
      have hSs : ∀ {H4 : Heap}, Agr (Old H3) H3 H4 → Agr S H H4 := fun h => (hA3.trans (h.mono fun k hk => old_lt hA3 hk)).mono hS
      have hSo : ∀ {H4 : Heap}, Agr (Old H3) H3 H4 → ∀ k, S k → k < H4.size := fun h k hk => old_lt h (old_lt hA3 (hS k hk))
      have fin : ∀ {H6 : Heap} {v1 v3 : Value} {nb lo1 lo2 : Nat} {vs : List Value} {K : Value → Heap → Prop}, Agr (Old H3) H3 H6 → SlO tSet (fun _ => False) H6 lo1 41 v1 cells → Tab tI (fun _ => False) H6 (nb + 1) 3 nb 35 vs next → SlO tBool (fun _ => False) H6 lo2 4 v3 final →
          (∀ v H7, Agr (Old H) H H7 → H.size ≤ H7.size → Agr (Old H3) H3 H7 → AutoV (Fresh H H7) H7 v (autoOf cells next final) → K v H7) → VCall Try.prog 17 #[v1, .slice (some ⟨nb, 0, none⟩) next.length next.length, v3] H6 K := fun hag h1 h2 h3 k =>
        vcall_newO h1 h2 h3 (by unfold maxLen; omega) fun v H7 h4 h5 h6 => k v H7 (hA3.trans ((hag.trans (h4.mono fun k hk => old_lt hag hk)).mono fun k hk => old_lt hA3 hk)) (by have := old_size hag; omega) (hag.trans (h4.mono fun k hk => old_lt hag hk)) (h6.mono fun k hk => ⟨by have := old_size hag; have := hk.1; omega, hk.2⟩)
      have hnb3 : nb < H3.size := by omega
      (conv => whnf)
      refine VDraw.held (Old H3) 9 (sq [0,1,2,5,6] (.b 3 (.f 4 (.f 7 (.f 8 (.f 9 .e)))) 4 (.f 3 (.f 7 (.f 8 (.f 9 .e)))))) rfl (by kernel_rfl) ?_
      (conv => whnf); refine VC.fa fl26_1 ?_
      (conv => whnf); refine ld1 ct23 (by rw [hb13.cell]; rfl) hb13.lt ?_
      (conv => whnf); refine VC.fa fl26_2 ?_
      (conv => whnf); refine ld1 ct24 (by rw [hb13.cell]; rfl) hb13.lt ?_
      (conv => whnf); refine ⟨?_, ?_⟩
      · refine VCall.mk (rows_c na nc next S H3 (hSo (Agr.refl _ _)) (hn.frame (hSs (Agr.refl _ _))) (by omega) (fun row hr => Nat.le_trans (rn row hr) (by decide))) ?_
        rintro v4 H4 ⟨ha4, hs4, mb, vs, rfl, hmb, tab⟩
        refine ⟨ha4, ?_⟩
        (conv => whnf); refine vbuild0 sl24 ?_
        intro q H5 hq hs5 hb5 ha5
        have hA5 : Agr (Old H3) H3 H5 := ha4.trans (ha5.mono fun k hk => by have := old_lt ha4 hk; omega)
        refine ⟨hA5, ?_⟩
        (conv => whnf); refine ends_c hb5 (S := S) (fun k hk => ⟨hSo hA5 k hk, by have := hSo ha4 k hk; omega⟩) (hf.frame (hSs hA5)) (by omega) ?_
        intro v6 H6 own3 ha6 hs6
        have h46 : Agr (fun k => k < H4.size) H4 H6 := (ha5.mono fun k hk => by omega).trans (ha6.mono fun k hk => by omega)
        have hA6 : Agr (Old H3) H3 H6 := ha4.trans (h46.mono fun k hk => old_lt ha4 hk)
        refine ⟨hA6, ?_⟩
        (conv => whnf); refine fin hA6 (hown.agr hA6 (fun b hb => (hown.lt hb).2) (fun _ h => h.elim)) (tab.agr h46 tab.blk.lt (fun b _ hb => hb) (fun _ h => h.elim)) own3 fun v7 H7 g1 g2 g3 g4 => ⟨g3, ?_⟩
        (conv => whnf); exact ⟨g1, g2, g4⟩
      · refine vbuild0 sl24 ?_
        intro q H4 hq hs4 hb4 ha4
        have hA4 : Agr (Old H3) H3 H4 := ha4.mono fun k hk => by unfold Old at hk; omega
        refine ⟨hA4, ?_⟩
        (conv => whnf); refine VCall.mk (rows_c na nc next S H4 (hSo hA4) (hn.frame (hSs hA4)) (by omega) (fun row hr => Nat.le_trans (rn row hr) (by decide))) ?_
        rintro v5 H5 ⟨ha5, hs5, mb, vs, rfl, hmb, tab⟩
        have hA5 := hA4.trans (ha5.mono fun k hk => old_lt hA4 hk)
        refine ⟨hA5, ?_⟩
        (conv => whnf); refine ends_c (hb4.agr ha5 hb4.lt) (S := S) (fun k hk => ⟨hSo hA5 k hk, by have := hSo (Agr.refl _ _) k hk; omega⟩) (hf.frame (hSs hA5)) (by omega) ?_
        intro v6 H6 own3 ha6 hs6
        have hA6 : Agr (Old H3) H3 H6 := hA5.trans (ha6.mono fun k hk => ⟨old_lt hA5 hk, by unfold Old at hk; omega⟩)
        refine ⟨hA6, ?_⟩
        (conv => whnf); refine fin hA6 (hown.agr hA6 (fun b hb => (hown.lt hb).2) (fun _ h => h.elim)) (tab.agr ha6 ⟨tab.blk.lt, by omega⟩ (fun b h1 h2 => ⟨h2, by omega⟩) (fun _ h => h.elim)) own3 fun v7 H7 g1 g2 g3 g4 => ⟨g3, ?_⟩
        (conv => whnf); exact ⟨g1, g2, g4⟩

end Go.Proofs.Ytpnnedkpbmilkaa
