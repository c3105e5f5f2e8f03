/- The law KeysAligns: its walk. -/
import Derived.Test.YtfdlhakfmbdamaaPRefAlign
set_option linter.unusedVariables false
set_option linter.unusedSimpArgs false
set_option maxRecDepth 100000
namespace Go.Proofs.Ytfdlhakfmbdamaa
open Go.VC

theorem speaks_al : alignM [⟨#[98]⟩, ⟨#[97]⟩, ⟨#[99]⟩] [⟨#[97]⟩, ⟨#[98]⟩] = [1, 0, -1] := by kernel_rfl
theorem speaks_p (H : Heap) : Pure Try.prog 7 #[] H (.bool true) := by
  refine FnOk.of_vc Try.func7 rfl (Try.call7 _) ?_
  (conv => whnf); refine vbuildL (vs := [.string ⟨#[98]⟩, .string ⟨#[97]⟩, .string ⟨#[99]⟩]) (ps := [[.string ⟨#[98]⟩], [.string ⟨#[97]⟩], [.string ⟨#[99]⟩]]) sl22 rfl (by simp) rfl (by decide) (by decide) ?_
  intro b1 H1 hb1 hs1 hk1 ha1
  (conv => whnf); refine vbuildL (vs := [.string ⟨#[97]⟩, .string ⟨#[98]⟩]) (ps := [[.string ⟨#[97]⟩], [.string ⟨#[98]⟩]]) sl22 rfl (by simp) rfl (by decide) (by decide) ?_
  intro b2 H2 hb2 hs2 hk2 ha2
  have hA2 : Agr (Old H) H H2 := (ha1.mono fun j hj => by unfold Old at hj; omega).trans (ha2.mono fun j hj => by unfold Old at hj; omega)
  have s1 : SlD tStr (Old H2) H2 (some ⟨b1, 0, none⟩) 3 [⟨#[98]⟩, ⟨#[97]⟩, ⟨#[99]⟩] := SlD.intro (show b1 < H2.size by omega) (Nat.le_refl _) (by decide) ((hk1.agr ha2 (show b1 < b2 by omega)).cells (fun j v hv => by rw [Nat.zero_add]; exact hv)) ⟨[_], _, rfl, ⟨rfl, by decide⟩, [_], _, rfl, ⟨rfl, by decide⟩, Ty.reps_one ⟨rfl, by decide⟩⟩
  have s2 : SlD tStr (Old H2) H2 (some ⟨b2, 0, none⟩) 2 [⟨#[97]⟩, ⟨#[98]⟩] := SlD.intro (show b2 < H2.size by omega) (Nat.le_refl _) (by decide) (hk2.cells (fun j v hv => by rw [Nat.zero_add]; exact hv)) ⟨[_], _, rfl, ⟨rfl, by decide⟩, Ty.reps_one ⟨rfl, by decide⟩⟩
  (conv => whnf); refine VCall.mk (align_c (some ⟨b1, 0, none⟩) (some ⟨b2, 0, none⟩) 3 2 [⟨#[98]⟩, ⟨#[97]⟩, ⟨#[99]⟩] [⟨#[97]⟩, ⟨#[98]⟩] (Old H2) H2 (fun k hk => hk) s1 s2 (by decide) (by decide)) ?_
  rintro v3 H3 ⟨ha3, hs3, b3, rfl, hb3, hown⟩
  rw [speaks_al] at hown
  obtain ⟨a, cap, e, hd, -⟩ := hown.view (S' := Old H3) (fun k hk => (hown.lt hk).2) (fun k hk => hk.elim)
  cases e
  (conv => whnf); refine ixrn (i := 0) (x := 1) sl24 hd rfl rfl rfl ?_
  rintro b4 o4 cs4 hSb4 hcells4 ⟨rfl, -⟩
  (conv => whnf); refine ld1 ct3 hcells4.one trivial ?_
  (conv => whnf); refine ixrn (i := 1) (x := 0) sl24 hd rfl rfl rfl ?_
  rintro b5 o5 cs5 hSb5 hcells5 ⟨rfl, -⟩
  (conv => whnf); refine ld1 ct3 hcells5.one trivial ?_
  (conv => whnf); refine ixrn (i := 2) (x := -1) sl24 hd rfl rfl rfl ?_
  rintro b6 o6 cs6 hSb6 hcells6 ⟨rfl, -⟩
  (conv => whnf); refine ld1 ct3 hcells6.one trivial ?_
  (conv => whnf)
  exact ⟨rfl, hA2.trans (ha3.mono fun k hk => old_lt hA2 hk)⟩

/-- A result of Align, as it is read. -/
theorem al_view {H H' : Heap} {lo b n : Nat} {e : TypeId} {xs : List Int} {S : Nat → Prop} (h : SlO tI (fun _ => False) H lo e (.slice (some ⟨b, 0, none⟩) n n) xs) (hx : xs.length = n) (k : Agr S H H') (hb : S b) : SlD tI S H' (some ⟨b, 0, none⟩) n xs := by
  obtain ⟨a, cap, e1, hd, -⟩ := h.view (S' := S) (fun j hj => by obtain ⟨o, n, c, e⟩ := hj; cases e; exact hb) (fun k hk => hk.elim)
  injection e1 with e2 e3 e4
  subst e2; subst e4
  exact hd.frame k
set_option maxHeartbeats 4000000 in
theorem aligns_p (va sa : Option Addr) (vc sc : Nat) (view source : List ByteArray) (S : Nat → Prop) (H : Heap) (hS : ∀ k, S k → k < H.size) (hv : SlD tStr S H va vc view) (hs : SlD tStr S H sa sc source) (nv : view.length ≤ 4194304) (ns : source.length ≤ 4194304) :
    Pure Try.prog 3 #[.slice va view.length vc, .slice sa source.length sc] H (.bool true) := by
  have hal : (alignM view source).length = view.length := by simp [alignM]
  refine FnOk.of_vc Try.func3 rfl (Try.call3 _) ?_
  (conv => whnf); refine pures (speaks_p H) fun H1 ha1 => ?_
  (conv => whnf); refine VCall.mk (refalign_c va sa vc sc view source S H1 (fun k hk => old_lt ha1 (hS k hk)) (hv.frame (ha1.mono hS)) (hs.frame (ha1.mono hS)) nv ns) ?_
  rintro v2 H2 ⟨ha2, hs2, wb, rfl, hwb, hw⟩
  have hA2 : Agr (Old H) H H2 := ha1.trans (ha2.mono fun k hk => old_lt ha1 hk)
  (conv => whnf); refine VCall.mk (handed_c va vc view S H2 (fun k hk => old_lt hA2 (hS k hk)) (hv.frame (hA2.mono hS)) nv) ?_
  rintro v3 H3 ⟨ha3, hs3, a3, c3, rfl, h3⟩
  have hA3 := hA2.trans (ha3.mono fun k hk => old_lt hA2 hk)
  (conv => whnf); refine VCall.mk (handed_c sa sc source S H3 (fun k hk => old_lt hA3 (hS k hk)) (hs.frame (hA3.mono hS)) ns) ?_
  rintro v4 H4 ⟨ha4, hs4, a4, c4, rfl, h4⟩
  have hA4 := hA3.trans (ha4.mono fun k hk => old_lt hA3 hk)
  have hwl := (hw.lt ⟨0, _, _, rfl⟩).2
  -- what is read from here on
  have p3 : SlD tStr (Old H4) H4 a3 c3 (view ++ [markT, otherT]) := (h3.frame (ha4.mono fun k hk => hk.2)).mono fun k hk => by have := hk.2; unfold Old; omega
  have p4 : SlD tStr (Old H4) H4 a4 c4 (source ++ [markT, otherT]) := h4.mono fun k hk => hk.2
  have t3 : SlD tStr (Old H4) H4 a3 c3 view := by have := p3.take view.length; rwa [List.take_left] at this
  have t4 : SlD tStr (Old H4) H4 a4 c4 source := by have := p4.take source.length; rwa [List.take_left] at this
  have w4 : SlD tI (Old H4) H4 (some ⟨wb, 0, none⟩) view.length (alignM view source) := (al_view (S := Old H2) hw hal ((ha3.mono fun k hk => hk).trans (ha4.mono fun k hk => by unfold Old at *; omega)) hwl).mono fun k hk => by unfold Old at *; omega
  (conv => whnf); refine VCall.mk (align_c a3 a4 c3 c4 view source (Old H4) H4 (fun k hk => hk) t3 t4 nv ns) ?_
  rintro v5 H5 ⟨ha5, hs5, fb, rfl, hfb, h5⟩
  (conv => whnf); refine VCall.mk (align_c a3 a4 c3 c4 view source (Old H4) H5 (fun k hk => old_lt ha5 hk) (t3.frame ha5) (t4.frame ha5) nv ns) ?_
  rintro v6 H6 ⟨ha6, hs6, gb, rfl, hgb, h6⟩
  have hfl := (h5.lt ⟨0, _, _, rfl⟩).2
  have hgl := (h6.lt ⟨0, _, _, rfl⟩).2
  have hA46 : Agr (Old H4) H4 H6 := ha5.trans (ha6.mono fun k hk => old_lt ha5 hk)
  have f6 : SlD tI (Old H6) H6 (some ⟨fb, 0, none⟩) view.length (alignM view source) := (al_view (S := Old H5) h5 hal ha6 hfl).mono fun k hk => by unfold Old at *; omega
  have g6 : SlD tI (Old H6) H6 (some ⟨gb, 0, none⟩) view.length (alignM view source) := al_view (S := Old H6) h6 hal (Agr.refl _ _) hgl
  have w6 : SlD tI (Old H6) H6 (some ⟨wb, 0, none⟩) view.length (alignM view source) := (w4.frame hA46).mono fun k hk => old_lt hA46 hk
  have same1 : ∀ {a b : Option Addr} {c d : Nat} {S' : Nat → Prop} {H' : Heap}, (∀ k, S' k → k < H'.size) → SlD tI S' H' a c (alignM view source) → SlD tI S' H' b d (alignM view source) → Pure Try.prog 11 #[.slice a view.length c, .slice b view.length d] H' (.bool true) := by
    intro a b c d S' H' hlt h1 h2
    have := ints_p a b c d _ _ S' H' hlt h1 h2
    rwa [hal, decide_eq_true rfl] at this
  (conv => whnf); refine pures (same1 (fun k hk => hk) f6 w6) fun H7 ha7 => ?_
  (conv => whnf); refine pures (same1 (S' := Old H6) (fun k hk => old_lt ha7 hk) (g6.frame ha7) (w6.frame ha7)) fun H8 ha8 => ?_
  have hA68 : Agr (Old H6) H6 H8 := ha7.trans (ha8.mono fun k hk => old_lt ha7 hk)
  have h58 := h5.agr (ha6.trans (hA68.mono fun k hk => old_lt ha6 hk)) (fun b hb => (h5.lt hb).2) (fun _ f => f.elim)
  (conv => whnf)
  refine VLoop.mk [12] (fun i : Nat => [.int .i64 i]) (fun i H9 => i ≤ view.length ∧ Agr (fun j => j < H6.size ∧ j ≠ fb) H8 H9 ∧ H9.size = H8.size ∧ ∃ xs : List Int, xs.length = view.length ∧ SlO tI (fun _ => False) H9 H4.size 3 (.slice (some ⟨fb, 0, none⟩) view.length view.length) xs) (fun i _ => view.length - i) ?_ ?_
  · (conv => whnf)
    exact ⟨0, rfl, by omega, Agr.refl _ _, rfl, alignM view source, hal, h58⟩
  · rintro i H9 junk ⟨hi, ha9, hs9, xs, hxl, hx⟩
    (conv => whnf); refine VIte.mk (fun h => ?_) (fun h => ?_) <;> simp only [decide_eq_true_eq, decide_eq_false_iff_not] at h
    · obtain ⟨-, -, -, l7, hblk7, hlen7, -, hput7⟩ := hx.placeS (i := i) (by omega)
      have hsz : i * tI.size = i := Nat.mul_one i
      have hsz1 : tI.size = 1 := rfl
      (conv => whnf); rw [w64 (x := (-5 : Int) - (i : Int)) (by omega) (by omega)]
      (conv => whnf); refine ix sl24 (by omega) (by omega) ?_
      (conv => whnf); refine st1 ct3 hblk7 (by omega) rfl ?_
      intro H10 hb10 ha10 hs10
      rw [show 0 + ((i : Nat) : Int).toNat * 1 = i * tI.size by show 0 + ((i : Nat) : Int).toNat * 1 = i * 1; omega] at hb10
      have hx10 := hput7 H10 [.int .i64 (-5 - (i : Int))] (-5 - (i : Int)) (by rw [← splice_one (show i * tI.size < l7.length by omega)] at hb10; exact hb10) (fun j hj => hj.elim) ⟨rfl, by show (-9223372036854775808 : Int) ≤ _; omega, by show _ ≤ (9223372036854775807 : Int); omega⟩
      (conv => whnf); rw [w64 (x := (i : Int) + 1) (by omega) (by omega)]
      exact ⟨rfl, i + 1, by simp, ⟨by omega, ha9.trans (ha10.mono fun j hj => hj.2), by omega, _, by simp [hxl], hx10⟩, by omega⟩
    · have hA49 : Agr (Old H4) H4 H9 := (hA46.trans (hA68.mono fun k hk => old_lt hA46 hk)).trans (ha9.mono fun k hk => ⟨old_lt hA46 hk, by unfold Old at hk; omega⟩)
      have hlt9 : ∀ k, Old H6 k → k < H9.size := fun k hk => by have := old_lt hA68 hk; omega
      (conv => whnf); refine VCall.mk (align_c a3 a4 c3 c4 view source (Old H4) H9 (fun k hk => old_lt hA49 hk) (t3.frame hA49) (t4.frame hA49) nv ns) ?_
      rintro v10 H10 ⟨ha10, hs10, tb, rfl, htb, h10⟩
      have htl := (h10.lt ⟨0, _, _, rfl⟩).2
      have hgne : gb ≠ fb := by omega
      have hwne : wb ≠ fb := by omega
      have h9 : Agr (fun j => j < H6.size ∧ j ≠ fb) H6 H9 := (hA68.mono fun j hj => hj.1).trans ha9
      have g9 : SlD tI (Old H9) H9 (some ⟨gb, 0, none⟩) view.length (alignM view source) := (al_view (S := fun j => j < H6.size ∧ j ≠ fb) h6 hal h9 ⟨hgl, hgne⟩).mono fun k hk => hlt9 k hk.1
      have w9 : SlD tI (Old H9) H9 (some ⟨wb, 0, none⟩) view.length (alignM view source) := (w4.frame hA49).mono fun k hk => old_lt hA49 hk
      have x10 : SlD tI (Old H10) H10 (some ⟨tb, 0, none⟩) view.length (alignM view source) := al_view (S := Old H10) h10 hal (Agr.refl _ _) htl
      have up : ∀ k, Old H9 k → Old H10 k := fun k hk => old_lt ha10 hk
      (conv => whnf); refine pures (same1 (S' := Old H10) (fun k hk => hk) ((g9.frame ha10).mono up) ((w9.frame ha10).mono up)) fun H11 ha11 => ?_
      (conv => whnf); refine pures (same1 (S' := Old H10) (fun k hk => old_lt ha11 hk) (x10.frame ha11) (((w9.frame ha10).mono up).frame ha11)) fun H12 ha12 => ?_
      have hA4c : Agr (Old H4) H4 H12 := (hA49.trans (ha10.mono fun k hk => old_lt hA49 hk)).trans ((ha11.trans (ha12.mono fun k hk => old_lt ha11 hk)).mono fun k hk => up k (old_lt hA49 hk))
      have hAc := hA4.trans (hA4c.mono fun k hk => old_lt hA4 hk)
      have so : ∀ {H' : Heap} (h : Agr (Old H4) H4 H'), ∀ k, Old H4 k → k < H'.size := fun h k hk => old_lt h hk
      have hvv : SlD tStr (Old H4) H12 va vc view := (hv.frame (hAc.mono hS)).mono fun k hk => old_lt hA4 (hS k hk)
      (conv => whnf); refine pures (kept_p a3 va c3 vc view (Old H4) H12 (so hA4c) (p3.frame hA4c) hvv nv) fun H13 ha13 => ?_
      have hA4d := hA4c.trans (ha13.mono fun k hk => old_lt hA4c hk)
      have hAd := hA4.trans (hA4d.mono fun k hk => old_lt hA4 hk)
      have hss : SlD tStr (Old H4) H13 sa sc source := (hs.frame (hAd.mono hS)).mono fun k hk => old_lt hA4 (hS k hk)
      (conv => whnf); refine pures (kept_p a4 sa c4 sc source (Old H4) H13 (so hA4d) (p4.frame hA4d) hss ns) fun H14 ha14 => ?_
      (conv => whnf)
      exact ⟨rfl, hAd.trans (ha14.mono fun k hk => old_lt hAd hk)⟩

end Go.Proofs.Ytfdlhakfmbdamaa
