/- The law SplitCuts: its walk. -/
import Derived.Test.YtpnnedkpbmilkaaPSpl5
import Derived.Test.YtpnnedkpbmilkaaPRefB
set_option linter.unusedVariables false
set_option linter.unusedSimpArgs false
set_option maxRecDepth 100000
namespace Go.Proofs.Ytpnnedkpbmilkaa
open Go.VC
attribute [local irreducible] mRun atRun

set_option maxHeartbeats 4000000 in
theorem splitCuts_p (v : Value) (cells : List (BitVec 256)) (next : List (List Int)) (final : List Bool) (v' : Value) (cells' : List (BitVec 256)) (next' : List (List Int)) (final' : List Bool) (s : ByteArray) (S : Nat → Prop) (H : Heap) (ht : TabIn S H v cells next final) (hu : TabIn S H v' cells' next' final') (hs : s.size ≤ 1048576) :
    Pure Try.prog 8 #[v, v', .string s] H (.bool true) := by
  refine FnOk.of_vc Try.func8 rfl (Try.call8 _) ?_
  (conv => whnf); refine tab_box ht fun l hl hv => ?_
  intro p H1 hp hs1 hb1 ha1
  have st1 := (St.nil H).box hp hs1 hb1 ha1
  (conv => whnf); refine tab_box (hu.frame st1.old) fun l' hl' hv' => ?_
  intro p' H2 hp' hs2 hb2 ha2
  have st2 := st1.box hp' hs2 hb2 ha2
  (conv => whnf); refine pures (speaks10_p H2) fun H3 ha3 => ?_
  have st3 := st2.call ha3
  (conv => whnf); refine VDraw.held (Old H3) 5 (sq [0,2] (.f 1 (.f 3 (.f 4 (.f 5 .e))))) rfl (by kernel_rfl) ?_
  (conv => whnf); refine tab_load hl hv (st3.blk 0 rfl) (st3.blk 0 rfl).lt ?_
  (conv => whnf); refine tab_load hl' hv' (st3.blk 1 rfl) (st3.blk 1 rfl).lt ?_
  (conv => whnf); refine VCall.mk (auto_c v cells next final S H3 (ht.frame st3.old)) ?_
  rintro va H4 ⟨ha4, hs4, hva⟩
  have st4 := st3.call ha4
  refine ⟨ha4, ?_⟩
  (conv => whnf); refine VCall.mk (auto_c v' cells' next' final' S H4 (hu.frame st4.old)) ?_
  rintro vb H5 ⟨ha5, hs5, hvb⟩
  have st5 := st4.call ha5
  have h35 := ha4.trans (ha5.mono fun k hk => old_lt ha4 hk)
  refine ⟨h35, ?_⟩
  (conv => whnf); refine ⟨h35, ?_⟩
  (conv => whnf); refine VDraw.held (Old H5) 10 (sq [0,2,4] (.f 1 (.f 3 (.f 5 (sq [6,7,8,9] (.f 10 .e)))))) rfl (by kernel_rfl) ?_
  (conv => whnf); refine tab_load hl hv (st5.blk 0 rfl) (st5.blk 0 rfl).lt ?_
  (conv => whnf); refine tab_load hl' hv' (st5.blk 1 rfl) (st5.blk 1 rfl).lt ?_
  (conv => whnf); refine VCall.mk (made_c v cells next final S H5 (ht.frame st5.old)) ?_
  rintro vA H6 ⟨ha6, hs6, hA⟩
  have st6 := st5.call ha6
  refine ⟨ha6, ?_⟩
  (conv => whnf); refine VCall.mk (made_c v' cells' next' final' S H6 (hu.frame st6.old)) ?_
  rintro vB H7 ⟨ha7, hs7, hB⟩
  have st7 := st6.call ha7
  have h57 := ha6.trans (ha7.mono fun k hk => old_lt ha6 hk)
  refine ⟨h57, ?_⟩
  have hoa := both_of cells next final
  have hob := both_of cells' next' final'
  generalize autoOf cells next final = oa at *
  generalize autoOf cells' next' final' = ob at *
  generalize dfaOf cells next final = A at *
  generalize dfaOf cells' next' final' = B at *
  (conv => whnf); refine VCall.mk (refcuts_c (S := Old H7) (fun k hk => hk) ((hA.frame (ha7.mono fun k hk => hk.2)).mono fun k hk => old_lt ha7 hk.2) (hB.mono fun k hk => hk.2) hoa hob hs) ?_
  rintro _ H8 ⟨ha8, w, rfl, hw⟩
  have st8 := st7.call ha8
  have h58 := h57.trans (ha8.mono fun k hk => old_lt h57 hk)
  have h38 := h35.trans (h58.mono fun k hk => old_lt h35 hk)
  have hA8 := st8.old
  obtain ⟨wa, wc, rfl, hw, -⟩ := hw.view (S' := Old H8) (fun j hj => (hw.lt hj).2) (fun _ f => f.elim)
  have hva8 : AutoV (Old H8) H8 va oa := (hva.frame ((ha5.trans (h58.mono fun k hk => old_lt ha5 hk)).mono fun k hk => hk.2)).mono fun k hk => old_lt (ha5.trans (h58.mono fun k hk => old_lt ha5 hk)) hk.2
  have hvb8 : AutoV (Old H8) H8 vb ob := (hvb.frame (h58.mono fun k hk => hk.2)).mono fun k hk => old_lt h58 hk.2
  refine ⟨h58, ?_⟩
  have up : ∀ {H' : Heap}, Agr (Old H8) H8 H' → ∀ k, Old H8 k → k < H'.size := fun h k hk => old_lt h hk
  have cl := cutsTo_len oa ob s (s.size + 1)
  have ints : ∀ {H' : Heap} {a1 a2 : Option Addr} {c1 c2 : Nat}, SlD tI (Old H') H' a1 c1 (cutsM oa ob s) → SlD tI (Old H') H' a2 c2 (cutsM oa ob s) → Pure Try.prog 41 #[.slice a1 (cutsM oa ob s).length c1, .slice a2 (cutsM oa ob s).length c2] H' (.bool true) := fun h1 h2 =>
    ints_p _ _ _ _ _ _ _ (fun k hk => hk) h1 h2
  have want : ∀ {H' : Heap}, Agr (Old H8) H8 H' → SlD tI (Old H') H' wa wc (cutsM oa ob s) := fun h => (hw.frame h).mono fun k hk => old_lt h hk
  (conv => whnf); refine VCall.mk (cuts_c (up (Agr.refl _ _)) hva8 hvb8 hs) ?_
  rintro _ H9 ⟨ha9, hs9, w1, rfl, hw1⟩
  obtain ⟨a1, c1, rfl, t9⟩ := (St.nil H8).got ha9 hw1
  (conv => whnf); refine VCall.mk (cuts_c (up t9.old) (hva8.frame t9.old) (hvb8.frame t9.old) hs) ?_
  rintro _ H10 ⟨ha10, hs10, w2, rfl, hw2⟩
  obtain ⟨a2, c2, rfl, t10⟩ := t9.got ha10 hw2
  (conv => whnf); refine pures (ints (t10.view 0 rfl) (want t10.old)) fun H11 ha11 => ?_
  have t11 := t10.call ha11
  (conv => whnf); refine pures (ints (t11.view 1 rfl) (want t11.old)) fun H12 ha12 => ?_
  have t12 := t11.call ha12
  (conv => whnf)
  refine VLoop.mk [15] (fun i : Nat => [.int .i64 i]) (fun i H13 => i ≤ (cutsM oa ob s).length ∧ ∃ xs : List Int, xs.length = (cutsM oa ob s).length ∧ St H8 H13 [pS tI 3 a1 (cutsM oa ob s).length c1 xs, pS tI 3 a2 (cutsM oa ob s).length c2 (cutsM oa ob s)]) (fun i _ => (cutsM oa ob s).length - i) ?_ ?_
  · (conv => whnf)
    exact ⟨0, rfl, by omega, _, rfl, t12⟩
  · rintro i H13 junk ⟨hi, xs, hxl, t13⟩
    have cl' : (cutsM oa ob s).length ≤ s.size + 1 := cl
    (conv => whnf); refine VIte.mk (fun h => ?_) (fun h => ?_) <;> simp only [decide_eq_true_eq, decide_eq_false_iff_not] at h
    · obtain ⟨b, rfl⟩ := t13.adr 0 rfl (by omega)
      (conv => whnf); rw [w64 (x := -3 - (i : Int)) (by omega) (by omega)]
      (conv => whnf); refine ix sl35 (by omega) (by omega) ?_
      (conv => whnf); refine st1O (x := -3 - (i : Int)) t13 0 ct3 rfl rfl (by rw [Nat.zero_add, Nat.mul_one, Int.toNat_natCast]) (by omega) rfl (fun _ _ => ⟨rfl, by simp [IntKind.min, IntKind.signed, IntKind.bits]; omega, by simp [IntKind.max, IntKind.signed, IntKind.bits]; omega⟩) fun H14 t14 => ?_
      (conv => whnf); rw [w64 (x := (i : Int) + 1) (by omega) (by omega)]
      exact ⟨rfl, i + 1, by simp, ⟨by omega, _, by simp [hxl], t14⟩, by omega⟩
    · (conv => whnf); refine VCall.mk (cuts_c (up t13.old) (hva8.frame t13.old) (hvb8.frame t13.old) hs) ?_
      rintro _ H14 ⟨ha14, hs14, w3, rfl, hw3⟩
      obtain ⟨a3, c3, rfl, t14⟩ := t13.got ha14 hw3
      (conv => whnf); refine pures (ints (t14.view 1 rfl) (want t14.old)) fun H15 ha15 => ?_
      have t15 := t14.call ha15
      (conv => whnf); refine pures (ints (t15.view 2 rfl) (want t15.old)) fun H16 ha16 => ?_
      have t16 := t15.call ha16
      (conv => whnf); refine pures (cut_c (up t16.old) (hva8.frame t16.old) (hvb8.frame t16.old) hs) fun H17 ha17 => ?_
      have t17 := t16.call ha17
      have hA17 : Agr (Old H) H H17 := hA8.trans (t17.old.mono fun k hk => old_lt hA8 hk)
      have want := want t17.old
      unfold cutM
      generalize cutsM oa ob s = l at *
      cases l with
      | nil =>
        (conv => whnf)
        exact ⟨rfl, hA17⟩
      | cons x l =>
        (conv => whnf); refine ixr (i := 0) sl35 want rfl rfl ?_
        rintro b3 o3 cs3 hSb3 hcells3 ⟨rfl, -⟩
        (conv => whnf); refine ld1 ct3 hcells3.one trivial ?_
        have d1 : (x == x) = true := by simp
        (conv => whnf); rw [d1]
        (conv => whnf)
        exact ⟨rfl, hA17⟩

end Go.Proofs.Ytpnnedkpbmilkaa
