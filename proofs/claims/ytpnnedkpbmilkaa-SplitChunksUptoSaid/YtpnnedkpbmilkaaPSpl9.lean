/- The law SplitChunks: its walk. -/
import Derived.Test.YtpnnedkpbmilkaaPSpl8
set_option linter.unusedVariables false
set_option linter.unusedSimpArgs false
set_option maxRecDepth 100000
namespace Go.Proofs.Ytpnnedkpbmilkaa
open Go.VC
attribute [local irreducible] mRun atRun

set_option maxHeartbeats 4000000 in
theorem splitChunks_p (v : Value) (cells : List (BitVec 256)) (next : List (List Int)) (final : List Bool) (s : ByteArray) (S : Nat → Prop) (H : Heap) (ht : TabIn S H v cells next final) (hs : s.size ≤ 1048576) :
    Pure Try.prog 9 #[v, .string s] H (.bool true) := by
  refine FnOk.of_vc Try.func9 rfl (Try.call9 _) ?_
  (conv => whnf); refine tab_box ht fun l hl hv => ?_
  intro p H1 hp hs1 hb1 ha1
  have st1 := (St.nil H).box hp hs1 hb1 ha1
  (conv => whnf); refine pures (speaks10_p H1) fun H3 ha3 => ?_
  have st3 := st1.call ha3
  (conv => whnf); refine tab_load hl hv (st3.blk 0 rfl) trivial ?_
  (conv => whnf); refine VCall.mk (auto_c v cells next final S H3 (ht.frame st3.old)) ?_
  rintro va H4 ⟨ha4, hs4, hva⟩
  have st4 := st3.call ha4
  (conv => whnf); refine tab_load hl hv (st4.blk 0 rfl) trivial ?_
  (conv => whnf); refine VCall.mk (made_c v cells next final S H4 (ht.frame st4.old)) ?_
  rintro vA H6 ⟨ha6, hs6, hA⟩
  have st6 := st4.call ha6
  have hoa := both_of cells next final
  generalize hoe : autoOf cells next final = oa at *
  generalize hAe : dfaOf cells next final = A at *
  (conv => whnf); refine VCall.mk (refchunks_c (S := Old H6) (fun k hk => hk) (hA.mono fun k hk => hk.2) hoa hs) ?_
  rintro _ H8 ⟨ha8, w, rfl, hw⟩
  have st8 := st6.call ha8
  have h48 := ha6.trans (ha8.mono fun k hk => old_lt ha6 hk)
  have hA8 := st8.old
  have hB8 := st8.blk 0 rfl
  have ht8 := ht.frame hA8
  obtain ⟨wa, wc, rfl, hw, -⟩ := hw.view (S' := Old H8) (fun j hj => (hw.lt hj).2) (fun _ f => f.elim)
  have hva8 : AutoV (Old H8) H8 va oa := (hva.frame (h48.mono fun k hk => hk.2)).mono fun k hk => old_lt h48 hk.2
  have up : ∀ {H' : Heap}, Agr (Old H8) H8 H' → ∀ k, Old H8 k → k < H'.size := fun h k hk => old_lt h hk
  have cl : (chunksM oa s).1.length ≤ s.size := by
    unfold chunksM
    split
    · simp
    · exact chunksF_len oa s s.size 0
  have chk : ∀ {H' : Heap}, Agr (Old H8) H8 H' → _ := fun h => chunks_c (up h) (hva8.frame h) hs
  obtain ⟨g, hg⟩ : ∃ g, g = (chunksM oa s).2 := ⟨_, rfl⟩
  obtain ⟨l, hl'⟩ : ∃ l, l = (chunksM oa s).1 := ⟨_, rfl⟩
  rw [← hg, ← hl'] at chk
  rw [← hl'] at cl hw
  rw [← hg, ← hl']
  have ints : ∀ {H' : Heap} {a1 a2 : Option Addr} {c1 c2 : Nat}, SlD tI (Old H') H' a1 c1 l → SlD tI (Old H') H' a2 c2 l → Pure Try.prog 41 #[.slice a1 l.length c1, .slice a2 l.length c2] H' (.bool true) := fun h1 h2 =>
    ints_p _ _ _ _ _ _ _ (fun k hk => hk) h1 h2
  have want : ∀ {H' : Heap}, Agr (Old H8) H8 H' → SlD tI (Old H') H' wa wc l := fun h => (hw.frame h).mono fun k hk => old_lt h hk
  have d1 : (g != g) = false := by simp
  (conv => whnf); refine VCall.mk (chk (Agr.refl _ _)) ?_
  rintro _ H9 ⟨ha9, w1, rfl, hw1⟩
  obtain ⟨a1, c1, rfl, t9⟩ := (St.nil H8).got ha9 hw1
  (conv => whnf); refine VCall.mk (chk t9.old) ?_
  rintro _ H10 ⟨ha10, w2, rfl, hw2⟩
  obtain ⟨a2, c2, rfl, t10⟩ := t9.got ha10 hw2
  (conv => whnf); rw [d1]
  (conv => whnf); rw [d1]
  (conv => whnf); refine pures (ints (t10.view 0 rfl) (want t10.old)) fun H11 ha11 => ?_
  have t11 := t10.call ha11
  (conv => whnf); refine pures (ints (t11.view 1 rfl) (want t11.old)) fun H12 ha12 => ?_
  have t12 := t11.call ha12
  (conv => whnf)
  refine VLoop.mk [12] (fun i : Nat => [.int .i64 i]) (fun i H13 => i ≤ l.length ∧ ∃ xs : List Int, xs.length = l.length ∧ St H8 H13 [pS tI 3 a1 l.length c1 xs, pS tI 3 a2 l.length c2 l]) (fun i _ => l.length - i) ?_ ?_
  · (conv => whnf)
    exact ⟨0, rfl, by omega, _, rfl, t12⟩
  · rintro i H13 junk ⟨hi, xs, hxl, t13⟩
    (conv => whnf); refine VIte.mk (fun h => ?_) (fun h => ?_) <;> simp only [decide_eq_true_eq, decide_eq_false_iff_not] at h
    · obtain ⟨b, rfl⟩ := t13.adr 0 rfl (by omega)
      (conv => whnf); rw [w64 (x := -3 - (i : Int)) (by omega) (by omega)]
      (conv => whnf); refine ix sl35 (by omega) (by omega) ?_
      (conv => whnf); refine st1O (x := -3 - (i : Int)) t13 0 ct3 rfl rfl (by rw [Nat.zero_add, Nat.mul_one, Int.toNat_natCast]) (by omega) rfl (fun _ _ => ⟨rfl, by simp [IntKind.min, IntKind.signed, IntKind.bits]; omega, by simp [IntKind.max, IntKind.signed, IntKind.bits]; omega⟩) fun H14 t14 => ?_
      (conv => whnf); rw [w64 (x := (i : Int) + 1) (by omega) (by omega)]
      exact ⟨rfl, i + 1, by simp, ⟨by omega, _, by simp [hxl], t14⟩, by omega⟩
    · (conv => whnf); refine VCall.mk (chk t13.old) ?_
      rintro _ H14 ⟨ha14, w3, rfl, hw3⟩
      obtain ⟨a3, c3, rfl, t14⟩ := t13.got ha14 hw3
      (conv => whnf); refine pures (ints (t14.view 1 rfl) (want t14.old)) fun H15 ha15 => ?_
      have t15 := t14.call ha15
      (conv => whnf); refine pures (ints (t15.view 2 rfl) (want t15.old)) fun H16 ha16 => ?_
      have t16 := t15.call ha16
      (conv => whnf); refine pures (ways_p (up t16.old) (hva8.frame t16.old) hs) fun H17 ha17 => ?_
      have t17 := t16.call ha17
      have hA17 : Agr (Old H) H H17 := hA8.trans (t17.old.mono fun k hk => old_lt hA8 hk)
      (conv => whnf); refine tab_load hl hv (hB8.agr t17.old hB8.lt) trivial ?_
      (conv => whnf); refine VCall.mk (made_c v cells next final S H17 (ht.frame hA17)) ?_
      rintro vA' H18 ⟨ha18, hs18, hA'⟩
      rw [hAe] at hA'
      have hA18 := hA17.trans (ha18.mono fun k hk => old_lt hA17 hk)
      (conv => whnf); refine pures (refways_p (S := Old H18) (fun k hk => hk) (hA'.mono fun k hk => hk.2) hoa hs) fun H19 ha19 => ?_
      have d2 : ((((wy oa s s.size).2 : Nat) : Int) == (((wy oa s s.size).2 : Nat) : Int)) = true := by simp
      (conv => whnf); rw [d2]
      (conv => whnf)
      exact ⟨rfl, hA18.trans (ha19.mono fun k hk => old_lt hA18 hk)⟩

end Go.Proofs.Ytpnnedkpbmilkaa
