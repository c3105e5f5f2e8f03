/- The law KeysSpares: its walk. -/
import Derived.Test.YtfdlhakfmbdamaaPRefSpare
set_option linter.unusedVariables false
set_option linter.unusedSimpArgs false
set_option maxRecDepth 100000
namespace Go.Proofs.Ytfdlhakfmbdamaa
open Go.VC
set_option maxHeartbeats 4000000 in
theorem spares_p (va sa : Option Addr) (vc sc : Nat) (view source : List ByteArray) (S : Nat → Prop) (H : Heap) (hS : ∀ k, S k → k < H.size) (hv : SlD tStr S H va vc view) (hs : SlD tStr S H sa sc source) (nv : view.length ≤ 4194303) (ns : source.length ≤ 4194303) :
    Pure Try.prog 4 #[.slice va view.length vc, .slice sa source.length sc] H (.bool true) := by
  have hwn : (asInts (spareN view source)).length ≤ source.length := by unfold asInts; rw [List.length_map]; exact spare_len view source
  refine FnOk.of_vc Try.func4 rfl (Try.call4 _) ?_
  (conv => whnf); refine pures (speaks_p H) fun H1 ha1 => ?_
  (conv => whnf); refine VCall.mk (refspare_c va sa vc sc view source S H1 (fun k hk => old_lt ha1 (hS k hk)) (hv.frame (ha1.mono hS)) (hs.frame (ha1.mono hS)) (by omega) ns) ?_
  rintro v2 H2 ⟨ha2, hw2⟩
  have hA2 : Agr (Old H) H H2 := ha1.trans (ha2.mono fun k hk => old_lt ha1 hk)
  have sp_c : ∀ {a1 a2 : Option Addr} {c1 c2 : Nat} {S' : Nat → Prop} {H' : Heap}, (∀ k, S' k → k < H'.size) → SlD tStr S' H' a1 c1 view → SlD tStr S' H' a2 c2 source → FnOk Try.prog 14 #[.slice a1 view.length c1, .slice a2 source.length c2] H' fun v H'' => Agr (Old H') H' H'' ∧ SlO tI none_ H'' H'.size 3 v (asInts (spareN view source)) :=
    fun h1 h2 h3 => spare_c _ _ _ _ view source _ _ h1 h2 h3 (by omega) (by omega)
  generalize asInts (spareN view source) = W at *
  obtain ⟨wa, wc, rfl, hwd, -⟩ := hw2.view (S' := Old H2) (fun b hb => (hw2.lt hb).2) (fun _ f => f.elim)
  (conv => whnf); refine VCall.mk (handed_c va vc view S H2 (fun k hk => old_lt hA2 (hS k hk)) (hv.frame (hA2.mono hS)) (by omega)) ?_
  rintro v3 H3 ⟨ha3, hs3, a3, c3, rfl, h3⟩
  have hA3 := hA2.trans (ha3.mono fun k hk => old_lt hA2 hk)
  (conv => whnf); refine VCall.mk (handed_c sa sc source S H3 (fun k hk => old_lt hA3 (hS k hk)) (hs.frame (hA3.mono hS)) (by omega)) ?_
  rintro v4 H4 ⟨ha4, hs4, a4, c4, rfl, h4⟩
  have hA4 := hA3.trans (ha4.mono fun k hk => old_lt hA3 hk)
  have p3 : SlD tStr (Old H4) H4 a3 c3 (view ++ [markT, otherT]) := (h3.frame (ha4.mono fun k hk => hk.2)).mono fun k hk => by have := hk.2; unfold Old; omega
  have p4 : SlD tStr (Old H4) H4 a4 c4 (source ++ [markT, otherT]) := h4.mono fun k hk => hk.2
  have t3 : SlD tStr (Old H4) H4 a3 c3 view := by have := p3.take view.length; rwa [List.take_left] at this
  have t4 : SlD tStr (Old H4) H4 a4 c4 source := by have := p4.take source.length; rwa [List.take_left] at this
  have w4 : SlD tI (Old H4) H4 wa wc W := (hwd.frame ((ha3.mono fun k hk => hk).trans (ha4.mono fun k hk => by unfold Old at *; omega))).mono fun k hk => by unfold Old at *; omega
  have so : ∀ {H' : Heap} {ps : List Pc} (h : St H4 H' ps), ∀ k, Old H4 k → k < H'.size := fun h k hk => old_lt h.old hk
  have st4 := St.nil H4
  (conv => whnf); refine VCall.mk (sp_c (so st4) t3 t4) ?_
  rintro v5 H5 ⟨ha5, hw5⟩
  obtain ⟨fa5, fc5, rfl, st5⟩ := st4.got ha5 hw5
  (conv => whnf); refine VCall.mk (sp_c (so st5) (t3.frame st5.old) (t4.frame st5.old)) ?_
  rintro v6 H6 ⟨ha6, hw6⟩
  obtain ⟨ga6, gc6, rfl, st6⟩ := st5.got ha6 hw6
  have same1 : ∀ {H' : Heap} {ps : List Pc} {a : Option Addr} {c : Nat} (i : Nat), St H4 H' ps → ps[i]? = some (pS tI 3 a W.length c W) → Pure Try.prog 11 #[.slice a W.length c, .slice wa W.length wc] H' (.bool true) := by
    intro H' ps a c i st hp
    have := ints_p a wa c wc _ _ (Old H') H' (fun k hk => hk) (st.view i hp) ((w4.frame st.old).mono (so st))
    rwa [decide_eq_true rfl] at this
  (conv => whnf); refine pures (same1 0 st6 rfl) fun H7 ha7 => ?_
  have st7 := st6.call ha7
  (conv => whnf); refine pures (same1 1 st7 rfl) fun H8 ha8 => ?_
  have st8 := st7.call ha8
  (conv => whnf)
  refine VLoop.mk [12] (fun i : Nat => [.int .i64 i]) (fun i H9 => i ≤ W.length ∧ ∃ xs : List Int, xs.length = W.length ∧ St H4 H9 [pS tI 3 fa5 W.length fc5 xs, pS tI 3 ga6 W.length gc6 W]) (fun i _ => W.length - i) ?_ ?_
  · (conv => whnf)
    exact ⟨0, rfl, by omega, W, rfl, st8⟩
  · rintro i H9 junk ⟨hi, xs, hxl, st9⟩
    (conv => whnf); refine VIte.mk (fun h => ?_) (fun h => ?_) <;> simp only [decide_eq_true_eq, decide_eq_false_iff_not] at h
    · obtain ⟨fb, rfl⟩ := st9.adr 0 rfl (by omega)
      (conv => whnf); rw [w64 (x := (-5 : Int) - (i : Int)) (by omega) (by omega)]
      (conv => whnf); refine ix sl24 (by omega) (by omega) ?_
      (conv => whnf); refine st1O (x := -5 - (i : Int)) (j := i) st9 0 ct3 rfl rfl (by omega) (by omega) rfl (fun _ _ => ⟨rfl, by show (-9223372036854775808 : Int) ≤ _; omega, by show _ ≤ (9223372036854775807 : Int); omega⟩) fun H10 st10 => ?_
      (conv => whnf); rw [w64 (x := (i : Int) + 1) (by omega) (by omega)]
      exact ⟨rfl, i + 1, by simp, ⟨by omega, _, by simp [hxl], st10⟩, by omega⟩
    · (conv => whnf); refine VCall.mk (sp_c (so st9) (t3.frame st9.old) (t4.frame st9.old)) ?_
      rintro v10 H10 ⟨ha10, hw10⟩
      obtain ⟨ta, tc, rfl, st10⟩ := st9.got ha10 hw10
      (conv => whnf); refine pures (same1 1 st10 rfl) fun H11 ha11 => ?_
      have st11 := st10.call ha11
      (conv => whnf); refine pures (same1 2 st11 rfl) fun H12 ha12 => ?_
      have st12 := st11.call ha12
      have hAc : ∀ {H' : Heap} {ps : List Pc}, St H4 H' ps → Agr (Old H) H H' := fun st => hA4.trans (st.old.mono fun k hk => old_lt hA4 hk)
      have hvv : SlD tStr (Old H4) H12 va vc view := (hv.frame ((hAc st12).mono hS)).mono fun k hk => old_lt hA4 (hS k hk)
      (conv => whnf); refine pures (kept_p a3 va c3 vc view (Old H4) H12 (so st12) (p3.frame st12.old) hvv (by omega)) fun H13 ha13 => ?_
      have st13 := st12.call ha13
      have hss : SlD tStr (Old H4) H13 sa sc source := (hs.frame ((hAc st13).mono hS)).mono fun k hk => old_lt hA4 (hS k hk)
      (conv => whnf); refine pures (kept_p a4 sa c4 sc source (Old H4) H13 (so st13) (p4.frame st13.old) hss (by omega)) fun H14 ha14 => ?_
      (conv => whnf)
      exact ⟨rfl, hAc (st13.call ha14)⟩
end Go.Proofs.Ytfdlhakfmbdamaa
