/- louperef17.Spare; the law KeysSpares: the walks. -/
import Derived.Test.YtfdlhakfmbdamaaPSpare
import Derived.Test.YtfdlhakfmbdamaaPAligns
set_option linter.unusedVariables false
set_option linter.unusedSimpArgs false
set_option maxRecDepth 100000
namespace Go.Proofs.Ytfdlhakfmbdamaa
open Go.VC
theorem spareTo_len (view source : List ByteArray) (k : Nat) : (asInts (spareTo view source k)).length ≤ k := by
  unfold asInts spareTo
  rw [List.length_map]
  exact Nat.le_trans (List.length_filter_le _ _) (by simp)
theorem refspare_c (va sa : Option Addr) (vc sc : Nat) (view source : List ByteArray) (S : Nat → Prop) (H : Heap) (hS : ∀ k, S k → k < H.size) (hv : SlD tStr S H va vc view) (hs : SlD tStr S H sa sc source) (nv : view.length ≤ 4194304) (ns : source.length ≤ 4194303) :
    FnOk Try.prog 13 #[.slice va view.length vc, .slice sa source.length sc] H fun v H' => Agr (Old H) H H' ∧ SlO tI none_ H' H.size 3 v (asInts (spareN view source)) := by
  have hal : (alignM view source).length = view.length := by simp [alignM]
  refine FnOk.of_vc Try.func13 rfl (Try.call13 _) ?_
  (conv => whnf); refine VCall.mk (refalign_c va sa vc sc view source S H hS hv hs nv (by omega)) ?_
  rintro _ H1 ⟨ha1, hs1, wb, rfl, hwb, hw⟩
  have hwl := (hw.lt ⟨0, _, _, rfl⟩).2
  have w1 : SlD tI (Old H1) H1 (some ⟨wb, 0, none⟩) view.length (alignM view source) := al_view (S := Old H1) hw hal (Agr.refl _ _) hwl
  have st1 := (St.nil H1).nils tI 3
  (conv => whnf)
  refine VLoop.mk [6, 7] (fun x : Nat × Option Addr × Nat => match x with | (k, a, c) => [.slice a (asInts (spareTo view source k)).length c, .int .i64 (k : Int)])
    (fun x H2 => x.1 ≤ source.length ∧ St H1 H2 [pS tI 3 x.2.1 (asInts (spareTo view source x.1)).length x.2.2 (asInts (spareTo view source x.1))]) (fun x _ => source.length - x.1) ?_ ?_
  · (conv => whnf)
    exact ⟨(0, none, 0), rfl, Nat.zero_le _, st1⟩
  · rintro ⟨k, a2, c2⟩ H2 junk2 ⟨hk, st2⟩
    simp only at hk st2
    (conv => whnf); refine VIte.mk (fun h => ?_) (fun h => ?_) <;> simp only [decide_eq_true_eq, decide_eq_false_iff_not] at h
    · have hkl : k < source.length := by omega
      (conv => whnf); refine VSeq.run ?_
      (conv => whnf)
      refine VLoop.mk [8, 9] (fun i : Nat => [.bool (hitB view source i k), .int .i64 (i : Int)]) (fun i H3 => i ≤ view.length ∧ H3 = H2) (fun i _ => view.length - i) ?_ ?_
      · (conv => whnf)
        exact ⟨0, rfl, Nat.zero_le _, rfl⟩
      · rintro i _ junk3 ⟨hi, rfl⟩
        (conv => whnf); refine VIte.mk (fun h3 => ?_) (fun h3 => ?_) <;> simp only [decide_eq_true_eq, decide_eq_false_iff_not] at h3
        · obtain ⟨x, hx⟩ := get_some (l := alignM view source) (k := i) (by omega)
          have hsu := hit_succ (k := k) hx
          cases hb : hitB view source i k with
          | false =>
            rw [hb, Bool.false_and] at hsu
            (conv => whnf); rw [w64 (x := (i : Int) + 1) (by omega) (by omega)]
            exact ⟨rfl, i + 1, by simp only [hsu]; rfl, ⟨by omega, rfl⟩, by omega⟩
          | true =>
            rw [hb, Bool.true_and] at hsu
            (conv => whnf); refine ixrn (i := i) (x := x) sl24 (w1.frame st2.old) hal.symm hx rfl ?_
            rintro b4 o4 cs4 hSb4 hcells4 ⟨rfl, -⟩
            (conv => whnf); refine ld1 ct3 hcells4.one trivial ?_
            (conv => whnf); rw [w64 (x := (i : Int) + 1) (by omega) (by omega)]
            exact ⟨rfl, i + 1, by simp only [hsu]; rfl, ⟨by omega, rfl⟩, by omega⟩
        · obtain rfl : i = view.length := by omega
          rw [hit_spare hkl]
          have hsu := spareTo_succ view source k
          have hlen := spareTo_len view source k
          cases hb : spB view source k with
          | false =>
            rw [hb, if_neg Bool.false_ne_true] at hsu
            (conv => whnf); rw [w64 (x := (k : Int) + 1) (by omega) (by omega)]
            exact ⟨rfl, (k + 1, a2, c2), by simp only [hsu]; rfl, ⟨by omega, by simp only [hsu]; exact st2⟩, by omega⟩
          | true =>
            rw [hb, if_pos rfl] at hsu
            (conv => whnf); refine vbuild1 sl24 [.int .i64 (k : Int)] rfl rfl (by decide) (by decide) ?_
            intro q5 H5 hq5 hs5 hb5 ha5
            (conv => whnf); refine app1 (st2.skip hq5 ha5) 0 sl24 rfl hb5 ⟨rfl, inI64 (by omega)⟩ rfl (by omega) (by decide) fun a' c' H6 st6 _ => ?_
            have e : asInts (spareTo view source k) ++ [(k : Int)] = asInts (spareTo view source (k + 1)) := by
              rw [hsu]
              simp [asInts]
            have el : (asInts (spareTo view source k)).length + 1 = (asInts (spareTo view source (k + 1))).length := by rw [← e, List.length_append]; rfl
            rw [e, el] at st6
            rw [el]
            (conv => whnf); rw [w64 (x := (k : Int) + 1) (by omega) (by omega)]
            exact ⟨rfl, (k + 1, a', c'), rfl, ⟨by omega, st6⟩, by omega⟩
    · obtain rfl : k = source.length := by omega
      (conv => whnf)
      refine ⟨ha1.trans (st2.old.mono fun j hj => old_lt ha1 hj), ?_⟩
      exact (St.own st2 0 rfl).lower (old_size ha1)
end Go.Proofs.Ytfdlhakfmbdamaa
