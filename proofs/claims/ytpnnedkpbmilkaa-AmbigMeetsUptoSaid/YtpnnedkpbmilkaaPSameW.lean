/- same: is the automaton the document's? -/
import Derived.Test.YtpnnedkpbmilkaaPTables
set_option linter.unusedVariables false
set_option linter.unusedSimpArgs false
set_option maxRecDepth 100000
namespace Go.Proofs.Ytpnnedkpbmilkaa
open Go.VC
attribute [local irreducible] mRun atRun

set_option maxHeartbeats 4000000 in
theorem same_p {S : Nat → Prop} {H : Heap} {v w : Value} {o : Option AM} {D : DM} (hS : ∀ k, S k → k < H.size) (hv : AutoV S H v o) (hw : DfaV S H w D) (hok : D.Ok) (hn : stN o = D.next.length) (hst : ∀ (q : Int) (b : Nat), b < 256 → stepM o q b = stepD D q b) (hfi : ∀ q : Int, finM o q = finD D q) :
    Pure Try.prog 20 #[v, w] H (.bool true) := by
  have hlen := hw.len
  have hn1 := hok.n1
  have hn2 := hok.n2
  have hfl := hok.fl
  refine FnOk.of_vc Try.func20 rfl (Try.call20 _) ?_
  (conv => whnf); refine dfa_box hw fun ra rc na nc fa fc he h1 h2 h3 => ?_
  subst he
  intro pb H1 hpb hs1 hb1 ha1
  have hA1 : Agr (Old H) H H1 := ha1.mono fun j hj => by unfold Old at hj; omega
  have hF : ∀ {H' : Heap}, Agr (Old H) H H' → AutoV S H' v o := fun h => hv.frame (h.mono hS)
  have up : ∀ {H' : Heap}, Agr (Old H) H H' → ∀ k, S k → k < H'.size := fun h k hk => old_lt h (hS k hk)
  have tr : ∀ {H2 H' : Heap}, Agr (Old H) H H2 → Agr (Old H2) H2 H' → Agr (Old H) H H' := fun h k => h.trans (k.mono fun j hj => old_lt h hj)
  (conv => whnf)
  refine VDraw.quiet (Old H1) rfl (by kernel_rfl) ?_
  (conv => whnf); refine pureq (fun H' h' => states_p (hF (tr hA1 h'))) ?_
  (conv => whnf); refine VC.fa fl37_2 ?_
  (conv => whnf); refine ld1 ct23 (by rw [hb1.cell, Nat.zero_add]; exact dfaL_257 hlen) hb1.lt ?_
  have e0 : ((stN o : Int) != (D.next.length : Int)) = false := by rw [hn]; simp
  (conv => whnf); rw [e0]
  (conv => whnf)
  intro H2 ha2
  have hA2 := tr hA1 ha2
  (conv => whnf)
  refine VLoop.mk [5] (fun q : Nat => [.int .i64 q]) (fun q H3 => q ≤ D.next.length ∧ Agr (Old H1) H1 H3) (fun q _ => D.next.length - q) ?_ ?_
  · (conv => whnf); exact ⟨0, rfl, by omega, ha2⟩
  · rintro q H3 junk ⟨hq, ha3⟩
    have hA3 := tr hA1 ha3
    have hb3 := hb1.agr ha3 hb1.lt
    (conv => whnf); refine VC.fa fl37_2 ?_
    (conv => whnf); refine ld1 ct23 (by rw [hb3.cell, Nat.zero_add]; exact dfaL_257 hlen) trivial ?_
    (conv => whnf); refine VIte.mk (fun h => ?_) (fun h => ?_) <;> simp only [decide_eq_true_eq, decide_eq_false_iff_not] at h
    · obtain ⟨f, hf⟩ := get_some (l := D.final) (k := q) (by omega)
      have hfin : finM o (q : Int) = f := by rw [hfi]; simp [finD, hf]
      (conv => whnf)
      refine VDraw.quiet (Old H3) rfl (by kernel_rfl) ?_
      (conv => whnf); refine pureq (fun H' h' => final_p (hF (tr hA3 h'))) ?_
      (conv => whnf); refine VC.fa fl37_3 ?_
      (conv => whnf); refine ld1 ct24 (by rw [hb3.cell, Nat.zero_add]; exact dfaL_258 hlen) hb3.lt ?_
      (conv => whnf); refine ixr sl24 (h3.frame (hA3.mono hS)) hf rfl ?_
      rintro b4 o4 cs4 hSb4 hcells4 rfl
      (conv => whnf); refine ld1 ct4 hcells4.one (up hA3 _ hSb4) ?_
      (conv => whnf); refine bneq_b rfl ?_
      rw [hfin, show (!(f == f)) = false by simp]
      (conv => whnf)
      intro H4 ha4
      have ha14 := ha3.trans (ha4.mono fun k hk => old_lt ha3 hk)
      (conv => whnf)
      refine VLoop.mk [6] (fun b : Nat => [.int .i64 b]) (fun b H5 => b ≤ 256 ∧ Agr (Old H1) H1 H5) (fun b _ => 256 - b) ?_ ?_
      · (conv => whnf); exact ⟨0, rfl, by omega, ha14⟩
      · rintro b H5 junk5 ⟨hb, ha5⟩
        have hA5 := tr hA1 ha5
        have hb5 := hb1.agr ha5 hb1.lt
        (conv => whnf); refine VIte.mk (fun h => ?_) (fun h => ?_) <;> simp only [decide_eq_true_eq, decide_eq_false_iff_not] at h
        · obtain ⟨row, c, t, hr, hc, ht, hc256, _⟩ := hok.at (q := q) (b := b) (by omega) (by omega)
          have hstep : stepM o (q : Int) b = t := by rw [hst _ _ (by omega), stepD_at hr hc ht]
          (conv => whnf)
          refine VDraw.quiet (Old H5) rfl (by kernel_rfl) ?_
          (conv => whnf); rw [w8 (x := (b : Int)) (by omega) (by omega)]
          (conv => whnf); refine pureq (fun H' h' => step_p (up (tr hA5 h')) (hF (tr hA5 h')) (show b < 256 by omega)) ?_
          (conv => whnf); refine VC.fa fl37_2 ?_
          (conv => whnf); refine ld1 ct23 (by rw [hb5.cell, Nat.zero_add]; exact dfaL_257 hlen) hb5.lt ?_
          (conv => whnf); refine ixr sl23 (h2.frame (hA5.mono hS)) hr rfl ?_
          rintro b6 o6 cs6 hSb6 hcells6 ⟨xa, xc, rfl, hx⟩
          (conv => whnf); refine ld1 ct35 hcells6.one (up hA5 _ hSb6) ?_
          (conv => whnf); refine VC.fa fl37_0 ?_
          (conv => whnf); refine ixa ar34 (by omega) (by omega) ?_
          (conv => whnf); refine ld1 (v := .int .i64 (c : Int)) ct3 (by rw [hb5.cell, show 0 + 0 + ((b : Nat) : Int).toNat * 1 = b by omega]; exact dfaL_at hc) hb5.lt ?_
          (conv => whnf); refine ixr sl35 hx ht rfl ?_
          rintro b7 o7 cs7 hSb7 hcells7 ⟨rfl, -⟩
          (conv => whnf); refine ld1 ct3 hcells7.one (up hA5 _ hSb7) ?_
          rw [hstep]
          have e1 : (t != t) = false := by simp
          (conv => whnf); rw [e1]
          (conv => whnf)
          intro H6 ha6
          (conv => whnf); rw [w64 (x := (b : Int) + 1) (by omega) (by omega)]
          exact ⟨rfl, b + 1, by simp, ⟨by omega, ha5.trans (ha6.mono fun k hk => old_lt ha5 hk)⟩, by omega⟩
        · (conv => whnf); rw [w64 (x := (q : Int) + 1) (by omega) (by omega)]
          exact ⟨rfl, q + 1, by simp, ⟨by omega, ha5⟩, by omega⟩
    · (conv => whnf)
      exact ⟨rfl, hA3⟩

end Go.Proofs.Ytpnnedkpbmilkaa
