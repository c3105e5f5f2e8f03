/- The document's Cells: the walk. -/
import Derived.Test.YtpnnedkpbmilkaaPCel1
set_option linter.unusedVariables false
set_option linter.unusedSimpArgs false
set_option maxRecDepth 100000
namespace Go.Proofs.Ytpnnedkpbmilkaa
open Go.VC
attribute [local irreducible] mRun atRun gRun

def fdG (sim : Nat → Nat → Bool) (b : Nat) (l : List Nat) : Int := match l.findIdx? fun g => sim b g with
  | some k => (k : Int)
  | none => -1
theorem fdG_none {sim : Nat → Nat → Bool} {b : Nat} {l : List Nat} : fdG sim b l < 0 ↔ (l.findIdx? fun g => sim b g) = none := by
  unfold fdG
  split
  · rename_i k h; rw [h]; simp
  · rename_i h; rw [h]; simp
theorem fdG_in {sim : Nat → Nat → Bool} {b : Nat} {l : List Nat} : -1 ≤ fdG sim b l ∧ fdG sim b l < l.length := by
  unfold fdG
  split
  · rename_i k h
    have := (List.findIdx?_eq_some_iff_getElem.1 h).1
    omega
  · omega
theorem fdG_snoc {sim : Nat → Nat → Bool} {b g : Nat} {l : List Nat} (h : fdG sim b l < 0) : fdG sim b (l ++ [g]) = if sim b g then (l.length : Int) else -1 := by
  have h1 := fdG_none.1 h
  unfold fdG
  rw [List.findIdx?_append, h1]
  simp only [List.findIdx?_singleton, Option.none_or]
  cases hs : sim b g <;> simp
theorem fdG_take {sim : Nat → Nat → Bool} {b k : Nat} {l : List Nat} (h : 0 ≤ fdG sim b (l.take k)) : fdG sim b l = fdG sim b (l.take k) := by
  have h1 : (l.take k).findIdx? (fun g => sim b g) ≠ none := fun h2 => by have := fdG_none.2 h2; omega
  cases h2 : (l.take k).findIdx? (fun g => sim b g) with
  | none => exact absurd h2 h1
  | some k0 =>
    have h3 : l.findIdx? (fun g => sim b g) = some k0 := by
      conv => lhs; rw [← List.take_append_drop k l]
      rw [List.findIdx?_append, h2]; rfl
    unfold fdG
    rw [h2, h3]

def simTo (D : DM) (b g j : Nat) : Bool := (List.range j).all fun q => stepD D (q : Int) b == stepD D (q : Int) g
def simD (D : DM) (b g : Nat) : Bool := simTo D b g D.next.length
theorem simTo_succ (D : DM) (b g j : Nat) : simTo D b g (j + 1) = (simTo D b g j && (stepD D (j : Int) b == stepD D (j : Int) g)) := by
  unfold simTo
  rw [List.range_succ, List.all_append]; simp
theorem simD_refl (D : DM) (a : Nat) : simD D a a = true := by simp [simD, simTo]
theorem simTo_no {D : DM} {b g j : Nat} (hj : j ≤ D.next.length) (h : simTo D b g j = false) : simD D b g = false := by
  cases hs : simD D b g with
  | false => rfl
  | true =>
    unfold simD simTo at hs
    have : simTo D b g j = true := by
      unfold simTo
      rw [List.all_eq_true] at hs ⊢
      exact fun q hq => hs q (List.mem_range.2 (by have := List.mem_range.1 hq; omega))
    rw [this] at h; cases h

set_option maxHeartbeats 8000000 in
theorem refcells_o {S : Nat → Prop} {H : Heap} {v : Value} {D : DM} (hS : ∀ k, S k → k < H.size) (hw : DfaV S H v D) (hdok : D.Ok) :
    FnOk Try.prog 25 #[v] H fun v H' => Agr (Old H) H H' ∧ H.size ≤ H'.size ∧ ∃ a cap, v = .slice a (gRun (simD D) 256).1.length cap ∧
      SlO tF (fun _ => False) H' H.size 98 (.slice a (gRun (simD D) 256).1.length cap) (atSets (gRun (simD D) 256).2 (gRun (simD D) 256).1.length) := by
  have hlen := hw.len
  have hdn := hdok.n2
  refine FnOk.of_vc Try.func25 rfl (Try.call25 _) ?_
  (conv => whnf); refine dfa_box hw fun ra rc na nc fa' fc' he h1 h2 h3 => ?_
  subst he
  intro pb H1 hpb hs1 hb1 ha1
  have hA1 : Agr (Old H) H H1 := ha1.mono fun j hj => by unfold Old at hj; omega
  (conv => whnf)
  refine VLoop.mk [3, 4, 5] (fun x : Nat × Value × Value => match x with | (b, vo, vf) => [vo, vf, .int .i64 b]) (fun x H2 => x.1 ≤ 256 ∧ Agr (Old H1) H1 H2 ∧ H1.size ≤ H2.size ∧
    SlO tF (fun _ => False) H2 H1.size 98 x.2.1 (atSets (gRun (simD D) x.1).2 (gRun (simD D) x.1).1.length) ∧ SlO tI (fun _ => False) H2 H1.size 3 x.2.2 (asI (gRun (simD D) x.1).1) ∧ ∀ j, slB x.2.1 j → ¬ slB x.2.2 j) (fun x _ => 256 - x.1) ?_ ?_
  · (conv => whnf)
    exact ⟨(0, .slice none 0 0, .slice none 0 0), rfl, by simp, Agr.refl _ _, Nat.le_refl _, by unfold gRun; exact SlO.nil, by unfold gRun; exact SlO.nil, fun j hj => by obtain ⟨o, n, c, h⟩ := hj; cases h⟩
  · rintro ⟨b, vo, vf⟩ H2 junk ⟨hb, ha2, hs2, ho, hf, hap⟩
    simp only at hb ho hf hap
    have hok := gRun_ok (simD_refl D) b
    have hfl := hok.flen
    obtain ⟨fa, fcap, rfl, hfv, -⟩ := hf.view (S' := Old H2) (fun j hj => (hf.lt hj).2) (fun _ f => f.elim)
    obtain ⟨oa, ocap, rfl, hov, -⟩ := ho.view (S' := Old H2) (fun j hj => (ho.lt hj).2) (fun _ f => f.elim)
    rw [asI_len, atSets_len] at *
    have hA2 : Agr (Old H) H H2 := hA1.trans (ha2.mono fun k hk => old_lt hA1 hk)
    have hb2 := hb1.agr ha2 hb1.lt
    (conv => whnf); refine VIte.mk (fun h => ?_) (fun h => ?_) <;> simp only [decide_eq_true_eq, decide_eq_false_iff_not] at h
    · (conv => whnf)
      refine VLoop.mk [6, 7] (fun k : Nat => [.int .i64 (fdG (simD D) b ((gRun (simD D) b).1.take k)), .int .i64 k]) (fun k H3 => k ≤ (gRun (simD D) b).1.length ∧ Agr (Old H2) H2 H3) (fun k _ => (gRun (simD D) b).1.length - k) ?_ ?_
      · (conv => whnf); exact ⟨0, rfl, by omega, Agr.refl _ _⟩
      · rintro k H3 junk3 ⟨hk, ha3⟩
        have hs3 := old_size ha3
        by_cases hkl : k < (gRun (simD D) b).1.length
        · have d1 : decide ((k : Int) < ((gRun (simD D) b).1.length : Int)) = true := decide_eq_true (by omega)
          (conv => whnf); rw [d1]
          (conv => whnf); refine VIte.mk (fun h1' => ?_) (fun h1' => ?_) <;> simp only [decide_eq_true_eq, decide_eq_false_iff_not] at h1'
          · obtain ⟨g, hg⟩ := get_some hkl
            have hgb := (hok.first k g hg).1
            (conv => whnf); refine VSeq.run ?_
            (conv => whnf)
            refine VLoop.mk [8, 9] (fun j : Nat => [.bool (simTo D b g j), .int .i64 j]) (fun j H4 => j ≤ D.next.length ∧ Agr (Old H2) H2 H4) (fun j _ => D.next.length - j) ?_ ?_
            · (conv => whnf); exact ⟨0, rfl, by omega, ha3⟩
            · rintro j H4 junk4 ⟨hj, ha4⟩
              have hA4 := hA2.trans (ha4.mono fun k hk => old_lt hA2 hk)
              have hb4 := hb2.agr ha4 hb2.lt
              have up : ∀ {H' : Heap}, Agr (Old H) H H' → ∀ k, S k → k < H'.size := fun h k hk => old_lt h (hS k hk)
              have hneg : fdG (simD D) b ((gRun (simD D) b).1.take k) = -1 := by have := (fdG_in (sim := simD D) (b := b) (l := (gRun (simD D) b).1.take k)).1; omega
              (conv => whnf); refine VC.fa fl37_2 ?_
              (conv => whnf); refine ld1 ct23 (by rw [hb4.cell, Nat.zero_add]; exact dfaL_257 hlen) trivial ?_
              by_cases hjl : j < D.next.length
              · have d2 : decide ((j : Int) < (D.next.length : Int)) = true := decide_eq_true (by omega)
                cases hal : simTo D b g j with
                | true =>
                  (conv => whnf); rw [d2]
                  (conv => whnf); refine VDraw.quiet (Old H4) rfl (by kernel_rfl) ?_
                  (conv => whnf); refine dfa_load hb4 hlen hb4.lt (h1.frame (hA4.mono hS)) (h2.frame (hA4.mono hS)) (h3.frame (hA4.mono hS)) fun v5 hv5 => ?_
                  (conv => whnf); rw [w8 (x := (b : Int)) (by omega) (by omega)]
                  (conv => whnf); refine pureq (fun H' h' => refstep_p (up (hA4.trans (h'.mono fun k hk => old_lt hA4 hk))) (hv5.frame (h'.mono fun k hk => up hA4 k hk)) hdok (show b < 256 by omega)) ?_
                  (conv => whnf); refine dfa_load hb4 hlen hb4.lt (h1.frame (hA4.mono hS)) (h2.frame (hA4.mono hS)) (h3.frame (hA4.mono hS)) fun v6 hv6 => ?_
                  (conv => whnf); refine ixrn sl35 (hfv.frame ha4) (asI_len _).symm (asI_get hg) rfl ?_
                  rintro b6 o6 cs6 hSb6 hcells6 ⟨rfl, -⟩
                  (conv => whnf); refine ld1 ct3 hcells6.one (old_lt ha4 hSb6) ?_
                  (conv => whnf); rw [w8 (x := (g : Int)) (by omega) (by omega)]
                  (conv => whnf); refine pureq (fun H' h' => refstep_p (up (hA4.trans (h'.mono fun k hk => old_lt hA4 hk))) (hv6.frame (h'.mono fun k hk => up hA4 k hk)) hdok (show g < 256 by omega)) ?_
                  (conv => whnf)
                  intro H5 ha5
                  (conv => whnf); rw [w64 (x := (j : Int) + 1) (by omega) (by omega)]
                  exact ⟨rfl, j + 1, by rw [simTo_succ, hal]; simp, ⟨by omega, ha4.trans (ha5.mono fun k hk => old_lt ha4 hk)⟩, by omega⟩
                | false =>
                  have hs := simTo_no hj hal
                  (conv => whnf); rw [d2]
                  (conv => whnf); rw [w64 (x := (k : Int) + 1) (by omega) (by omega)]
                  refine ⟨rfl, k + 1, ?_, ⟨by omega, ha4⟩, by omega⟩
                  rw [take_succ_snoc hg, fdG_snoc h1', hs, hneg]; simp
              · obtain rfl : j = D.next.length := by omega
                have d2 : decide ((D.next.length : Int) < (D.next.length : Int)) = false := decide_eq_false (by omega)
                rw [show simTo D b g D.next.length = simD D b g from rfl]
                cases hs : simD D b g with
                | true =>
                  (conv => whnf); rw [d2]
                  (conv => whnf); rw [w64 (x := (k : Int) + 1) (by omega) (by omega)]
                  refine ⟨rfl, k + 1, ?_, ⟨by omega, ha4⟩, by omega⟩
                  rw [take_succ_snoc hg, fdG_snoc h1', hs]
                  simp; omega
                | false =>
                  (conv => whnf); rw [d2]
                  (conv => whnf); rw [w64 (x := (k : Int) + 1) (by omega) (by omega)]
                  refine ⟨rfl, k + 1, ?_, ⟨by omega, ha4⟩, by omega⟩
                  rw [take_succ_snoc hg, fdG_snoc h1', hs, hneg]; simp
          · rw [← fdG_take (by omega)]
            replace h1' : 0 ≤ fdG (simD D) b (gRun (simD D) b).1 := by rw [fdG_take (k := k) (by omega)]; omega
            replace ho := ho.agr ha3 (fun j hj => (ho.lt hj).2) (fun _ f => f.elim)
            replace hf := hf.agr ha3 (fun j hj => (hf.lt hj).2) (fun _ f => f.elim)
            replace ha2 := ha2.trans (ha3.mono fun k hk => old_lt ha2 hk)
            replace hs2 : H1.size ≤ H3.size := by omega
            cases hfi : (gRun (simD D) b).1.findIdx? fun g => simD D b g with
            | none => exact absurd (fdG_none.2 hfi) (by omega)
            | some k0 =>
              have hk0 := (List.findIdx?_eq_some_iff_getElem.1 hfi).1
              have hfd : fdG (simD D) b (gRun (simD D) b).1 = (k0 : Int) := by unfold fdG; rw [hfi]
              rw [hfd]
              have hnext : gRun (simD D) (b + 1) = ((gRun (simD D) b).1, (gRun (simD D) b).2 ++ [k0]) := gRun_some hfi
              obtain ⟨vb, cap, l, e1, hlo, hblk, hlen, hput⟩ := SlO.byte ho (atSets_get hk0) (show b < 256 by omega)
              rw [atSets_len] at e1
              injection e1 with e2 e3 e4
              subst e2; subst e4
              (conv => whnf); refine VSeq.run ?_
              (conv => whnf); refine ix slF_ (by omega) (by omega) ?_
              (conv => whnf); refine ixa ar98 (by omega) (by omega) ?_
              (conv => whnf); refine st1 ct4 hblk (by rw [show tF.size = 256 from rfl]; omega) rfl ?_
              intro H6 hb6 ha6 hs6
              rw [show 0 + ((k0 : Nat) : Int).toNat * tF.size + ((b : Nat) : Int).toNat * 1 = k0 * 256 + b by rw [show tF.size = 256 from rfl]; omega] at hb6
              have ho6 := hput H6 hb6
              have hput2 := atSets_put (ps := (gRun (simD D) b).2) hk0
              rw [hok.plen] at hput2
              rw [hput2] at ho6
              have hf6 := hf.agr ha6 (fun j hj => by rintro rfl; exact hap _ ⟨0, _, _, rfl⟩ hj) (fun _ f => f.elim)
              (conv => whnf); rw [w64 (x := (b : Int) + 1) (by omega) (by omega)]
              refine ⟨rfl, (b + 1, .slice (some ⟨vb, 0, none⟩) (gRun (simD D) b).1.length ocap, .slice fa (gRun (simD D) b).1.length fcap), by simp, ⟨by simp only; omega, ha2.trans (ha6.mono fun j hj => by unfold Old at hj; omega), by omega, ?_, ?_, hap⟩, by simp only; omega⟩
              · simp only [hnext]; exact ho6
              · simp only [hnext]; exact hf6
        · obtain rfl : k = (gRun (simD D) b).1.length := by omega
          have d1 : decide (((gRun (simD D) b).1.length : Int) < ((gRun (simD D) b).1.length : Int)) = false := decide_eq_false (by omega)
          rw [List.take_length]
          replace ho := ho.agr ha3 (fun j hj => (ho.lt hj).2) (fun _ f => f.elim)
          replace hf := hf.agr ha3 (fun j hj => (hf.lt hj).2) (fun _ f => f.elim)
          replace ha2 := ha2.trans (ha3.mono fun k hk => old_lt ha2 hk)
          replace hs2 : H1.size ≤ H3.size := by omega
          (conv => whnf); rw [d1]
          by_cases h1' : fdG (simD D) b (gRun (simD D) b).1 < 0
          · have hfi := fdG_none.1 h1'
            have hfd : fdG (simD D) b (gRun (simD D) b).1 = -1 := by have := (fdG_in (sim := simD D) (b := b) (l := (gRun (simD D) b).1)).1; omega
            rw [hfd]
            have hnext : gRun (simD D) (b + 1) = ((gRun (simD D) b).1 ++ [b], (gRun (simD D) b).2 ++ [(gRun (simD D) b).1.length]) := gRun_none hfi
            have hlt' : ∀ p ∈ (gRun (simD D) b).2, p < (gRun (simD D) b).1.length := hok.lt
            (conv => whnf); refine VSeq.run ?_
            (conv => whnf); refine vbuildA ar98 (Try.t98.zero.getD undef) rfl (List.replicate 256 (.bool false)) rfl ?_
            (conv => whnf); refine vbuild1 slF_ (List.replicate 256 (.bool false)) rfl rfl (by decide) (by decide) ?_
            intro q4 H4 hq4 hs4 hb4 ha4
            have ho4 := ho.agr ha4 (fun j hj => by have := (ho.lt hj).2; omega) (fun _ f => f.elim)
            have hf4 := hf.agr ha4 (fun j hj => by have := (hf.lt hj).2; omega) (fun _ f => f.elim)
            (conv => whnf); refine vappendO (T := tF) (S := fun _ => False) (ys := [fun _ => false]) (ds := List.replicate 256 (.bool false)) (lo := H1.size) (xs := atSets (gRun (simD D) b).2 (gRun (simD D) b).1.length) slF_ ho4 (by omega) (fun j hj => hj.elim)
              (hb4.cells (fun j v hv => by rw [Nat.zero_add]; exact hv)) (Ty.reps_one (show List.replicate 256 (Value.bool false) = funL (fun _ => false) from funL_zero.symm)) rfl (by intro u hu; rw [List.eq_of_mem_replicate hu]; rfl) (by rw [atSets_len]; simp only [maxLen, List.length_singleton]; omega) (by rw [atSets_len]; simp only [List.length_singleton]; omega) ?_
            intro v5 H5 ho5 ha5 hs5 hfr5
            rw [← atSets_more _ _ hlt'] at ho5
            have hf5 := hf4.agr ha5 (fun j hj => ⟨(hf4.lt hj).2, fun h => hap j h hj⟩) (fun _ f => f.elim)
            have hb5 : Blk H5 q4 98 (List.replicate 256 (.bool false)) := hb4.agr ha5 ⟨hb4.lt, fun h => by have := (ho.lt h).2; omega⟩
            (conv => whnf); refine vbuild1 sl35 [.int .i64 (b : Int)] rfl rfl (by decide) (by decide) ?_
            intro q6 H6 hq6 hs6 hb6 ha6
            have ho6 := ho5.agr ha6 (fun j hj => by have := (ho5.lt hj).2; omega) (fun _ f => f.elim)
            have hf6 := hf5.agr ha6 (fun j hj => by have := (hf5.lt hj).2; omega) (fun _ f => f.elim)
            (conv => whnf); refine vappendO (T := tI) (S := fun _ => False) (ys := [(b : Int)]) (ds := [.int .i64 (b : Int)]) (lo := H1.size) (xs := asI (gRun (simD D) b).1) sl35 hf6 (by omega) (fun j hj => hj.elim)
              (hb6.cells (fun j v hv => by simpa using hv)) (Ty.reps_one ⟨rfl, inI64 (by omega)⟩) rfl (by intro u hu; cases List.mem_singleton.1 hu; rfl) (by rw [asI_len]; simp only [maxLen, List.length_singleton]; omega) (by rw [asI_len]; simp only [List.length_singleton]; omega) ?_
            intro v7 H7 hf7 ha7 hs7 hfr7
            have hap5 : ∀ j, slB v5 j → ¬ slB (.slice fa (gRun (simD D) b).1.length fcap) j := fun j hj hj' => by
              rcases hfr5 j hj with h | h
              · exact hap j h hj'
              · have := (hf.lt hj').2; omega
            have ho7 := ho6.agr ha7 (fun j hj => ⟨(ho6.lt hj).2, hap5 j hj⟩) (fun _ f => f.elim)
            have hap7 : ∀ j, slB v5 j → ¬ slB v7 j := fun j hj hj' => by
              rcases hfr7 j hj' with h | h
              · exact hap5 j hj h
              · have := (ho6.lt hj).2; omega
            have hget7 : (atSets (gRun (simD D) b).2 ((gRun (simD D) b).1.length + 1))[(gRun (simD D) b).1.length]? = some (atSet (gRun (simD D) b).2 (gRun (simD D) b).1.length) := atSets_get (by omega)
            obtain ⟨vb, cap, l, e1, hlo, hblk, hlen, hput⟩ := SlO.byte ho7 hget7 (show b < 256 by omega)
            subst e1
            rw [atSets_len] at *
            have hnn : (gRun (simD D) b).1.length < (gRun (simD D) b).1.length + 1 := by omega
            (conv => whnf); refine ix slF_ (by omega) (by omega) ?_
            (conv => whnf); refine ixa ar98 (by omega) (by omega) ?_
            (conv => whnf); refine st1 ct4 hblk (by rw [show tF.size = 256 from rfl]; omega) rfl ?_
            intro H8 hb8 ha8 hs8
            rw [show 0 + (((gRun (simD D) b).1.length : Nat) : Int).toNat * tF.size + ((b : Nat) : Int).toNat * 1 = (gRun (simD D) b).1.length * 256 + b by rw [show tF.size = 256 from rfl]; omega] at hb8
            have ho8 := hput H8 hb8
            have hput2 := atSets_put (ps := (gRun (simD D) b).2) hnn
            rw [hok.plen] at hput2
            rw [hput2] at ho8
            have hf8 := hf7.agr ha8 (fun j hj => by rintro rfl; exact hap7 _ ⟨0, _, _, rfl⟩ hj) (fun _ f => f.elim)
            have hA8 : Agr (Old H1) H1 H8 := ((((ha2.trans (ha4.mono fun j hj => by have := old_lt ha2 hj; omega)).trans (ha5.mono fun j hj => ⟨by have := old_lt ha2 hj; omega, fun h => by have := (ho.lt h).1; unfold Old at hj; omega⟩)).trans (ha6.mono fun j hj => by have := old_lt ha2 hj; omega)).trans (ha7.mono fun j hj => ⟨by have := old_lt ha2 hj; omega, fun h => by have := (hf.lt h).1; unfold Old at hj; omega⟩)).trans (ha8.mono fun j hj => by unfold Old at hj; omega)
            (conv => whnf); rw [w64 (x := (b : Int) + 1) (by omega) (by omega)]
            refine ⟨rfl, (b + 1, _, _), rfl, ⟨by simp only; omega, hA8, by omega, ?_, ?_, hap7⟩, by simp only; omega⟩
            · simp only [hnext, List.length_append, List.length_singleton]; exact ho8
            · simp only [hnext, asI, List.map_append, List.map_cons, List.map_nil]; exact hf8
          · replace h1' : 0 ≤ fdG (simD D) b (gRun (simD D) b).1 := by omega
            cases hfi : (gRun (simD D) b).1.findIdx? fun g => simD D b g with
            | none => exact absurd (fdG_none.2 hfi) (by omega)
            | some k0 =>
              have hk0 := (List.findIdx?_eq_some_iff_getElem.1 hfi).1
              have hfd : fdG (simD D) b (gRun (simD D) b).1 = (k0 : Int) := by unfold fdG; rw [hfi]
              rw [hfd]
              have hnext : gRun (simD D) (b + 1) = ((gRun (simD D) b).1, (gRun (simD D) b).2 ++ [k0]) := gRun_some hfi
              obtain ⟨vb, cap, l, e1, hlo, hblk, hlen, hput⟩ := SlO.byte ho (atSets_get hk0) (show b < 256 by omega)
              rw [atSets_len] at e1
              injection e1 with e2 e3 e4
              subst e2; subst e4
              (conv => whnf); refine VSeq.run ?_
              (conv => whnf); refine ix slF_ (by omega) (by omega) ?_
              (conv => whnf); refine ixa ar98 (by omega) (by omega) ?_
              (conv => whnf); refine st1 ct4 hblk (by rw [show tF.size = 256 from rfl]; omega) rfl ?_
              intro H6 hb6 ha6 hs6
              rw [show 0 + ((k0 : Nat) : Int).toNat * tF.size + ((b : Nat) : Int).toNat * 1 = k0 * 256 + b by rw [show tF.size = 256 from rfl]; omega] at hb6
              have ho6 := hput H6 hb6
              have hput2 := atSets_put (ps := (gRun (simD D) b).2) hk0
              rw [hok.plen] at hput2
              rw [hput2] at ho6
              have hf6 := hf.agr ha6 (fun j hj => by rintro rfl; exact hap _ ⟨0, _, _, rfl⟩ hj) (fun _ f => f.elim)
              (conv => whnf); rw [w64 (x := (b : Int) + 1) (by omega) (by omega)]
              refine ⟨rfl, (b + 1, .slice (some ⟨vb, 0, none⟩) (gRun (simD D) b).1.length ocap, .slice fa (gRun (simD D) b).1.length fcap), by simp, ⟨by simp only; omega, ha2.trans (ha6.mono fun j hj => by unfold Old at hj; omega), by omega, ?_, ?_, hap⟩, by simp only; omega⟩
              · simp only [hnext]; exact ho6
              · simp only [hnext]; exact hf6
    · obtain rfl : b = 256 := by omega
      obtain ⟨oa2, ocap2, e2, hov2, -⟩ := ho.view (S' := Fresh H H2) (fun j hj => ⟨by have := (ho.lt hj).1; omega, (ho.lt hj).2⟩) (fun _ f => f.elim)
      rw [atSets_len] at e2
      injection e2 with e3 e4 e5
      subst e3; subst e5
      (conv => whnf)
      exact ⟨hA2, by omega, _, _, rfl, ho.lower (by omega)⟩
theorem refcells_c {S : Nat → Prop} {H : Heap} {v : Value} {D : DM} (hS : ∀ k, S k → k < H.size) (hw : DfaV S H v D) (hdok : D.Ok) :
    FnOk Try.prog 25 #[v] H fun v H' => Agr (Old H) H H' ∧ H.size ≤ H'.size ∧ ∃ a cap, v = .slice a (gRun (simD D) 256).1.length cap ∧
      SlD tF (Fresh H H') H' a cap (atSets (gRun (simD D) 256).2 (gRun (simD D) 256).1.length) := by
  refine (refcells_o hS hw hdok).mono ?_
  rintro v' H' ⟨h1, h2, a, cap, rfl, h3⟩
  obtain ⟨a', cap', e, h4, -⟩ := h3.view (S' := Fresh H H') (fun j hj => h3.lt hj) (fun _ f => f.elim)
  rw [atSets_len] at e
  injection e with e1 e2 e3
  subst e1; subst e3
  exact ⟨h1, h2, a, cap, rfl, h4⟩

end Go.Proofs.Ytpnnedkpbmilkaa
