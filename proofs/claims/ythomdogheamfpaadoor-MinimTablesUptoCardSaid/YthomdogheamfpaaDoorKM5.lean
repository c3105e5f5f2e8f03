/- Parts of the proof: PCel2, PBoth, PGam0, PMeg, PDDt, PAtEq, PDLw, PMin1, PMin2, PMin3, PMin4, PMin5, PMin6, PMin7 -/
import Derived.Test.YthomdogheamfpaaDoorKM4
import Derived.Test.YthomdogheamfpaaDoorKM3
import Derived.Test.YthomdogheamfpaaDoorKM1
import Derived.Test.YthomdogheamfpaaDoorKM2
/- The document's Cells: the walk. -/
set_option linter.unusedVariables false
set_option linter.unusedSimpArgs false
set_option maxRecDepth 100000
namespace Go.Proofs.YthomdogheamfpaaDoor
open Go.VC
attribute [local irreducible] mRun atRun gRun

def fdG (sim : Nat → Nat → Bool) (b : Nat) (l : List Nat) : Int := match l.findIdx? fun g => sim b g with
  | some k => (k : Int)
  | none => -1
theorem fdG_none {sim : Nat → Nat → Bool} {b : Nat} {l : List Nat} : fdG sim b l < 0 ↔ (l.findIdx? fun g => sim b g) = none := by
  unfold fdG
  split
  · rename_i k h; rw [h]; simp
  · rename_i h; rw [h]; simp
theorem fdG_in {sim : Nat → Nat → Bool} {b : Nat} {l : List Nat} : -1 ≤ fdG sim b l ∧ fdG sim b l < l.length := by
  unfold fdG
  split
  · rename_i k h
    have := (List.findIdx?_eq_some_iff_getElem.1 h).1
    omega
  · omega
theorem fdG_snoc {sim : Nat → Nat → Bool} {b g : Nat} {l : List Nat} (h : fdG sim b l < 0) : fdG sim b (l ++ [g]) = if sim b g then (l.length : Int) else -1 := by
  have h1 := fdG_none.1 h
  unfold fdG
  rw [List.findIdx?_append, h1]
  simp only [List.findIdx?_singleton, Option.none_or]
  cases hs : sim b g <;> simp
theorem fdG_take {sim : Nat → Nat → Bool} {b k : Nat} {l : List Nat} (h : 0 ≤ fdG sim b (l.take k)) : fdG sim b l = fdG sim b (l.take k) := by
  have h1 : (l.take k).findIdx? (fun g => sim b g) ≠ none := fun h2 => by have := fdG_none.2 h2; omega
  cases h2 : (l.take k).findIdx? (fun g => sim b g) with
  | none => exact absurd h2 h1
  | some k0 =>
    have h3 : l.findIdx? (fun g => sim b g) = some k0 := by
      conv => lhs; rw [← List.take_append_drop k l]
      rw [List.findIdx?_append, h2]; rfl
    unfold fdG
    rw [h2, h3]

def simTo (D : DM) (b g j : Nat) : Bool := (List.range j).all fun q => stepD D (q : Int) b == stepD D (q : Int) g
def simD (D : DM) (b g : Nat) : Bool := simTo D b g D.next.length
theorem simTo_succ (D : DM) (b g j : Nat) : simTo D b g (j + 1) = (simTo D b g j && (stepD D (j : Int) b == stepD D (j : Int) g)) := by
  unfold simTo
  rw [List.range_succ, List.all_append]; simp
theorem simD_refl (D : DM) (a : Nat) : simD D a a = true := by simp [simD, simTo]
theorem simTo_no {D : DM} {b g j : Nat} (hj : j ≤ D.next.length) (h : simTo D b g j = false) : simD D b g = false := by
  cases hs : simD D b g with
  | false => rfl
  | true =>
    unfold simD simTo at hs
    have : simTo D b g j = true := by
      unfold simTo
      rw [List.all_eq_true] at hs ⊢
      exact fun q hq => hs q (List.mem_range.2 (by have := List.mem_range.1 hq; omega))
    rw [this] at h; cases h

set_option maxHeartbeats 8000000 in
theorem refcells_o {S : Nat → Prop} {H : Heap} {v : Value} {D : DM} (hS : ∀ k, S k → k < H.size) (hw : DfaV S H v D) (hdok : D.Ok) :
    FnOk Tryd.prog 57 #[v] H fun v H' => Agr (Old H) H H' ∧ H.size ≤ H'.size ∧ ∃ a cap, v = .slice a (gRun (simD D) 256).1.length cap ∧
      SlO tF (fun _ => False) H' H.size 112 (.slice a (gRun (simD D) 256).1.length cap) (atSets (gRun (simD D) 256).2 (gRun (simD D) 256).1.length) := by
  have hlen := hw.len
  have hdn := hdok.n2
  refine FnOk.of_vc Tryd.func57 rfl (Tryd.call57 _) ?_
  (conv => whnf); refine dfa_box hw fun ra rc na nc fa' fc' he h1 h2 h3 => ?_
  subst he
  intro pb H1 hpb hs1 hb1 ha1
  have hA1 : Agr (Old H) H H1 := ha1.mono fun j hj => by unfold Old at hj; omega
  (conv => whnf)
  refine VLoop.mk [3, 4, 5] (fun x : Nat × Value × Value => match x with | (b, vo, vf) => [vo, vf, .int .i64 b]) (fun x H2 => x.1 ≤ 256 ∧ Agr (Old H1) H1 H2 ∧ H1.size ≤ H2.size ∧
    SlO tF (fun _ => False) H2 H1.size 112 x.2.1 (atSets (gRun (simD D) x.1).2 (gRun (simD D) x.1).1.length) ∧ SlO tI (fun _ => False) H2 H1.size 3 x.2.2 (asI (gRun (simD D) x.1).1) ∧ ∀ j, slB x.2.1 j → ¬ slB x.2.2 j) (fun x _ => 256 - x.1) ?_ ?_
  · (conv => whnf)
    exact ⟨(0, .slice none 0 0, .slice none 0 0), rfl, by simp, Agr.refl _ _, Nat.le_refl _, by unfold gRun; exact SlO.nil, by unfold gRun; exact SlO.nil, fun j hj => by obtain ⟨o, n, c, h⟩ := hj; cases h⟩
  · rintro ⟨b, vo, vf⟩ H2 junk ⟨hb, ha2, hs2, ho, hf, hap⟩
    simp only at hb ho hf hap
    have hok := gRun_ok (simD_refl D) b
    have hfl := hok.flen
    obtain ⟨fa, fcap, rfl, hfv, -⟩ := hf.view (S' := Old H2) (fun j hj => (hf.lt hj).2) (fun _ f => f.elim)
    obtain ⟨oa, ocap, rfl, hov, -⟩ := ho.view (S' := Old H2) (fun j hj => (ho.lt hj).2) (fun _ f => f.elim)
    rw [asI_len, atSets_len] at *
    have hA2 : Agr (Old H) H H2 := hA1.trans (ha2.mono fun k hk => old_lt hA1 hk)
    have hb2 := hb1.agr ha2 hb1.lt
    (conv => whnf); refine VIte.mk (fun h => ?_) (fun h => ?_) <;> simp only [decide_eq_true_eq, decide_eq_false_iff_not] at h
    · (conv => whnf)
      refine VLoop.mk [6, 7] (fun k : Nat => [.int .i64 (fdG (simD D) b ((gRun (simD D) b).1.take k)), .int .i64 k]) (fun k H3 => k ≤ (gRun (simD D) b).1.length ∧ Agr (Old H2) H2 H3) (fun k _ => (gRun (simD D) b).1.length - k) ?_ ?_
      · (conv => whnf); exact ⟨0, rfl, by omega, Agr.refl _ _⟩
      · rintro k H3 junk3 ⟨hk, ha3⟩
        have hs3 := old_size ha3
        by_cases hkl : k < (gRun (simD D) b).1.length
        · have d1 : decide ((k : Int) < ((gRun (simD D) b).1.length : Int)) = true := decide_eq_true (by omega)
          (conv => whnf); rw [d1]
          (conv => whnf); refine VIte.mk (fun h1' => ?_) (fun h1' => ?_) <;> simp only [decide_eq_true_eq, decide_eq_false_iff_not] at h1'
          · obtain ⟨g, hg⟩ := get_some hkl
            have hgb := (hok.first k g hg).1
            (conv => whnf); refine VSeq.run ?_
            (conv => whnf)
            refine VLoop.mk [8, 9] (fun j : Nat => [.bool (simTo D b g j), .int .i64 j]) (fun j H4 => j ≤ D.next.length ∧ Agr (Old H2) H2 H4) (fun j _ => D.next.length - j) ?_ ?_
            · (conv => whnf); exact ⟨0, rfl, by omega, ha3⟩
            · rintro j H4 junk4 ⟨hj, ha4⟩
              have hA4 := hA2.trans (ha4.mono fun k hk => old_lt hA2 hk)
              have hb4 := hb2.agr ha4 hb2.lt
              have up : ∀ {H' : Heap}, Agr (Old H) H H' → ∀ k, S k → k < H'.size := fun h k hk => old_lt h (hS k hk)
              have hneg : fdG (simD D) b ((gRun (simD D) b).1.take k) = -1 := by have := (fdG_in (sim := simD D) (b := b) (l := (gRun (simD D) b).1.take k)).1; omega
              (conv => whnf); refine VC.fa fl35_2 ?_
              (conv => whnf); refine ld1 ct23 (by rw [hb4.cell, Nat.zero_add]; exact dfaL_257 hlen) trivial ?_
              by_cases hjl : j < D.next.length
              · have d2 : decide ((j : Int) < (D.next.length : Int)) = true := decide_eq_true (by omega)
                cases hal : simTo D b g j with
                | true =>
                  (conv => whnf); rw [d2]
                  (conv => whnf); refine VDraw.quiet (Old H4) rfl (by kernel_rfl) ?_
                  (conv => whnf); refine dfa_load hb4 hlen hb4.lt (h1.frame (hA4.mono hS)) (h2.frame (hA4.mono hS)) (h3.frame (hA4.mono hS)) fun v5 hv5 => ?_
                  (conv => whnf); rw [w8 (x := (b : Int)) (by omega) (by omega)]
                  (conv => whnf); refine pureq (fun H' h' => refstep_p (up (hA4.trans (h'.mono fun k hk => old_lt hA4 hk))) (hv5.frame (h'.mono fun k hk => up hA4 k hk)) hdok (show b < 256 by omega)) ?_
                  (conv => whnf); refine dfa_load hb4 hlen hb4.lt (h1.frame (hA4.mono hS)) (h2.frame (hA4.mono hS)) (h3.frame (hA4.mono hS)) fun v6 hv6 => ?_
                  (conv => whnf); refine ixrn sl33 (hfv.frame ha4) (asI_len _).symm (asI_get hg) rfl ?_
                  rintro b6 o6 cs6 hSb6 hcells6 ⟨rfl, -⟩
                  (conv => whnf); refine ld1 ct3 hcells6.one (old_lt ha4 hSb6) ?_
                  (conv => whnf); rw [w8 (x := (g : Int)) (by omega) (by omega)]
                  (conv => whnf); refine pureq (fun H' h' => refstep_p (up (hA4.trans (h'.mono fun k hk => old_lt hA4 hk))) (hv6.frame (h'.mono fun k hk => up hA4 k hk)) hdok (show g < 256 by omega)) ?_
                  (conv => whnf)
                  intro H5 ha5
                  (conv => whnf); rw [w64 (x := (j : Int) + 1) (by omega) (by omega)]
                  exact ⟨rfl, j + 1, by rw [simTo_succ, hal]; simp, ⟨by omega, ha4.trans (ha5.mono fun k hk => old_lt ha4 hk)⟩, by omega⟩
                | false =>
                  have hs := simTo_no hj hal
                  (conv => whnf); rw [d2]
                  (conv => whnf); rw [w64 (x := (k : Int) + 1) (by omega) (by omega)]
                  refine ⟨rfl, k + 1, ?_, ⟨by omega, ha4⟩, by omega⟩
                  rw [take_succ_snoc hg, fdG_snoc h1', hs, hneg]; simp
              · obtain rfl : j = D.next.length := by omega
                have d2 : decide ((D.next.length : Int) < (D.next.length : Int)) = false := decide_eq_false (by omega)
                rw [show simTo D b g D.next.length = simD D b g from rfl]
                cases hs : simD D b g with
                | true =>
                  (conv => whnf); rw [d2]
                  (conv => whnf); rw [w64 (x := (k : Int) + 1) (by omega) (by omega)]
                  refine ⟨rfl, k + 1, ?_, ⟨by omega, ha4⟩, by omega⟩
                  rw [take_succ_snoc hg, fdG_snoc h1', hs]
                  simp; omega
                | false =>
                  (conv => whnf); rw [d2]
                  (conv => whnf); rw [w64 (x := (k : Int) + 1) (by omega) (by omega)]
                  refine ⟨rfl, k + 1, ?_, ⟨by omega, ha4⟩, by omega⟩
                  rw [take_succ_snoc hg, fdG_snoc h1', hs, hneg]; simp
          · rw [← fdG_take (by omega)]
            replace h1' : 0 ≤ fdG (simD D) b (gRun (simD D) b).1 := by rw [fdG_take (k := k) (by omega)]; omega
            replace ho := ho.agr ha3 (fun j hj => (ho.lt hj).2) (fun _ f => f.elim)
            replace hf := hf.agr ha3 (fun j hj => (hf.lt hj).2) (fun _ f => f.elim)
            replace ha2 := ha2.trans (ha3.mono fun k hk => old_lt ha2 hk)
            replace hs2 : H1.size ≤ H3.size := by omega
            cases hfi : (gRun (simD D) b).1.findIdx? fun g => simD D b g with
            | none => exact absurd (fdG_none.2 hfi) (by omega)
            | some k0 =>
              have hk0 := (List.findIdx?_eq_some_iff_getElem.1 hfi).1
              have hfd : fdG (simD D) b (gRun (simD D) b).1 = (k0 : Int) := by unfold fdG; rw [hfi]
              rw [hfd]
              have hnext : gRun (simD D) (b + 1) = ((gRun (simD D) b).1, (gRun (simD D) b).2 ++ [k0]) := gRun_some hfi
              obtain ⟨vb, cap, l, e1, hlo, hblk, hlen, hput⟩ := SlO.byte ho (atSets_get hk0) (show b < 256 by omega)
              rw [atSets_len] at e1
              injection e1 with e2 e3 e4
              subst e2; subst e4
              (conv => whnf); refine VSeq.run ?_
              (conv => whnf); refine ix slF_ (by omega) (by omega) ?_
              (conv => whnf); refine ixa ar112 (by omega) (by omega) ?_
              (conv => whnf); refine st1 ct4 hblk (by rw [show tF.size = 256 from rfl]; omega) rfl ?_
              intro H6 hb6 ha6 hs6
              rw [show 0 + ((k0 : Nat) : Int).toNat * tF.size + ((b : Nat) : Int).toNat * 1 = k0 * 256 + b by rw [show tF.size = 256 from rfl]; omega] at hb6
              have ho6 := hput H6 hb6
              have hput2 := atSets_put (ps := (gRun (simD D) b).2) hk0
              rw [hok.plen] at hput2
              rw [hput2] at ho6
              have hf6 := hf.agr ha6 (fun j hj => by rintro rfl; exact hap _ ⟨0, _, _, rfl⟩ hj) (fun _ f => f.elim)
              (conv => whnf); rw [w64 (x := (b : Int) + 1) (by omega) (by omega)]
              refine ⟨rfl, (b + 1, .slice (some ⟨vb, 0, none⟩) (gRun (simD D) b).1.length ocap, .slice fa (gRun (simD D) b).1.length fcap), by simp, ⟨by simp only; omega, ha2.trans (ha6.mono fun j hj => by unfold Old at hj; omega), by omega, ?_, ?_, hap⟩, by simp only; omega⟩
              · simp only [hnext]; exact ho6
              · simp only [hnext]; exact hf6
        · obtain rfl : k = (gRun (simD D) b).1.length := by omega
          have d1 : decide (((gRun (simD D) b).1.length : Int) < ((gRun (simD D) b).1.length : Int)) = false := decide_eq_false (by omega)
          rw [List.take_length]
          replace ho := ho.agr ha3 (fun j hj => (ho.lt hj).2) (fun _ f => f.elim)
          replace hf := hf.agr ha3 (fun j hj => (hf.lt hj).2) (fun _ f => f.elim)
          replace ha2 := ha2.trans (ha3.mono fun k hk => old_lt ha2 hk)
          replace hs2 : H1.size ≤ H3.size := by omega
          (conv => whnf); rw [d1]
          by_cases h1' : fdG (simD D) b (gRun (simD D) b).1 < 0
          · have hfi := fdG_none.1 h1'
            have hfd : fdG (simD D) b (gRun (simD D) b).1 = -1 := by have := (fdG_in (sim := simD D) (b := b) (l := (gRun (simD D) b).1)).1; omega
            rw [hfd]
            have hnext : gRun (simD D) (b + 1) = ((gRun (simD D) b).1 ++ [b], (gRun (simD D) b).2 ++ [(gRun (simD D) b).1.length]) := gRun_none hfi
            have hlt' : ∀ p ∈ (gRun (simD D) b).2, p < (gRun (simD D) b).1.length := hok.lt
            (conv => whnf); refine VSeq.run ?_
            (conv => whnf); refine vbuildA ar112 (Tryd.t112.zero.getD undef) rfl (List.replicate 256 (.bool false)) rfl ?_
            (conv => whnf); refine vbuild1 slF_ (List.replicate 256 (.bool false)) rfl rfl (by decide) (by decide) ?_
            intro q4 H4 hq4 hs4 hb4 ha4
            have ho4 := ho.agr ha4 (fun j hj => by have := (ho.lt hj).2; omega) (fun _ f => f.elim)
            have hf4 := hf.agr ha4 (fun j hj => by have := (hf.lt hj).2; omega) (fun _ f => f.elim)
            (conv => whnf); refine vappendO (T := tF) (S := fun _ => False) (ys := [fun _ => false]) (ds := List.replicate 256 (.bool false)) (lo := H1.size) (xs := atSets (gRun (simD D) b).2 (gRun (simD D) b).1.length) slF_ ho4 (by omega) (fun j hj => hj.elim)
              (hb4.cells (fun j v hv => by rw [Nat.zero_add]; exact hv)) (Ty.reps_one (show List.replicate 256 (Value.bool false) = funL (fun _ => false) from funL_zero.symm)) rfl (by intro u hu; rw [List.eq_of_mem_replicate hu]; rfl) (by rw [atSets_len]; simp only [maxLen, List.length_singleton]; omega) (by rw [atSets_len]; simp only [List.length_singleton]; omega) ?_
            intro v5 H5 ho5 ha5 hs5 hfr5
            rw [← atSets_more _ _ hlt'] at ho5
            have hf5 := hf4.agr ha5 (fun j hj => ⟨(hf4.lt hj).2, fun h => hap j h hj⟩) (fun _ f => f.elim)
            have hb5 : Blk H5 q4 112 (List.replicate 256 (.bool false)) := hb4.agr ha5 ⟨hb4.lt, fun h => by have := (ho.lt h).2; omega⟩
            (conv => whnf); refine vbuild1 sl33 [.int .i64 (b : Int)] rfl rfl (by decide) (by decide) ?_
            intro q6 H6 hq6 hs6 hb6 ha6
            have ho6 := ho5.agr ha6 (fun j hj => by have := (ho5.lt hj).2; omega) (fun _ f => f.elim)
            have hf6 := hf5.agr ha6 (fun j hj => by have := (hf5.lt hj).2; omega) (fun _ f => f.elim)
            (conv => whnf); refine vappendO (T := tI) (S := fun _ => False) (ys := [(b : Int)]) (ds := [.int .i64 (b : Int)]) (lo := H1.size) (xs := asI (gRun (simD D) b).1) sl33 hf6 (by omega) (fun j hj => hj.elim)
              (hb6.cells (fun j v hv => by simpa using hv)) (Ty.reps_one ⟨rfl, inI64 (by omega)⟩) rfl (by intro u hu; cases List.mem_singleton.1 hu; rfl) (by rw [asI_len]; simp only [maxLen, List.length_singleton]; omega) (by rw [asI_len]; simp only [List.length_singleton]; omega) ?_
            intro v7 H7 hf7 ha7 hs7 hfr7
            have hap5 : ∀ j, slB v5 j → ¬ slB (.slice fa (gRun (simD D) b).1.length fcap) j := fun j hj hj' => by
              rcases hfr5 j hj with h | h
              · exact hap j h hj'
              · have := (hf.lt hj').2; omega
            have ho7 := ho6.agr ha7 (fun j hj => ⟨(ho6.lt hj).2, hap5 j hj⟩) (fun _ f => f.elim)
            have hap7 : ∀ j, slB v5 j → ¬ slB v7 j := fun j hj hj' => by
              rcases hfr7 j hj' with h | h
              · exact hap5 j hj h
              · have := (ho6.lt hj).2; omega
            have hget7 : (atSets (gRun (simD D) b).2 ((gRun (simD D) b).1.length + 1))[(gRun (simD D) b).1.length]? = some (atSet (gRun (simD D) b).2 (gRun (simD D) b).1.length) := atSets_get (by omega)
            obtain ⟨vb, cap, l, e1, hlo, hblk, hlen, hput⟩ := SlO.byte ho7 hget7 (show b < 256 by omega)
            subst e1
            rw [atSets_len] at *
            have hnn : (gRun (simD D) b).1.length < (gRun (simD D) b).1.length + 1 := by omega
            (conv => whnf); refine ix slF_ (by omega) (by omega) ?_
            (conv => whnf); refine ixa ar112 (by omega) (by omega) ?_
            (conv => whnf); refine st1 ct4 hblk (by rw [show tF.size = 256 from rfl]; omega) rfl ?_
            intro H8 hb8 ha8 hs8
            rw [show 0 + (((gRun (simD D) b).1.length : Nat) : Int).toNat * tF.size + ((b : Nat) : Int).toNat * 1 = (gRun (simD D) b).1.length * 256 + b by rw [show tF.size = 256 from rfl]; omega] at hb8
            have ho8 := hput H8 hb8
            have hput2 := atSets_put (ps := (gRun (simD D) b).2) hnn
            rw [hok.plen] at hput2
            rw [hput2] at ho8
            have hf8 := hf7.agr ha8 (fun j hj => by rintro rfl; exact hap7 _ ⟨0, _, _, rfl⟩ hj) (fun _ f => f.elim)
            have hA8 : Agr (Old H1) H1 H8 := ((((ha2.trans (ha4.mono fun j hj => by have := old_lt ha2 hj; omega)).trans (ha5.mono fun j hj => ⟨by have := old_lt ha2 hj; omega, fun h => by have := (ho.lt h).1; unfold Old at hj; omega⟩)).trans (ha6.mono fun j hj => by have := old_lt ha2 hj; omega)).trans (ha7.mono fun j hj => ⟨by have := old_lt ha2 hj; omega, fun h => by have := (hf.lt h).1; unfold Old at hj; omega⟩)).trans (ha8.mono fun j hj => by unfold Old at hj; omega)
            (conv => whnf); rw [w64 (x := (b : Int) + 1) (by omega) (by omega)]
            refine ⟨rfl, (b + 1, _, _), rfl, ⟨by simp only; omega, hA8, by omega, ?_, ?_, hap7⟩, by simp only; omega⟩
            · simp only [hnext, List.length_append, List.length_singleton]; exact ho8
            · simp only [hnext, asI, List.map_append, List.map_cons, List.map_nil]; exact hf8
          · replace h1' : 0 ≤ fdG (simD D) b (gRun (simD D) b).1 := by omega
            cases hfi : (gRun (simD D) b).1.findIdx? fun g => simD D b g with
            | none => exact absurd (fdG_none.2 hfi) (by omega)
            | some k0 =>
              have hk0 := (List.findIdx?_eq_some_iff_getElem.1 hfi).1
              have hfd : fdG (simD D) b (gRun (simD D) b).1 = (k0 : Int) := by unfold fdG; rw [hfi]
              rw [hfd]
              have hnext : gRun (simD D) (b + 1) = ((gRun (simD D) b).1, (gRun (simD D) b).2 ++ [k0]) := gRun_some hfi
              obtain ⟨vb, cap, l, e1, hlo, hblk, hlen, hput⟩ := SlO.byte ho (atSets_get hk0) (show b < 256 by omega)
              rw [atSets_len] at e1
              injection e1 with e2 e3 e4
              subst e2; subst e4
              (conv => whnf); refine VSeq.run ?_
              (conv => whnf); refine ix slF_ (by omega) (by omega) ?_
              (conv => whnf); refine ixa ar112 (by omega) (by omega) ?_
              (conv => whnf); refine st1 ct4 hblk (by rw [show tF.size = 256 from rfl]; omega) rfl ?_
              intro H6 hb6 ha6 hs6
              rw [show 0 + ((k0 : Nat) : Int).toNat * tF.size + ((b : Nat) : Int).toNat * 1 = k0 * 256 + b by rw [show tF.size = 256 from rfl]; omega] at hb6
              have ho6 := hput H6 hb6
              have hput2 := atSets_put (ps := (gRun (simD D) b).2) hk0
              rw [hok.plen] at hput2
              rw [hput2] at ho6
              have hf6 := hf.agr ha6 (fun j hj => by rintro rfl; exact hap _ ⟨0, _, _, rfl⟩ hj) (fun _ f => f.elim)
              (conv => whnf); rw [w64 (x := (b : Int) + 1) (by omega) (by omega)]
              refine ⟨rfl, (b + 1, .slice (some ⟨vb, 0, none⟩) (gRun (simD D) b).1.length ocap, .slice fa (gRun (simD D) b).1.length fcap), by simp, ⟨by simp only; omega, ha2.trans (ha6.mono fun j hj => by unfold Old at hj; omega), by omega, ?_, ?_, hap⟩, by simp only; omega⟩
              · simp only [hnext]; exact ho6
              · simp only [hnext]; exact hf6
    · obtain rfl : b = 256 := by omega
      obtain ⟨oa2, ocap2, e2, hov2, -⟩ := ho.view (S' := Fresh H H2) (fun j hj => ⟨by have := (ho.lt hj).1; omega, (ho.lt hj).2⟩) (fun _ f => f.elim)
      rw [atSets_len] at e2
      injection e2 with e3 e4 e5
      subst e3; subst e5
      (conv => whnf)
      exact ⟨hA2, by omega, _, _, rfl, ho.lower (by omega)⟩
end Go.Proofs.YthomdogheamfpaaDoor
/- The program's automaton and the document's, side by side. -/
set_option linter.unusedVariables false
set_option linter.unusedSimpArgs false
set_option maxRecDepth 100000
namespace Go.Proofs.YthomdogheamfpaaDoor
open Go.VC
attribute [local irreducible] mRun atRun

/-- The program's automaton and the document's are alike. -/
structure Both (o : Option AM) (D : DM) : Prop where
  ok : D.Ok
  n : stN o = D.next.length
  step : ∀ (q : Int) (b : Nat), b < 256 → stepM o q b = stepD D q b
  fin : ∀ q : Int, finM o q = finD D q
  alive : ∀ q : Int, aliveM o q = aliveD D q
theorem both_of (cells : List (BitVec 256)) (next : List (List Int)) (final : List Bool) : Both (autoOf cells next final) (dfaOf cells next final) :=
  ⟨dfaOf_ok _ _ _, both_n _ _ _, fun q b hb => both_step _ _ _ q hb, both_final _ _ _, both_alive _ _ _⟩
section
variable {o : Option AM} {D : DM}
end
end Go.Proofs.YthomdogheamfpaaDoor
/- The document's side of layer 9: the bytes that stand for all, the game's rules. -/
set_option linter.unusedVariables false
set_option linter.unusedSimpArgs false
set_option maxRecDepth 100000
namespace Go.Proofs.YthomdogheamfpaaDoor
open Go.VC
attribute [local irreducible] mRun gRun atRun

/-! ### cells as sets of bits -/
def bvF (f : Nat → Bool) : Nat → BitVec 256
  | 0 => 0#256
  | n + 1 => if f n then bvF f n ||| spanS n n else bvF f n
theorem bvF_bit (f : Nat → Bool) {b : Nat} (hb : b < 256) : ∀ n, (bvF f n).getLsbD b = (decide (b < n) && f b)
  | 0 => by simp [bvF]
  | n + 1 => by
    have ih := bvF_bit f hb n
    unfold bvF
    split
    · rename_i hf
      rw [BitVec.getLsbD_or, ih, spanS_bit n n b hb]
      by_cases h : b = n
      · subst h; simp [hf]
      · have h1 : decide (b < n + 1) = decide (b < n) := by rw [decide_eq_decide]; omega
        have h2 : (decide (n ≤ b) && decide (b ≤ n)) = false := by simp; omega
        rw [h1, h2, Bool.or_false]
    · rename_i hf
      rw [ih]
      by_cases h : b = n
      · subst h; simp [hf]
      · have h1 : decide (b < n + 1) = decide (b < n) := by rw [decide_eq_decide]; omega
        rw [h1]
def bvN (f : Nat → Bool) : BitVec 256 := bvF f 256
theorem bvN_bit (f : Nat → Bool) {b : Nat} (hb : b < 256) : (bvN f).getLsbD b = f b := by
  unfold bvN
  rw [bvF_bit f hb, decide_eq_true hb, Bool.true_and]
theorem funL_bits (f : Nat → Bool) : funL f = bitsL (bvN f) := by
  unfold funL bitsL bitsTo
  refine List.map_congr_left fun b hb => ?_
  have hb := List.mem_range.1 hb
  rw [bvN_bit f hb, decide_eq_true hb, Bool.true_and]
theorem reps_bits {S : Nat → Prop} {H : Heap} : ∀ {cs : List Value} {fs : List (Nat → Bool)}, tF.reps S H cs fs → tB.reps S H cs (fs.map bvN)
  | _, [], h => h
  | _, f :: fs, ⟨c, r, e, hc, hr⟩ => ⟨c, r, e, (show c = bitsL (bvN f) by rw [← funL_bits]; exact hc), reps_bits hr⟩
def cellsD (D : DM) : List (BitVec 256) := (atSets (gRun (simD D) 256).2 (gRun (simD D) 256).1.length).map bvN
theorem refcellsB {S : Nat → Prop} {H : Heap} {v : Value} {D : DM} (hS : ∀ k, S k → k < H.size) (hw : DfaV S H v D) (hdok : D.Ok) :
    FnOk Tryd.prog 57 #[v] H fun v H' => Agr (Old H) H H' ∧ SlO tB none_ H' H.size 112 v (cellsD D) := by
  refine (refcells_o hS hw hdok).mono ?_
  rintro v' H' ⟨h1, h2, a, cap, rfl, cs, h3, h4⟩
  refine ⟨h1, cs, ?_, reps_bits h4⟩
  unfold cellsD
  rw [List.length_map]
  exact h3
theorem cellsD_len (D : DM) : 0 < (cellsD D).length ∧ (cellsD D).length ≤ 256 := by
  have hg := gRun_ok (simD_refl D) 256
  unfold cellsD
  rw [List.length_map, atSets_len]
  have h0 : (gRun (simD D) 256).2.length = 256 := hg.plen
  obtain ⟨p, hp⟩ := get_some (l := (gRun (simD D) 256).2) (k := 0) (by omega)
  have := hg.lt p (List.mem_of_getElem? hp)
  exact ⟨by omega, hg.flen⟩
theorem atRun_up (cells : List (BitVec 256)) : ∀ b, (atRun cells b).1.Pairwise (· < ·)
  | 0 => by rw [atRun]; exact List.Pairwise.nil
  | b + 1 => by
    have ih := atRun_up cells b
    cases hf : (atRun cells b).1.findIdx? (fun g => sigEq cells b g) with
    | some k => rw [atRun_some hf]; exact ih
    | none =>
      rw [atRun_none hf]
      refine List.pairwise_append.2 ⟨ih, List.pairwise_singleton _ _, fun a ha c hc => ?_⟩
      rw [List.mem_singleton] at hc
      subst hc
      obtain ⟨k, hk⟩ := List.getElem?_of_mem ha
      exact ((atRun_ok cells c).first k a hk).1
end Go.Proofs.YthomdogheamfpaaDoor
/- Automata of the document in memory, parted bytes; two states of memory one behind the other. -/
set_option linter.unusedVariables false
set_option linter.unusedSimpArgs false
set_option maxRecDepth 100000
namespace Go.VC
/-- What was made later stands beside what was there. -/
theorem StB.cat {B : Nat → Prop} {H0 H H' : Heap} {ps qs : List Pc} (st : StB B H0 H ps) (st2 : St H H' qs) : StB B H0 H' (ps ++ qs) := by
  have h1 := st.call st2.old
  refine ⟨h1.old, h1.lt0, h1.size, fun p hp => ?_, fun p hp k hk => ?_, ?_⟩
  · rcases List.mem_append.1 hp with hp | hp
    · exact h1.oks p hp
    · exact st2.oks p hp
  · rcases List.mem_append.1 hp with hp | hp
    · exact h1.rng p hp k hk
    · obtain ⟨h2, h3⟩ := st2.rng p hp k hk
      exact ⟨fun hB => h2 (st.up hB), h3⟩
  · refine List.pairwise_append.2 ⟨h1.dis, st2.dis, fun p hp q hq k hk hk' => ?_⟩
    exact (st2.rng q hq k hk').1 (st.rng p hp k hk).2
end Go.VC
namespace Go.Proofs.YthomdogheamfpaaDoor
open Go.VC
attribute [local irreducible] mRun gRun atRun
theorem fin_ix {S S0 : Nat → Prop} {H : Heap} {fa : Option Addr} {fc : Nat} {D : DM} {x : Int} {K : Value → Prop} (h : SlD tBool S H fa fc D.final) (h0 : 0 ≤ x) (h1 : x < D.final.length) (hk : ∀ b o, S b → VC.cell H b o = some (.bool (finD D x)) → K (.pointer (some ⟨b, o, none⟩))) :
    VDet Tryd.prog (Instr.indexAt 24 (.slice fa D.final.length fc) (.int .i64 x)) S0 H K := by
  obtain ⟨n, rfl⟩ := Int.eq_ofNat_of_zero_le h0
  obtain ⟨f, hf⟩ := get_some (l := D.final) (k := n) (by omega)
  refine ixr (i := n) sl24 h hf rfl ?_
  rintro b o cs hS hc rfl
  refine hk b o hS ?_
  rw [hc.one]
  simp [finD, hf]
theorem splice_whole {l cs : List Value} (h : l.length = cs.length) : splice l 0 cs = cs := by
  apply List.ext_getElem?
  intro j
  by_cases hj : j < cs.length
  · rw [splice_get (by omega), if_pos ⟨Nat.zero_le _, by omega⟩, Nat.sub_zero]
  · rw [List.getElem?_eq_none (by rw [splice_length (by omega)]; omega), List.getElem?_eq_none (by omega)]
end Go.Proofs.YthomdogheamfpaaDoor
/- The document's Determinize: the walk. -/
set_option linter.unusedVariables false
set_option linter.unusedSimpArgs false
set_option maxRecDepth 100000
namespace Go.Proofs.YthomdogheamfpaaDoor
open Go.VC
attribute [local irreducible] mRun gRun atRun
abbrev zD : List Value := dfaL (List.replicate 256 0) (.slice none 0 0) (.slice none 0 0) (.slice none 0 0)
end Go.Proofs.YthomdogheamfpaaDoor
/- The least bytes of the atoms are the same on both sides: the plain law. -/
set_option linter.unusedVariables false
set_option linter.unusedSimpArgs false
set_option maxRecDepth 100000
namespace Go.Proofs.YthomdogheamfpaaDoor
open Go.VC
def leastB (cells : List (BitVec 256)) (g : Nat) : Bool := (List.range g).all fun h => !sigEq cells g h
theorem sigEq_iff {cells : List (BitVec 256)} {a b : Nat} : sigEq cells a b = true ↔ ∀ c ∈ cells, c.getLsbD a = c.getLsbD b := by
  unfold sigEq
  simp
theorem leastB_iff {cells : List (BitVec 256)} {g : Nat} : leastB cells g = true ↔ ∀ h, h < g → sigEq cells g h = false := by
  unfold leastB
  simp
theorem exists_least {cells : List (BitVec 256)} {b : Nat} : ∀ h, sigEq cells b h = true → ∃ g, g ≤ h ∧ sigEq cells b g = true ∧ leastB cells g = true := by
  intro h
  induction h using Nat.strongRecOn with
  | _ h ih =>
    intro hb
    by_cases hl : leastB cells h = true
    · exact ⟨h, Nat.le_refl _, hb, hl⟩
    · have : ∃ h', h' < h ∧ sigEq cells h h' = true := by
        apply Classical.byContradiction
        intro hno
        apply hl
        rw [leastB_iff]
        intro h' hh'
        cases hs : sigEq cells h h' with
        | false => rfl
        | true => exact absurd ⟨h', hh', hs⟩ hno
      obtain ⟨h', hlt, hs⟩ := this
      obtain ⟨g, g1, g2, g3⟩ := ih h' hlt (sigEq_iff.2 fun c hc => (sigEq_iff.1 hb c hc).trans (sigEq_iff.1 hs c hc))
      exact ⟨g, by omega, g2, g3⟩
theorem atRun_filter (cells : List (BitVec 256)) : ∀ b, (atRun cells b).1 = (List.range b).filter (leastB cells)
  | 0 => rfl
  | b + 1 => by
    have ih := atRun_filter cells b
    rw [List.range_succ, List.filter_append]
    cases hf : (atRun cells b).1.findIdx? fun g => sigEq cells b g with
    | some k =>
      rw [atRun_some hf]
      obtain ⟨hk, h1, -⟩ := List.findIdx?_eq_some_iff_getElem.1 hf
      have hm : (atRun cells b).1[k] ∈ (List.range b).filter (leastB cells) := by rw [← ih]; exact List.getElem_mem hk
      have hlt := List.mem_range.1 (List.mem_filter.1 hm).1
      have : leastB cells b = false := by
        cases hl : leastB cells b with
        | false => rfl
        | true => rw [leastB_iff.1 hl _ hlt] at h1; cases h1
      rw [List.filter_cons_of_neg (by rw [this]; decide)]
      simpa using ih
    | none =>
      rw [atRun_none hf]
      have : leastB cells b = true := by
        rw [leastB_iff]
        intro h hh
        cases hs : sigEq cells b h with
        | false => rfl
        | true =>
          obtain ⟨g, g1, g2, g3⟩ := exists_least h hs
          have hm : g ∈ (atRun cells b).1 := by rw [ih]; exact List.mem_filter.2 ⟨List.mem_range.2 (by omega), g3⟩
          have := List.findIdx?_eq_none_iff.1 hf g hm
          rw [g2] at this
          cases this
      rw [List.filter_cons_of_pos this, ih]
      rfl
/-! ### the blocks -/
def Apart_ (x y : BitVec 256) : Prop := ∀ c, x.getLsbD c = true → y.getLsbD c = false
theorem cut_mem {s b x : BitVec 256} (h : x ∈ cutB s b) : x = b &&& s ∨ x = b &&& ~~~s := by
  have := (List.mem_filter.1 h).1
  simpa using this
theorem blocks_apart (sets : List (BitVec 256)) : (blocksM sets).Pairwise Apart_ := by
  have key : ∀ (rest bl : List (BitVec 256)), bl.Pairwise Apart_ → (rest.foldl partB bl).Pairwise Apart_ := by
    intro rest
    induction rest with
    | nil => exact fun bl h => h
    | cons s rest ih =>
      intro bl h
      refine ih _ ?_
      unfold partB
      rw [List.pairwise_flatMap]
      refine ⟨fun b hb => ?_, h.imp fun {x y} hxy u hu v hv c hc => ?_⟩
      · refine List.Pairwise.filter _ ?_
        refine List.pairwise_cons.2 ⟨fun y hy c hc => ?_, List.pairwise_singleton _ _⟩
        rw [List.mem_singleton] at hy
        subst hy
        rw [BitVec.getLsbD_and, Bool.and_eq_true] at hc
        rw [BitVec.getLsbD_and, BitVec.getLsbD_not, hc.2]
        simp
      · have h1 : x.getLsbD c = true := by
          rcases cut_mem hu with rfl | rfl <;> · rw [BitVec.getLsbD_and, Bool.and_eq_true] at hc; exact hc.1
        have h2 := hxy c h1
        rcases cut_mem hv with rfl | rfl <;> rw [BitVec.getLsbD_and, h2, Bool.false_and]
  exact key sets _ (List.pairwise_singleton _ _)
theorem blocks_sep (sets : List (BitVec 256)) : ∀ x ∈ blocksM sets, ∀ c d, c < 256 → d < 256 → (∀ s ∈ sets, s.getLsbD c = s.getLsbD d) → x.getLsbD c = x.getLsbD d := by
  have key : ∀ (rest bl : List (BitVec 256)) (c d : Nat), c < 256 → d < 256 → (∀ x ∈ bl, x.getLsbD c = x.getLsbD d) → (∀ s ∈ rest, s.getLsbD c = s.getLsbD d) → ∀ x ∈ rest.foldl partB bl, x.getLsbD c = x.getLsbD d := by
    intro rest
    induction rest with
    | nil => exact fun bl c d _ _ h _ => h
    | cons s rest ih =>
      intro bl c d hc hd h hr
      refine ih _ c d hc hd (fun x hx => ?_) fun s' hs' => hr s' (List.mem_cons_of_mem _ hs')
      obtain ⟨b, hb, hx⟩ := List.mem_flatMap.1 hx
      have h1 := h b hb
      have h2 := hr s (List.mem_cons_self ..)
      rcases cut_mem hx with rfl | rfl
      · rw [BitVec.getLsbD_and, BitVec.getLsbD_and, h1, h2]
      · rw [BitVec.getLsbD_and, BitVec.getLsbD_and, BitVec.getLsbD_not, BitVec.getLsbD_not, h1, h2]
        simp [hc, hd]
  intro x hx c d hc hd hs
  refine key sets _ c d hc hd (fun x hx => ?_) hs x hx
  rw [List.mem_singleton] at hx
  subst hx
  rw [BitVec.getLsbD_allOnes, BitVec.getLsbD_allOnes]
  simp [hc, hd]
theorem one_of {l : List (BitVec 256)} {b : Nat} (h : l.Pairwise Apart_) (hne : ∀ x ∈ l, x.getLsbD b = true) (hx : l ≠ []) : ∃ x, l = [x] := by
  match l, hx with
  | [x], _ => exact ⟨x, rfl⟩
  | x :: y :: r, _ =>
    have h1 := (List.pairwise_cons.1 h).1 y (by simp) b (hne x (by simp))
    rw [hne y (by simp)] at h1
    cases h1
theorem repsM_filter (sets : List (BitVec 256)) : repsM sets = (List.range 256).filter (leastB sets) := by
  have hok := part_ok sets
  have hone : ∀ b, b < 256 → (atomsAt (blocksM sets) b).map (fun c => (nextM c 0).1) = if leastB sets b then [b] else [] := by
    intro b hb
    have hall : ∀ x ∈ atomsAt (blocksM sets) b, x ∈ blocksM sets ∧ (nextM x 0).1 = b ∧ x.getLsbD b = true := fun x hx => by
      obtain ⟨h1, h2⟩ := List.mem_filter.1 hx
      have h3 : (nextM x 0).1 = b := by simpa using h2
      have h4 := (least_of (hok.ne x h1)).1
      rw [h3] at h4
      exact ⟨h1, h3, h4⟩
    cases hl : leastB sets b with
    | false =>
      rw [if_neg (by decide)]
      have : atomsAt (blocksM sets) b = [] := by
        apply Classical.byContradiction
        intro hne
        obtain ⟨x, hx⟩ := List.exists_mem_of_ne_nil _ hne
        obtain ⟨h1, h2, h3⟩ := hall x hx
        have : ∃ h, h < b ∧ sigEq sets b h = true := by
          apply Classical.byContradiction
          intro hno
          have : leastB sets b = true := leastB_iff.2 fun h hh => by
            cases hs : sigEq sets b h with
            | false => rfl
            | true => exact absurd ⟨h, hh, hs⟩ hno
          rw [hl] at this; cases this
        obtain ⟨h, hh, hs⟩ := this
        have h4 := blocks_sep sets x h1 b h hb (by omega) (sigEq_iff.1 hs)
        rw [h3] at h4
        have h5 := (least_of (hok.ne x h1)).2 h (by rw [h2]; exact hh)
        rw [h5] at h4; cases h4
      rw [this]; rfl
    | true =>
      rw [if_pos rfl]
      obtain ⟨x, hx, hxb⟩ := hok.all b hb
      obtain ⟨l1, l2⟩ := least_of (hok.ne x hx)
      have hle : (nextM x 0).1 = b := by
        apply Classical.byContradiction
        intro hne
        have hlt : (nextM x 0).1 < b := by
          rcases Nat.lt_or_ge b (nextM x 0).1 with h | h
          · rw [l2 b h] at hxb; cases hxb
          · omega
        have hs := hok.same x hx b _ hxb l1
        have := leastB_iff.1 hl _ hlt
        rw [sigEq_iff.2 hs] at this; cases this
      have hmem : x ∈ atomsAt (blocksM sets) b := List.mem_filter.2 ⟨hx, by rw [hle]; simp⟩
      obtain ⟨y, hy⟩ := one_of (l := atomsAt (blocksM sets) b) (b := b) ((blocks_apart sets).filter _) (fun z hz => (hall z hz).2.2) (List.ne_nil_of_mem hmem)
      rw [hy]
      have := (hall y (by rw [hy]; simp)).2.1
      simp only [List.map_cons, List.map_nil, this]
  unfold repsM atomsM
  rw [List.map_flatMap]
  have key : ∀ l : List Nat, (∀ b ∈ l, b < 256) → (l.flatMap fun b => (atomsAt (blocksM sets) b).map fun c => (nextM c 0).1) = l.filter (leastB sets) := by
    intro l
    induction l with
    | nil => exact fun _ => rfl
    | cons b l ih =>
      intro h
      rw [List.flatMap_cons, hone b (h b (List.mem_cons_self ..)), ih fun x hx => h x (List.mem_cons_of_mem _ hx)]
      cases hl : leastB sets b with
      | true => rw [List.filter_cons_of_pos hl]; rfl
      | false => rw [List.filter_cons_of_neg (by rw [hl]; decide)]; rfl
  exact key _ fun b hb => List.mem_range.1 hb
theorem leastB_ext {s t : List (BitVec 256)} (h : ∀ x, x ∈ s ↔ x ∈ t) : leastB s = leastB t := by
  funext g
  rw [Bool.eq_iff_iff, leastB_iff, leastB_iff]
  have hs : ∀ a b, sigEq s a b = sigEq t a b := fun a b => by
    rw [Bool.eq_iff_iff, sigEq_iff, sigEq_iff]
    exact ⟨fun k c hc => k c ((h c).2 hc), fun k c hc => k c ((h c).1 hc)⟩
  constructor <;> intro k j hj
  · rw [← hs]; exact k j hj
  · rw [hs]; exact k j hj
/-- The same bytes on both sides. -/
theorem reps_same {s t : List (BitVec 256)} (h : ∀ x, x ∈ s ↔ x ∈ t) : repsM s = (atRun t 256).1 := by
  rw [repsM_filter, atRun_filter, leastB_ext h]
end Go.Proofs.YthomdogheamfpaaDoor
/- Making automata deterministic: the plain law: the walk over all bytes, and over one byte of each atom, find the same sets. -/
set_option linter.unusedVariables false
set_option linter.unusedSimpArgs false
set_option maxRecDepth 100000
namespace Go.Proofs.YthomdogheamfpaaDoor
open Go.VC
attribute [local irreducible] mRun gRun atRun
section
variable {K : Type} [DecidableEq K] {most : Nat} {step : K → Nat → K} {start : K} {P : K → Prop} {x : K}
theorem rowF_fst (s : Option (List K × List Nat)) (b : Nat) : (rowF most step x s b).map Prod.fst = (s.map Prod.fst).bind fun f => (atF most f (step x b)).map Prod.fst := by
  cases s with
  | none => rfl
  | some p =>
    simp only [rowF, Option.bind_some, Option.map_some]
    cases atF most p.1 (step x b) <;> rfl
theorem atF_old {f : List K} {k : K} {i : Nat} (hn : f.Nodup) (h : f[i]? = some k) : atF most f k = some (f, i) := by
  unfold atF
  have : f.findIdx? (· = k) = some i := by
    rw [List.findIdx?_eq_some_iff_getElem]
    obtain ⟨hi, e⟩ := List.getElem?_eq_some_iff.1 h
    refine ⟨hi, by simpa using e, fun j hj => ?_⟩
    have := (List.pairwise_iff_getElem.1 hn) j i (by omega) hi hj
    rw [e] at this
    simpa using this
  rw [this]
theorem atF_mem2 {F F' : List K} {k : K} {i : Nat} (h : atF most F k = some (F', i)) : ∀ y ∈ F', y ∈ F ∨ y = k := by
  intro y hx
  unfold atF at h
  split at h
  · injection h with h; injection h with h1 h2; subst h1; exact .inl hx
  · split at h
    · injection h with h; injection h with h1 h2; subst h1
      rcases List.mem_append.1 hx with hx | hx
      · exact .inl hx
      · rw [List.mem_singleton] at hx; exact .inr hx
    · cases h
theorem row_P (hs : ∀ b, P (step x b)) : ∀ (l : List Nat) (f f' : List K) (r r' : List Nat), l.foldl (rowF most step x) (some (f, r)) = some (f', r') → (∀ y ∈ f, P y) → ∀ y ∈ f', P y
  | [], f, f', r, r', h, hf => by
    simp only [List.foldl_nil, Option.some.injEq, Prod.mk.injEq] at h
    obtain ⟨rfl, -⟩ := h
    exact hf
  | b :: l, f, f', r, r', h, hf => by
    rw [List.foldl_cons] at h
    simp only [rowF, Option.bind_some] at h
    cases ha : atF most f (step x b) with
    | none => rw [ha] at h; rw [Option.map_none, rowF_none] at h; cases h
    | some p =>
      rw [ha] at h
      refine row_P hs l p.1 f' _ r' h fun y hy => ?_
      rcases atF_mem2 (i := p.2) ha y hy with h1 | rfl
      · exact hf y h1
      · exact hs b
theorem row_pre : ∀ (l : List Nat) (f f' : List K) (r r' : List Nat), l.foldl (rowF most step x) (some (f, r)) = some (f', r') → f.length ≤ most → f.Nodup → f'.length ≤ most ∧ f'.Nodup ∧ f <+: f' ∧ ∃ r2, r' = r ++ r2
  | [], f, f', r, r', h, h1, h2 => by
    simp only [List.foldl_nil, Option.some.injEq, Prod.mk.injEq] at h
    obtain ⟨rfl, rfl⟩ := h
    exact ⟨h1, h2, List.prefix_refl _, [], by simp⟩
  | b :: l, f, f', r, r', h, h1, h2 => by
    rw [List.foldl_cons] at h
    simp only [rowF, Option.bind_some] at h
    cases ha : atF most f (step x b) with
    | none => rw [ha] at h; rw [Option.map_none, rowF_none] at h; cases h
    | some p =>
      rw [ha] at h
      obtain ⟨-, g1, g2, g3⟩ := atF_some (i := p.2) ha h1 h2
      obtain ⟨k1, k2, k3, r2, k4⟩ := row_pre l p.1 f' _ r' h g1 g2
      exact ⟨k1, k2, g3.trans k3, p.2 :: r2, by rw [k4]; simp⟩
/-- What holds of all that has been found. -/
theorem rows_inv (hm : 1 ≤ most) (h0 : P start) (hs : ∀ y b, P y → P (step y b)) (bs : List Nat) : ∀ (n : Nat) (f : List K) (rows : List (List Nat)), rowsF most step bs start n = some (f, rows) → f.length ≤ most ∧ f.Nodup ∧ f[0]? = some start ∧ ∀ y ∈ f, P y
  | 0, f, rows, h => by
    simp only [rowsF, Option.some.injEq, Prod.mk.injEq] at h
    obtain ⟨rfl, -⟩ := h
    exact ⟨hm, by simp, rfl, fun y hy => by rw [List.mem_singleton] at hy; subst hy; exact h0⟩
  | n + 1, f, rows, h => by
    simp only [rowsF] at h
    cases hp : rowsF most step bs start n with
    | none => rw [hp] at h; cases h
    | some p =>
      obtain ⟨g1, g2, g3, g4⟩ := rows_inv hm h0 hs bs n p.1 p.2 hp
      rw [hp] at h
      simp only [Option.bind_some] at h
      cases hx : p.1[n]? with
      | none =>
        rw [hx] at h
        simp only [Option.some.injEq] at h
        subst h
        exact ⟨g1, g2, g3, g4⟩
      | some x =>
        rw [hx] at h
        simp only at h
        cases hr : bs.foldl (rowF most step x) (some (p.1, [])) with
        | none => rw [hr] at h; cases h
        | some r =>
          rw [hr] at h
          simp only [Option.map_some, Option.some.injEq, Prod.mk.injEq] at h
          obtain ⟨rfl, -⟩ := h
          obtain ⟨k1, k2, k3, -⟩ := row_pre bs p.1 r.1 [] r.2 hr g1 g2
          exact ⟨k1, k2, pre_get k3 g3, row_P (fun b => hs x b (g4 x (List.mem_of_getElem? hx))) bs p.1 r.1 [] r.2 hr g4⟩
/-- Each byte that is left out leads as one ahead of it. -/
def CovP (P : K → Prop) (step : K → Nat → K) (p : Nat → Bool) : Prop := ∀ b, b < 256 → p b = false → ∃ g, g < b ∧ p g = true ∧ ∀ x, P x → step x g = step x b
theorem row_canon {p : Nat → Bool} (hc : CovP P step p) (hx : P x) {f : List K} (h1 : f.length ≤ most) (h2 : f.Nodup) : ∀ m, m ≤ 256 →
    ((List.range m).foldl (rowF most step x) (some (f, []))).map Prod.fst = (((List.range m).filter p).foldl (rowF most step x) (some (f, []))).map Prod.fst := by
  intro m
  induction m with
  | zero => intro _; rfl
  | succ m ih =>
    intro hm
    have ih := ih (by omega)
    rw [List.range_succ, List.filter_append, List.foldl_append, List.foldl_append, List.foldl_cons, List.foldl_nil, rowF_fst, ih]
    cases hp : p m with
    | true =>
      rw [List.filter_cons_of_pos hp, List.filter_nil, List.foldl_cons, List.foldl_nil, rowF_fst]
    | false =>
      rw [List.filter_cons_of_neg (by rw [hp]; decide), List.filter_nil, List.foldl_nil]
      cases hA : (List.range m).foldl (rowF most step x) (some (f, [])) with
      | none => rw [← ih, hA]; rfl
      | some q =>
        obtain ⟨f', r'⟩ := q
        obtain ⟨k1, k2, k3, k4, k5⟩ := foldRow_pre h1 h2 hA
        obtain ⟨g, hg, hpg, hs⟩ := hc m (by omega) hp
        rw [List.length_range] at k4
        obtain ⟨t, ht⟩ := get_some (l := r') (k := g) (by omega)
        have h5 := k5 g g t (List.getElem?_range hg) ht
        rw [hs x hx] at h5
        rw [← ih, hA]
        simp only [Option.map_some, Option.bind_some, atF_old k2 h5]
theorem rows_canon {p : Nat → Bool} (hc : CovP P step p) (hm : 1 ≤ most) (h0 : P start) (hs : ∀ y b, P y → P (step y b)) : ∀ n, (rowsF most step (List.range 256) start n).map Prod.fst = (rowsF most step ((List.range 256).filter p) start n).map Prod.fst
  | 0 => rfl
  | n + 1 => by
    have ih := rows_canon hc hm h0 hs n
    simp only [rowsF]
    cases hA : rowsF most step (List.range 256) start n with
    | none =>
      rw [hA] at ih
      cases hB : rowsF most step ((List.range 256).filter p) start n with
      | none => rfl
      | some q => rw [hB] at ih; cases ih
    | some q =>
      rw [hA] at ih
      cases hB : rowsF most step ((List.range 256).filter p) start n with
      | none => rw [hB] at ih; cases ih
      | some q' =>
        rw [hB] at ih
        simp only [Option.map_some, Option.some.injEq] at ih
        obtain ⟨f, rows⟩ := q
        obtain ⟨f', rows'⟩ := q'
        simp only at ih
        subst ih
        obtain ⟨g1, g2, g3, g4⟩ := rows_inv hm h0 hs _ n f rows hA
        simp only [Option.bind_some]
        cases hx : f[n]? with
        | none => rfl
        | some x =>
          have hr := row_canon hc (g4 x (List.mem_of_getElem? hx)) g1 g2 256 (Nat.le_refl _)
          cases hA2 : (List.range 256).foldl (rowF most step x) (some (f, [])) with
          | none =>
            rw [hA2] at hr
            cases hB2 : ((List.range 256).filter p).foldl (rowF most step x) (some (f, [])) with
            | none => simp only [hA2, hB2]; rfl
            | some r => rw [hB2] at hr; cases hr
          | some r =>
            rw [hA2] at hr
            cases hB2 : ((List.range 256).filter p).foldl (rowF most step x) (some (f, [])) with
            | none => rw [hB2] at hr; cases hr
            | some r' =>
              rw [hB2] at hr
              simp only [hA2, hB2]
              simpa using hr
/-- All sets, in the order in which a walk over all bytes finds them. -/
def detW (most : Nat) (step : K → Nat → K) (start : K) : Option (List K) := (detF most step (List.range 256) start).map Prod.fst
theorem detW_of {p : Nat → Bool} (hc : CovP P step p) (hm : 1 ≤ most) (h0 : P start) (hs : ∀ y b, P y → P (step y b)) : (detF most step ((List.range 256).filter p) start).map Prod.fst = detW most step start := (rows_canon hc hm h0 hs most).symm
theorem detW_len (hm : 1 ≤ most) {F : List K} (h : detW most step start = some F) : 1 ≤ F.length ∧ F.length ≤ most ∧ F.Nodup ∧ F[0]? = some start := by
  unfold detW at h
  cases hd : detF most step (List.range 256) start with
  | none => rw [hd] at h; cases h
  | some p =>
    rw [hd] at h
    simp only [Option.map_some, Option.some.injEq] at h
    subst h
    obtain ⟨g1, g2, g3, -⟩ := rows_inv (P := fun _ => True) hm trivial (fun _ _ _ => trivial) (List.range 256) most p.1 p.2 hd
    exact ⟨(List.getElem?_eq_some_iff.1 g3).1, g1, g2, g3⟩
end
/-! ### atoms as a table's cells -/
/-! ### both sides -/
/-- Steps lead from set to set. -/
structure Leads5 (a : NfM) (F : List (List Int)) (st : Int → Nat → Int) (fi : Int → Bool) : Prop where
  st : ∀ (q b : Nat) (x : List Int), F[q]? = some x → b < 256 → ∃ t : Nat, st (q : Int) b = (t : Int) ∧ F[t]? = some (stepA a x b)
  fi : ∀ (q : Nat) (x : List Int), F[q]? = some x → fi (q : Int) = decide (a.fin ∈ x)
end Go.Proofs.YthomdogheamfpaaDoor
/- Least automata: the plain law: rounds of telling apart; classes in the order in which they're found. -/
set_option linter.unusedVariables false
set_option linter.unusedSimpArgs false
set_option maxRecDepth 100000
namespace Go.Proofs.YthomdogheamfpaaDoor
open Go.VC
/-! ### lists without doubles -/
theorem snocInd {α : Type} {P : List α → Prop} (h0 : P []) (hs : ∀ (l : List α) (x : α), P l → P (l ++ [x])) (l : List α) : P l := by
  have key : ∀ m : List α, P m.reverse := fun m => by
    induction m with
    | nil => exact h0
    | cons x m ih => rw [List.reverse_cons]; exact hs _ x ih
  have := key l.reverse
  rwa [List.reverse_reverse] at this
section
variable {K : Type} [DecidableEq K]
def dd (l : List K) : List K := l.foldl (fun f k => if k ∈ f then f else f ++ [k]) []
theorem dd_snoc (l : List K) (k : K) : dd (l ++ [k]) = if k ∈ dd l then dd l else dd l ++ [k] := by
  unfold dd
  rw [List.foldl_append]
  rfl
theorem dd_nd (l : List K) : (dd l).Nodup := by
  induction l using snocInd with
  | h0 => exact List.nodup_nil
  | hs l k ih =>
    rw [dd_snoc]
    split
    · exact ih
    · rename_i h
      exact List.nodup_append.2 ⟨ih, by simp, fun x hx y hy e => by rw [List.mem_singleton] at hy; subst hy; subst e; exact h hx⟩
theorem dd_mem (l : List K) (k : K) : k ∈ dd l ↔ k ∈ l := by
  induction l using snocInd with
  | h0 => exact Iff.rfl
  | hs l x ih =>
    rw [dd_snoc, List.mem_append, List.mem_singleton, ← ih]
    split
    · rename_i h
      constructor
      · exact .inl
      · rintro (h1 | rfl)
        · exact h1
        · exact h
    · rw [List.mem_append, List.mem_singleton]
theorem dd_pre (l m : List K) : dd l <+: dd (l ++ m) := by
  induction m using snocInd with
  | h0 => rw [List.append_nil]; exact List.prefix_refl _
  | hs m k ih =>
    rw [← List.append_assoc, dd_snoc]
    split
    · exact ih
    · exact ih.trans (List.prefix_append _ _)
theorem dd_len (l : List K) : (dd l).length ≤ l.length := by
  induction l using snocInd with
  | h0 => exact Nat.le_refl _
  | hs l k ih =>
    rw [dd_snoc, List.length_append, List.length_singleton]
    split
    · omega
    · rw [List.length_append, List.length_singleton]; omega
/-- The place of a thing among those found. -/
def ixF (f : List K) (k : K) : Nat := f.findIdx (· = k)
theorem ixF_lt {f : List K} {k : K} (h : k ∈ f) : ixF f k < f.length := by
  unfold ixF
  exact List.findIdx_lt_length_of_exists ⟨k, h, by simp⟩
theorem ixF_get {f : List K} {k : K} (h : k ∈ f) : f[ixF f k]? = some k := by
  have hlt := ixF_lt h
  rw [List.getElem?_eq_getElem hlt]
  have : decide (f[ixF f k] = k) = true := List.findIdx_getElem (p := fun x => decide (x = k)) (xs := f) (w := hlt)
  rw [of_decide_eq_true this]
theorem ixF_inj {f : List K} {k m : K} (hk : k ∈ f) (hm : m ∈ f) (h : ixF f k = ixF f m) : k = m := by
  have h1 := ixF_get hk
  have h2 := ixF_get hm
  rw [h, h2] at h1
  exact (Option.some.inj h1).symm
theorem ixF_pre {f g : List K} {k : K} (h : f <+: g) (hk : k ∈ f) : ixF g k = ixF f k := by
  obtain ⟨t, rfl⟩ := h
  unfold ixF
  rw [List.findIdx_append]
  have := ixF_lt hk
  unfold ixF at this
  rw [if_pos this]
theorem ixF_at {f : List K} (hn : f.Nodup) {i : Nat} {k : K} (h : f[i]? = some k) : ixF f k = i := by
  have hm := List.mem_of_getElem? h
  have h1 := ixF_get hm
  obtain ⟨a1, e1⟩ := List.getElem?_eq_some_iff.1 h
  obtain ⟨a2, e2⟩ := List.getElem?_eq_some_iff.1 h1
  rcases Nat.lt_trichotomy (ixF f k) i with h | h | h
  · exact absurd (e2.trans e1.symm) (List.pairwise_iff_getElem.1 hn _ _ a2 a1 h)
  · exact h
  · exact absurd (e1.trans e2.symm) (List.pairwise_iff_getElem.1 hn _ _ a1 a2 h)
theorem ixF_new {f : List K} {k : K} (h : k ∉ f) : ixF (f ++ [k]) k = f.length := by
  unfold ixF
  have e1 : f.findIdx (fun x => decide (x = k)) = f.length := List.findIdx_eq_length_of_false fun x hx => decide_eq_false fun e => h (by rw [← e]; exact hx)
  rw [List.findIdx_append, e1]
  simp
end
/-! ### rounds -/
/-- An automaton, plain. -/
structure PA where
  n : Nat
  st : Nat → Nat → Nat
  fi : Nat → Bool
structure PA.Ok (M : PA) : Prop where
  pos : 0 < M.n
  cl : ∀ q b, q < M.n → b < 256 → M.st q b < M.n
def PA.run (M : PA) (q : Nat) (w : List Nat) : Nat := w.foldl M.st q
def bytes5 (w : List Nat) : Prop := ∀ b ∈ w, b < 256
/-- No word tells them apart. -/
def PA.Eqv (M : PA) (p q : Nat) : Prop := ∀ w, bytes5 w → M.fi (M.run p w) = M.fi (M.run q w)
theorem PA.Eqv.fi {M : PA} {p q : Nat} (h : M.Eqv p q) : M.fi p = M.fi q := h [] (fun b hb => by cases hb)
theorem PA.Eqv.st {M : PA} {p q b : Nat} (h : M.Eqv p q) (hb : b < 256) : M.Eqv (M.st p b) (M.st q b) := fun w hw => h (b :: w) fun x hx => by
  rcases List.mem_cons.1 hx with rfl | hx
  · exact hb
  · exact hw x hx
/-- Some bytes that stand for all. -/
structure Reps (M : PA) (by_ : List Nat) : Prop where
  lt : ∀ b ∈ by_, b < 256
  cov : ∀ b, b < 256 → ∃ g ∈ by_, g ≤ b ∧ ∀ q, q < M.n → M.st q g = M.st q b
/-- A list of states that steps don't leave. -/
structure Closed (M : PA) (l : List Nat) : Prop where
  lt : ∀ q ∈ l, q < M.n
  st : ∀ q ∈ l, ∀ b, b < 256 → M.st q b ∈ l
section
variable {M : PA} {by_ l : List Nat} {P : Nat → Nat}
def keyR (M : PA) (by_ : List Nat) (P : Nat → Nat) (q : Nat) : List Nat := P q :: by_.map fun b => P (M.st q b)
def found (M : PA) (by_ l : List Nat) (P : Nat → Nat) : List (List Nat) := dd (l.map (keyR M by_ P))
def refine_ (M : PA) (by_ l : List Nat) (P : Nat → Nat) (q : Nat) : Nat := ixF (found M by_ l P) (keyR M by_ P q)
theorem refine_iff {p q : Nat} (hp : p ∈ l) (hq : q ∈ l) : refine_ M by_ l P p = refine_ M by_ l P q ↔ P p = P q ∧ ∀ b ∈ by_, P (M.st p b) = P (M.st q b) := by
  have m1 : keyR M by_ P p ∈ found M by_ l P := (dd_mem _ _).2 (List.mem_map.2 ⟨p, hp, rfl⟩)
  have m2 : keyR M by_ P q ∈ found M by_ l P := (dd_mem _ _).2 (List.mem_map.2 ⟨q, hq, rfl⟩)
  constructor
  · intro h
    have e := ixF_inj m1 m2 h
    unfold keyR at e
    simp only [List.cons.injEq] at e
    exact ⟨e.1, fun b hb => by
      have := List.map_inj_left.1 e.2 b hb
      exact this⟩
  · rintro ⟨h1, h2⟩
    have e : keyR M by_ P p = keyR M by_ P q := by
      unfold keyR
      rw [h1, List.map_congr_left h2]
    unfold refine_
    rw [e]
theorem refine_lt {q : Nat} (hq : q ∈ l) : refine_ M by_ l P q < (found M by_ l P).length := ixF_lt ((dd_mem _ _).2 (List.mem_map.2 ⟨q, hq, rfl⟩))
/-- How many classes there are. -/
def cls (l : List Nat) (P : Nat → Nat) : Nat := (dd (l.map P)).length
theorem sub_len {K : Type} [DecidableEq K] {a b : List K} (ha : a.Nodup) (h : ∀ x ∈ a, x ∈ b) : a.length ≤ b.length := by
  induction a generalizing b with
  | nil => exact Nat.zero_le _
  | cons x a ih =>
    obtain ⟨h1, h2⟩ := List.nodup_cons.1 ha
    have hx := h x (by simp)
    have := ih (b := b.erase x) h2 fun y hy => (List.mem_erase_of_ne (fun e => h1 (by rw [← e]; exact hy))).2 (h y (List.mem_cons_of_mem _ hy))
    rw [List.length_erase_of_mem hx] at this
    have := List.length_pos_of_mem hx
    simp only [List.length_cons]; omega
theorem refine_cls : cls l (refine_ M by_ l P) = (found M by_ l P).length := by
  unfold cls
  have h1 : ∀ x, x ∈ dd (l.map (refine_ M by_ l P)) ↔ x ∈ List.range (found M by_ l P).length := fun x => by
    rw [dd_mem, List.mem_map, List.mem_range]
    constructor
    · rintro ⟨q, hq, rfl⟩; exact refine_lt hq
    · intro hx
      obtain ⟨k, hk⟩ := get_some hx
      obtain ⟨q, hq, e⟩ := List.mem_map.1 ((dd_mem _ _).1 (List.mem_of_getElem? hk))
      refine ⟨q, hq, ?_⟩
      unfold refine_
      rw [e]
      exact ixF_at (dd_nd _) hk
  have a := sub_len (dd_nd (l.map (refine_ M by_ l P))) fun x hx => (h1 x).1 hx
  have b := sub_len (a := List.range (found M by_ l P).length) List.nodup_range fun x hx => (h1 x).2 hx
  rw [List.length_range] at a b
  omega
/-- If the rounds make no more classes, they are the same classes. -/
theorem refine_same (h : (found M by_ l P).length ≤ cls l P) : ∀ p ∈ l, ∀ q ∈ l, P p = P q → refine_ M by_ l P p = refine_ M by_ l P q := by
  intro p hp q hq hpq
  -- the first parts of the keys found make all classes
  have hh : ∀ k ∈ found M by_ l P, ∃ x ∈ l, k = keyR M by_ P x := fun k hk => by
    obtain ⟨x, hx, e⟩ := List.mem_map.1 ((dd_mem _ _).1 hk)
    exact ⟨x, hx, e.symm⟩
  have hnd : ((found M by_ l P).map fun k => k.headD 0).Nodup := by
    apply Classical.byContradiction
    intro hno
    have hsub : ∀ x ∈ dd (l.map P), x ∈ dd ((found M by_ l P).map fun k => k.headD 0) := fun x hx => by
      obtain ⟨y, hy, rfl⟩ := List.mem_map.1 ((dd_mem _ _).1 hx)
      rw [dd_mem, List.mem_map]
      exact ⟨keyR M by_ P y, (dd_mem _ _).2 (List.mem_map.2 ⟨y, hy, rfl⟩), rfl⟩
    have h1 := sub_len (dd_nd _) hsub
    have h2 : (dd ((found M by_ l P).map fun k => k.headD 0)).length < ((found M by_ l P).map fun k => k.headD 0).length := by
      have key : ∀ m : List Nat, ¬ m.Nodup → (dd m).length < m.length := by
        intro m
        induction m using snocInd with
        | h0 => intro h; exact absurd List.nodup_nil h
        | hs m k ih =>
          intro h
          rw [dd_snoc, List.length_append, List.length_singleton]
          have := dd_len m
          split
          · omega
          · rename_i hk
            rw [List.length_append, List.length_singleton]
            have : ¬ m.Nodup := fun hm => h (List.nodup_append.2 ⟨hm, by simp, fun x hx y hy e => by rw [List.mem_singleton] at hy; subst hy; subst e; exact hk ((dd_mem _ _).2 hx)⟩)
            have := ih this
            omega
      exact key _ hno
    rw [List.length_map] at h2
    unfold cls at h
    omega
  have m1 : keyR M by_ P p ∈ found M by_ l P := (dd_mem _ _).2 (List.mem_map.2 ⟨p, hp, rfl⟩)
  have m2 : keyR M by_ P q ∈ found M by_ l P := (dd_mem _ _).2 (List.mem_map.2 ⟨q, hq, rfl⟩)
  have g1 := ixF_get m1
  have g2 := ixF_get m2
  have e1 : ((found M by_ l P).map fun k => k.headD 0)[ixF (found M by_ l P) (keyR M by_ P p)]? = some (P p) := by rw [List.getElem?_map, g1]; rfl
  have e2 : ((found M by_ l P).map fun k => k.headD 0)[ixF (found M by_ l P) (keyR M by_ P q)]? = some (P q) := by rw [List.getElem?_map, g2]; rfl
  rw [← hpq] at e2
  obtain ⟨a1, c1⟩ := List.getElem?_eq_some_iff.1 e1
  obtain ⟨a2, c2⟩ := List.getElem?_eq_some_iff.1 e2
  unfold refine_
  rcases Nat.lt_trichotomy (ixF (found M by_ l P) (keyR M by_ P p)) (ixF (found M by_ l P) (keyR M by_ P q)) with h | h | h
  · exact absurd (c1.trans c2.symm) (List.pairwise_iff_getElem.1 hnd _ _ a1 a2 h)
  · exact h
  · exact absurd (c2.trans c1.symm) (List.pairwise_iff_getElem.1 hnd _ _ a2 a1 h)
/-- What holds all along. -/
structure RndI (M : PA) (l : List Nat) (P : Nat → Nat) : Prop where
  eqv : ∀ p ∈ l, ∀ q ∈ l, M.Eqv p q → P p = P q
  fi : ∀ p ∈ l, ∀ q ∈ l, P p = P q → M.fi p = M.fi q
theorem RndI.next (hr : Reps M by_) (hc : Closed M l) (h : RndI M l P) : RndI M l (refine_ M by_ l P) :=
  ⟨fun p hp q hq he => (refine_iff hp hq).2 ⟨h.eqv p hp q hq he, fun b hb => h.eqv _ (hc.st p hp b (hr.lt b hb)) _ (hc.st q hq b (hr.lt b hb)) (he.st (hr.lt b hb))⟩, fun p hp q hq he => h.fi p hp q hq ((refine_iff hp hq).1 he).1⟩
/-- The classes are those that no word tells apart. -/
def IsCls (M : PA) (l : List Nat) (P : Nat → Nat) : Prop := ∀ p ∈ l, ∀ q ∈ l, P p = P q ↔ M.Eqv p q
theorem RndI.done (hr : Reps M by_) (hc : Closed M l) (h : RndI M l P) (hs : ∀ p ∈ l, ∀ q ∈ l, P p = P q → refine_ M by_ l P p = refine_ M by_ l P q) : IsCls M l (refine_ M by_ l P) := by
  have hst : ∀ p ∈ l, ∀ q ∈ l, P p = P q → ∀ b, b < 256 → P (M.st p b) = P (M.st q b) := fun p hp q hq he b hb => by
    obtain ⟨g, hg, -, e⟩ := hr.cov b hb
    rw [← e p (hc.lt p hp), ← e q (hc.lt q hq)]
    exact ((refine_iff hp hq).1 (hs p hp q hq he)).2 g hg
  have key : ∀ (w : List Nat) (p q : Nat), p ∈ l → q ∈ l → P p = P q → bytes5 w → M.fi (M.run p w) = M.fi (M.run q w) := by
    intro w
    induction w with
    | nil => exact fun p q hp hq he _ => h.fi p hp q hq he
    | cons b w ih =>
      intro p q hp hq he hw
      have hb := hw b (by simp)
      exact ih (M.st p b) (M.st q b) (hc.st p hp b hb) (hc.st q hq b hb) (hst p hp q hq he b hb) fun x hx => hw x (List.mem_cons_of_mem _ hx)
  intro p hp q hq
  constructor
  · exact fun he w hw => key w p q hp hq ((refine_iff hp hq).1 he).1 hw
  · exact (h.next hr hc).eqv p hp q hq
end
end Go.Proofs.YthomdogheamfpaaDoor
/- Least automata: the plain law: classes stand in the order in which their states are found. -/
set_option linter.unusedVariables false
set_option linter.unusedSimpArgs false
set_option maxRecDepth 100000
namespace Go.Proofs.YthomdogheamfpaaDoor
open Go.VC
theorem dd_same {K : Type} [DecidableEq K] (l : List K) : ∀ m : List K, (∀ k ∈ m, k ∈ l) → dd (l ++ m) = dd l := by
  intro m
  induction m using snocInd with
  | h0 => intro _; rw [List.append_nil]
  | hs m k ih =>
    intro h
    have ih := ih fun x hx => h x (List.mem_append_left _ hx)
    rw [← List.append_assoc, dd_snoc, ih, if_pos ((dd_mem _ _).2 (h k (by simp)))]
theorem nodup_lt {f : List Nat} {n : Nat} (hn : f.Nodup) (h : ∀ q ∈ f, q < n) : f.length ≤ n := by
  have := sub_len (b := List.range n) hn fun q hq => List.mem_range.2 (h q hq)
  rwa [List.length_range] at this
section
variable {M : PA} {P : Nat → Nat} {most : Nat}
/-- Steps of classes. -/
def cst (M : PA) (P : Nat → Nat) (k b : Nat) : Nat := match (List.range M.n).find? (fun q => P q = k) with
  | some q => P (M.st q b)
  | none => 0
abbrev allS (M : PA) : List Nat := List.range M.n
theorem closed_all (h : M.Ok) : Closed M (allS M) := ⟨fun q hq => List.mem_range.1 hq, fun q hq b hb => List.mem_range.2 (h.cl q b (List.mem_range.1 hq) hb)⟩
theorem cst_of (hM : M.Ok) (hP : IsCls M (allS M) P) {q b : Nat} (hq : q < M.n) (hb : b < 256) : cst M P (P q) b = P (M.st q b) := by
  unfold cst
  cases h : (List.range M.n).find? (fun x => P x = P q) with
  | none =>
    have := List.find?_eq_none.1 h q (List.mem_range.2 hq)
    simp at this
  | some y =>
    have h1 : P y = P q := by simpa using List.find?_some h
    have h2 := List.mem_range.1 (List.mem_of_find?_eq_some h)
    have h3 := (hP y (List.mem_range.2 h2) q (List.mem_range.2 hq)).1 h1
    exact (hP _ (List.mem_range.2 (hM.cl y b h2 hb)) _ (List.mem_range.2 (hM.cl q b hq hb))).2 (h3.st hb)
theorem rows_lt (hM : M.Ok) (hm : 1 ≤ most) : ∀ (n : Nat) (f : List Nat) (rows : List (List Nat)), rowsF most M.st (List.range 256) 0 n = some (f, rows) → ∀ q ∈ f, q < M.n
  | 0, f, rows, h => by
    simp only [rowsF, Option.some.injEq, Prod.mk.injEq] at h
    obtain ⟨rfl, -⟩ := h
    intro q hq
    rw [List.mem_singleton] at hq
    subst hq
    exact hM.pos
  | n + 1, f, rows, h => by
    simp only [rowsF] at h
    cases hp : rowsF most M.st (List.range 256) 0 n with
    | none => rw [hp] at h; cases h
    | some p =>
      have ih := rows_lt hM hm n p.1 p.2 hp
      rw [hp] at h
      simp only [Option.bind_some] at h
      cases hx : p.1[n]? with
      | none =>
        rw [hx] at h
        simp only [Option.some.injEq] at h
        subst h
        exact ih
      | some x =>
        rw [hx] at h
        simp only at h
        cases hr : (List.range 256).foldl (rowF most M.st x) (some (p.1, [])) with
        | none => rw [hr] at h; cases h
        | some r =>
          rw [hr] at h
          simp only [Option.map_some, Option.some.injEq, Prod.mk.injEq] at h
          obtain ⟨rfl, -⟩ := h
          have key : ∀ (l : List Nat) (f f' : List Nat) (r r' : List Nat), (∀ b ∈ l, b < 256) → l.foldl (rowF most M.st x) (some (f, r)) = some (f', r') → (∀ y ∈ f, y < M.n) → ∀ y ∈ f', y < M.n := by
            intro l
            induction l with
            | nil =>
              intro f f' r r' _ h hf
              simp only [List.foldl_nil, Option.some.injEq, Prod.mk.injEq] at h
              obtain ⟨rfl, -⟩ := h
              exact hf
            | cons b l ihl =>
              intro f f' r r' hl h hf
              rw [List.foldl_cons] at h
              simp only [rowF, Option.bind_some] at h
              cases ha : atF most f (M.st x b) with
              | none => rw [ha] at h; rw [Option.map_none, rowF_none] at h; cases h
              | some p =>
                rw [ha] at h
                refine ihl p.1 f' _ r' (fun c hc => hl c (List.mem_cons_of_mem _ hc)) h fun y hy => ?_
                rcases atF_mem2 (i := p.2) ha y hy with h1 | rfl
                · exact hf y h1
                · exact hM.cl x b (ih x (List.mem_of_getElem? hx)) (hl b (by simp))
          exact key (List.range 256) p.1 r.1 [] r.2 (fun b hb => List.mem_range.1 hb) hr ih
theorem row_mem : ∀ (l : List Nat) (x : Nat) (f f' : List Nat) (r r' : List Nat), l.foldl (rowF most M.st x) (some (f, r)) = some (f', r') → ∀ y ∈ f', y ∈ f ∨ ∃ b ∈ l, y = M.st x b
  | [], x, f, f', r, r', h => by
    simp only [List.foldl_nil, Option.some.injEq, Prod.mk.injEq] at h
    obtain ⟨rfl, -⟩ := h
    exact fun y hy => .inl hy
  | b :: l, x, f, f', r, r', h => by
    rw [List.foldl_cons] at h
    simp only [rowF, Option.bind_some] at h
    cases ha : atF most f (M.st x b) with
    | none => rw [ha] at h; rw [Option.map_none, rowF_none] at h; cases h
    | some p =>
      rw [ha] at h
      intro y hy
      rcases row_mem l x p.1 f' _ r' h y hy with h1 | ⟨c, hc, rfl⟩
      · rcases atF_mem2 (i := p.2) ha y h1 with h2 | rfl
        · exact .inl h2
        · exact .inr ⟨b, by simp, rfl⟩
      · exact .inr ⟨c, List.mem_cons_of_mem _ hc, rfl⟩
/-- One row, of states and of classes. -/
theorem row_sim (hM : M.Ok) (hP : IsCls M (allS M) P) {x : Nat} (hx : x < M.n) {f : List Nat} (h1 : f.length ≤ most) (h2 : f.Nodup) : ∀ b, b ≤ 256 → ∀ (f' : List Nat) (r : List Nat), (List.range b).foldl (rowF most M.st x) (some (f, [])) = some (f', r) →
    ∃ r', (List.range b).foldl (rowF most (cst M P) (P x)) (some (dd (f.map P), [])) = some (dd (f'.map P), r') := by
  intro b
  induction b with
  | zero =>
    intro _ f' r h
    simp only [List.range_zero, List.foldl_nil, Option.some.injEq, Prod.mk.injEq] at h
    obtain ⟨rfl, -⟩ := h
    exact ⟨[], rfl⟩
  | succ b ih =>
    intro hb f' r h
    rw [List.range_succ, List.foldl_append, List.foldl_cons, List.foldl_nil] at h
    cases hp : (List.range b).foldl (rowF most M.st x) (some (f, [])) with
    | none => rw [hp] at h; cases h
    | some p =>
      obtain ⟨f1, r1⟩ := p
      obtain ⟨r1', e1⟩ := ih (by omega) f1 r1 hp
      obtain ⟨g1, g2, -, -⟩ := row_pre _ f f1 [] r1 hp h1 h2
      rw [hp] at h
      simp only [rowF, Option.bind_some] at h
      cases ha : atF most f1 (M.st x b) with
      | none => rw [ha] at h; cases h
      | some q =>
        obtain ⟨f2, i⟩ := q
        rw [ha] at h
        simp only [Option.map_some, Option.some.injEq, Prod.mk.injEq] at h
        obtain ⟨rfl, -⟩ := h
        rw [List.range_succ, List.foldl_append, e1, List.foldl_cons, List.foldl_nil]
        simp only [rowF, Option.bind_some]
        rw [cst_of hM hP hx (by omega)]
        have hle := dd_len (f1.map P)
        rw [List.length_map] at hle
        have key : (∃ j, atF most (dd (f1.map P)) (P (M.st x b)) = some (dd (f2.map P), j)) := by
          unfold atF at ha
          by_cases hk : P (M.st x b) ∈ dd (f1.map P)
          · have e2 : dd (f2.map P) = dd (f1.map P) := by
              split at ha
              · injection ha with ha; injection ha with h3 h4; rw [h3]
              · split at ha
                · injection ha with ha; injection ha with h3 h4
                  rw [← h3, List.map_append, List.map_cons, List.map_nil, dd_snoc, if_pos hk]
                · cases ha
            rw [e2]
            exact ⟨_, atF_old (dd_nd _) (ixF_get hk)⟩
          · have hno : M.st x b ∉ f1 := fun h => hk ((dd_mem _ _).2 (List.mem_map.2 ⟨_, h, rfl⟩))
            have hf1 : f1.findIdx? (· = M.st x b) = none := by
              rw [List.findIdx?_eq_none_iff]
              intro y hy
              exact decide_eq_false fun e => hno (by rw [← e]; exact hy)
            rw [hf1] at ha
            simp only at ha
            split at ha
            · rename_i hlt
              injection ha with ha
              injection ha with h3 h4
              refine ⟨(dd (f1.map P)).length, ?_⟩
              rw [← h3, List.map_append, List.map_cons, List.map_nil, dd_snoc, if_neg hk]
              unfold atF
              have : (dd (f1.map P)).findIdx? (· = P (M.st x b)) = none := by
                rw [List.findIdx?_eq_none_iff]
                intro y hy
                exact decide_eq_false fun e => hk (by rw [← e]; exact hy)
              rw [this]
              simp only
              rw [if_pos (by omega)]
            · cases ha
        obtain ⟨j, hj⟩ := key
        exact ⟨r1' ++ [j], by rw [hj]; rfl⟩
/-- All rows. -/
theorem rows_sim (hM : M.Ok) (hP : IsCls M (allS M) P) (hm : 1 ≤ most) : ∀ (n : Nat) (f : List Nat) (rows : List (List Nat)), rowsF most M.st (List.range 256) 0 n = some (f, rows) → n ≤ f.length →
    ∃ rows', rowsF most (cst M P) (List.range 256) (P 0) (dd ((f.take n).map P)).length = some (dd (f.map P), rows')
  | 0, f, rows, h, _ => by
    simp only [rowsF, Option.some.injEq, Prod.mk.injEq] at h
    obtain ⟨rfl, -⟩ := h
    exact ⟨[], rfl⟩
  | n + 1, f1, rows1, h, hn1 => by
    simp only [rowsF] at h
    cases hp : rowsF most M.st (List.range 256) 0 n with
    | none => rw [hp] at h; cases h
    | some p =>
      obtain ⟨f, rows⟩ := p
      obtain ⟨i1, i2, i3, -⟩ := rows_inv (P := fun _ => True) hm trivial (fun _ _ _ => trivial) _ n f rows hp
      rw [hp] at h
      simp only [Option.bind_some] at h
      cases hx : f[n]? with
      | none =>
        rw [hx] at h
        simp only [Option.some.injEq, Prod.mk.injEq] at h
        obtain ⟨rfl, rfl⟩ := h
        rw [List.getElem?_eq_none_iff] at hx
        omega
      | some x =>
        rw [hx] at h
        simp only at h
        have hnl := (List.getElem?_eq_some_iff.1 hx).1
        obtain ⟨rows', ih⟩ := rows_sim hM hP hm n f rows hp (by omega)
        cases hr : (List.range 256).foldl (rowF most M.st x) (some (f, [])) with
        | none => rw [hr] at h; cases h
        | some r =>
          obtain ⟨f', row⟩ := r
          rw [hr] at h
          simp only [Option.map_some, Option.some.injEq, Prod.mk.injEq] at h
          obtain ⟨rfl, -⟩ := h
          obtain ⟨-, -, hpre, -⟩ := row_pre _ f f' [] row hr i1 i2
          have hlt := rows_lt hM hm n f rows hp
          have hxl := hlt x (List.mem_of_getElem? hx)
          have htk : f'.take (n + 1) = f.take n ++ [x] := by
            obtain ⟨t, rfl⟩ := hpre
            rw [List.take_append_of_le_length (by omega), take_succ_snoc hx]
          obtain ⟨t, ht⟩ := hpre
          rw [htk, List.map_append, List.map_cons, List.map_nil, dd_snoc]
          by_cases hk : P x ∈ dd ((f.take n).map P)
          · rw [if_pos hk]
            refine ⟨rows', ?_⟩
            have hsame : dd (f'.map P) = dd (f.map P) := by
              rw [← ht, List.map_append]
              refine dd_same _ _ fun k hkt => ?_
              obtain ⟨y, hy, rfl⟩ := List.mem_map.1 hkt
              rcases row_mem (List.range 256) x f f' [] row hr y (by rw [← ht]; exact List.mem_append_right _ hy) with h1 | ⟨b, hb, rfl⟩
              · exact List.mem_map.2 ⟨y, h1, rfl⟩
              · have hb := List.mem_range.1 hb
                obtain ⟨z, hz, ez⟩ := List.mem_map.1 ((dd_mem _ _).1 hk)
                obtain ⟨j, hj⟩ := List.getElem?_of_mem hz
                have hjn : j < n := by
                  have := (List.getElem?_eq_some_iff.1 hj).1
                  rw [List.length_take] at this; omega
                rw [List.getElem?_take_of_lt hjn] at hj
                have hok := rowsF_ok hm n f rows hp fun j hj => by omega
                obtain ⟨rw1, hrw⟩ := get_some (l := rows) (k := j) (by rw [hok.rl]; exact hjn)
                have hcl := hok.cols rw1 (List.mem_of_getElem? hrw)
                rw [List.length_range] at hcl
                obtain ⟨u, hu⟩ := get_some (l := rw1) (k := b) (by omega)
                have h5 := hok.ok j b rw1 b u z hrw (List.getElem?_range hb) hu hj
                have hzl := hlt z (List.mem_of_getElem? hj)
                have h6 := (hP z (List.mem_range.2 hzl) x (List.mem_range.2 hxl)).1 ez
                have h7 := (hP _ (List.mem_range.2 (hM.cl z b hzl hb)) _ (List.mem_range.2 (hM.cl x b hxl hb))).2 (h6.st hb)
                exact List.mem_map.2 ⟨_, List.mem_of_getElem? h5, h7⟩
            rw [hsame]
            exact ih
          · rw [if_neg hk, List.length_append, List.length_singleton]
            have hat : (dd (f.map P))[(dd ((f.take n).map P)).length]? = some (P x) := by
              have h8 : dd ((f.take n).map P ++ [P x]) <+: dd (f.map P) := by
                have e : f.map P = ((f.take n).map P ++ [P x]) ++ ((f.drop (n + 1)).map P) := by
                  rw [← List.map_singleton, ← List.map_append, ← List.map_append, ← take_succ_snoc hx, List.take_append_drop]
                rw [e]
                exact dd_pre _ _
              rw [dd_snoc, if_neg hk] at h8
              exact pre_get h8 (by simp)
            obtain ⟨r', hr'⟩ := row_sim hM hP hxl i1 i2 256 (Nat.le_refl _) f' row hr
            refine ⟨rows' ++ [r'], ?_⟩
            simp only [rowsF]
            rw [ih]
            simp only [Option.bind_some]
            rw [hat]
            simp only
            rw [hr']
            rfl
theorem rows_done {n : Nat} {f : List Nat} {rows : List (List Nat)} (hM : M.Ok) (hP : IsCls M (allS M) P) (hm : 1 ≤ most) (h : rowsF most M.st (List.range 256) 0 n = some (f, rows)) (hn : f.length = n) : detW most (cst M P) (P 0) = some (dd (f.map P)) := by
  obtain ⟨rows', h1⟩ := rows_sim hM hP hm n f rows h (by omega)
  rw [List.take_of_length_le (by omega)] at h1
  obtain ⟨i1, -⟩ := rows_inv (P := fun _ => True) hm trivial (fun _ _ _ => trivial) _ n f rows h
  have hle := dd_len (f.map P)
  rw [List.length_map] at hle
  unfold detW
  rw [detF_done h1 rfl (by omega)]
  rfl
/-- The first state of each class. -/
def dr (P : Nat → Nat) (l : List Nat) : List Nat := l.foldl (fun c q => if P q ∈ c.map P then c else c ++ [q]) []
theorem dr_snoc (P : Nat → Nat) (l : List Nat) (q : Nat) : dr P (l ++ [q]) = if P q ∈ (dr P l).map P then dr P l else dr P l ++ [q] := by
  unfold dr
  rw [List.foldl_append]
  rfl
theorem dr_dd (P : Nat → Nat) (l : List Nat) : (dr P l).map P = dd (l.map P) := by
  induction l using snocInd with
  | h0 => rfl
  | hs l q ih =>
    rw [dr_snoc, List.map_append, List.map_cons, List.map_nil, dd_snoc, ← ih]
    split
    · rfl
    · rw [List.map_append]; rfl
theorem dr_sub (P : Nat → Nat) (l : List Nat) : ∀ q ∈ dr P l, q ∈ l := by
  induction l using snocInd with
  | h0 => exact fun q hq => hq
  | hs l x ih =>
    intro q hq
    rw [dr_snoc] at hq
    split at hq
    · exact List.mem_append_left _ (ih q hq)
    · rcases List.mem_append.1 hq with h | h
      · exact List.mem_append_left _ (ih q h)
      · exact List.mem_append_right _ h
theorem dr_ext {P Q : Nat → Nat} (l : List Nat) (h : ∀ p ∈ l, ∀ q ∈ l, P p = P q ↔ Q p = Q q) : dr P l = dr Q l := by
  induction l using snocInd with
  | h0 => rfl
  | hs l x ih =>
    have ih := ih fun p hp q hq => h p (List.mem_append_left _ hp) q (List.mem_append_left _ hq)
    rw [dr_snoc, dr_snoc, ih]
    have e : (P x ∈ (dr Q l).map P) ↔ (Q x ∈ (dr Q l).map Q) := by
      rw [List.mem_map, List.mem_map]
      constructor
      · rintro ⟨y, hy, e⟩; exact ⟨y, hy, (h y (List.mem_append_left _ (dr_sub Q l y hy)) x (by simp)).1 e⟩
      · rintro ⟨y, hy, e⟩; exact ⟨y, hy, (h y (List.mem_append_left _ (dr_sub Q l y hy)) x (by simp)).2 e⟩
    by_cases hq : Q x ∈ (dr Q l).map Q
    · rw [if_pos hq, if_pos (e.2 hq)]
    · rw [if_neg hq, if_neg fun h => hq (e.1 h)]
end
end Go.Proofs.YthomdogheamfpaaDoor
/- minim.reps, minim.blocks: the walks. -/
set_option linter.unusedVariables false
set_option linter.unusedSimpArgs false
set_option maxRecDepth 100000
namespace Go.VC
/-- How many keys a map has. -/
theorem mlenE {α : Type} {Ok : α → Prop} {enc : α → Value} {P : Program} {t kt et vt : TypeId} {z : Value} {S : Nat → Prop} {H : Heap} {b : Nat} {m : α → Option Value} {l : List α} (ht : MapTW P t kt et z) (h : MapW Ok enc H b m) (hb : S b) (hn : l.Nodup) (hl : ∀ a, (m a).isSome = true ↔ a ∈ l) (hi : ∀ a b : α, enc a = enc b → a = b) {K : Value → Prop}
    (k : K (.int .i64 (l.length : Int))) : VDet P (Builtin.len_ #[t] vt [.map (some b)].toArray) S H K := by
  obtain ⟨⟨es, clock, h1, h2, h3, h4⟩, hok⟩ := h
  have pre : ∀ k, k ≤ es.size → ∃ l : List α, l.length = k ∧ ∀ (j : Nat) (a : α), l[j]? = some a → ∃ x, es[j]? = some x ∧ x.key = enc a ∧ m a = some x.val := by
    intro k
    induction k with
    | zero => exact fun _ => ⟨[], rfl, fun j a h => by simp at h⟩
    | succ k ih =>
      intro hk
      obtain ⟨l, hl, hg⟩ := ih (by omega)
      have hx : es[k]? = some es[k] := Array.getElem?_eq_getElem (by omega)
      obtain ⟨a, e1, e2⟩ := h3 k _ hx
      refine ⟨l ++ [a], by simp [hl], fun j a' hj => ?_⟩
      by_cases hjk : j < k
      · rw [List.getElem?_append_left (by omega)] at hj
        exact hg j a' hj
      · have hjl := (List.getElem?_eq_some_iff.1 hj).1
        simp only [List.length_append, List.length_cons, List.length_nil] at hjl
        obtain rfl : j = k := by omega
        rw [List.getElem?_append_right (by omega), hl, Nat.sub_self] at hj
        simp only [List.getElem?_cons_zero, Option.some.injEq] at hj
        subst hj
        exact ⟨_, hx, e1, e2⟩
  obtain ⟨l2, hl2, hg⟩ := pre es.size (Nat.le_refl _)
  have hnd : l2.Nodup := by
    unfold List.Nodup
    rw [List.pairwise_iff_getElem]
    intro i j hi hj hij e
    obtain ⟨x, hx, hkx, -⟩ := hg i _ (List.getElem?_eq_getElem hi)
    obtain ⟨y, hy, hky, -⟩ := hg j _ (List.getElem?_eq_getElem hj)
    rw [e] at hkx
    have := stamped_key h2 hx hy (hkx.trans hky.symm)
    omega
  have hmem : ∀ a, a ∈ l2 ↔ a ∈ l := fun a => by
    rw [← hl]
    constructor
    · intro ha
      obtain ⟨j, hj⟩ := List.getElem?_of_mem ha
      obtain ⟨x, -, -, e⟩ := hg j a hj
      rw [e]; rfl
    · intro ha
      obtain ⟨v, hv⟩ := Option.isSome_iff_exists.1 ha
      obtain ⟨i, x, hx, hk, -⟩ := h4 a v hv
      have hil : i < l2.length := by rw [hl2]; exact (Array.getElem?_eq_some_iff.1 hx).1
      obtain ⟨y, hy, hky, -⟩ := hg i _ (List.getElem?_eq_getElem hil)
      rw [hx] at hy
      injection hy with hy
      subst hy
      have := hi _ _ (hk.symm.trans hky)
      rw [this]
      exact List.getElem_mem hil
  have hlen : l2.length = l.length := List.Perm.length_eq (by
    classical
    exact (List.perm_ext_iff_of_nodup hnd hn).2 hmem)
  refine VDet.mk _ (fun w hw => ?_) (show K (.int .i64 (es.size : Int)) by rw [← hl2, hlen]; exact k)
  have hb' := (hw b hb).trans h1
  simp [Builtin.len_, run_underlying ht.under, Go.MapKept.run_getObj_map hb', goInt]
end Go.VC
namespace Go.Proofs.YthomdogheamfpaaDoor
open Go.VC
attribute [local irreducible] mRun gRun atRun
/-! ### reps -/
abbrev bsI (cs : List (BitVec 256)) : List Int := (bsOf cs).map fun (x : Nat) => (x : Int)
set_option maxHeartbeats 4000000 in
theorem reps7_c {S : Nat → Prop} {H : Heap} {ca : Option Addr} {cc : Nat} {cs : List (BitVec 256)} (hS : ∀ k, S k → k < H.size) (hcs : SlD tSet S H ca cc cs) (hcl : cs.length ≤ 256) :
    FnOk Tryd.prog 41 #[.slice ca cs.length cc] H fun r H' => Agr (Old H) H H' ∧ ∃ ra rc, r = .slice ra cs.length rc ∧ SlO tU8 none_ H' H.size tByt (.slice ra cs.length rc) (bsI cs) := by
  refine FnOk.of_vc Tryd.func41 rfl (Tryd.call41 _) ?_
  (conv => whnf); refine vmake1 sl85 rfl (by omega) (by omega) (by omega) (by omega) ?_
  intro rb H1 hrb hs1 hb1 ha1
  rw [Int.toNat_natCast] at hb1
  rw [Int.toNat_natCast, show (0 : Int).toNat = 0 from rfl]
  have st1 := (St.nil H).newCap (T := tU8) (cap := cs.length) hrb hs1 hb1 ha1 (by simp [tInt]) (by unfold maxLen; omega)
  (conv => whnf)
  refine VLoop.mk [3, 13] (fun x : Nat × Option Addr × Nat => match x with | (i, a, c) => [.slice a i c, .int .i64 (i : Int)])
    (fun x H2 => match x with | (i, a, c) => i ≤ cs.length ∧ St H H2 [pS tU8 tByt a i c (bsI (cs.take i))]) (fun x _ => cs.length - x.1) ?_ ?_
  · (conv => whnf)
    exact ⟨(0, some ⟨rb, 0, none⟩, cs.length), rfl, Nat.zero_le _, st1⟩
  · rintro ⟨i, a, c⟩ H2 junk2 ⟨hi, st2⟩
    (conv => whnf); refine VIte.mk (fun hz => ?_) (fun hz => ?_) <;> simp only [decide_eq_true_eq, decide_eq_false_iff_not] at hz
    · obtain ⟨x, hx⟩ := get_some (l := cs) (k := i) (by omega)
      have hblt := nextM_lt x 0
      (conv => whnf); refine ixr (i := i) sl83 (hcs.frame (st2.old.mono hS)) hx rfl ?_
      rintro b8 o8 cs8 hS8 hc8 rfl
      (conv => whnf); refine ldN (cs := setL x) ag73 hc8 trivial ?_
      (conv => whnf); refine valloc (setV 0) (setL 0) rfl rfl ?_
      intro sx H8 hsx hs8 hb8 ha8
      have st8 := st2.box hsx hs8 hb8 ha8
      (conv => whnf); refine stNB (cs := setL x) st8 1 rfl rfl (Nat.le_refl _) rfl fun H9 st9 => ?_
      rw [splice_all (show (setL x).length = (setL 0).length from rfl)] at st9
      (conv => whnf); refine ldN (cs := setL x) ag73 ((st9.blk 1 rfl).cells fun j v hv => by rw [Nat.zero_add]; exact hv) trivial ?_
      (conv => whnf); refine pures (next_p x 0 (by decide) H9) fun H10 ha10 => ?_
      have st10 := st9.call ha10
      (conv => whnf); refine vbuild1 sl85 [.int .u8 ((nextM x 0).1 : Int)] rfl rfl (by decide) (by decide) ?_
      intro q11 H11 hq11 hs11 hb11 ha11
      have hil : (bsI (cs.take i)).length = i := by simp only [bsI, bsOf, List.length_map, List.length_take]; omega
      (conv => whnf); refine app1 (x := ((nextM x 0).1 : Int)) (st10.skip hq11 ha11) 0 sl85 rfl hb11 ⟨rfl, inU8 hblt⟩ rfl (by omega) (by decide) fun a12 c12 H12 st12 _ => ?_
      have e1 : bsI (cs.take i) ++ [((nextM x 0).1 : Int)] = bsI (cs.take (i + 1)) := by rw [take_succ_snoc hx]; simp [bsI, bsOf]
      rw [e1, hil] at st12
      rw [hil]
      (conv => whnf); rw [w64 (x := (i : Int) + 1) (by omega) (by omega)]
      exact ⟨rfl, (i + 1, a12, c12), by simp, ⟨by omega, st12.pick [0] (by decide)⟩, by simp only; omega⟩
    · obtain rfl : i = cs.length := by omega
      rw [List.take_length] at st2
      (conv => whnf)
      exact ⟨st2.old, a, c, rfl, St.own st2 0 rfl⟩
/-! ### names of keys -/
def digM (x : Nat) : List Nat := digN (x : Int)
def kN (k : List Nat) : List Nat := match k with
  | [] => []
  | x :: xs => digM x ++ xs.flatMap fun y => 32 :: digM y
def rS (s : List Nat × Nat) (b : Nat) : List Nat × Nat := if b = 32 then (s.1 ++ [s.2], 0) else (s.1, 10 * s.2 + (b - 48))
theorem rS_digs : ∀ (p : List Nat) (acc : List Nat) (n : Nat), (∀ b ∈ p, 48 ≤ b ∧ b ≤ 57) → p.foldl rS (acc, n) = (acc, valN n p)
  | [], _, _, _ => rfl
  | b :: p, acc, n, h => by
    have hb := h b (List.mem_cons_self ..)
    rw [List.foldl_cons, show rS (acc, n) b = (acc, 10 * n + (b - 48)) by unfold rS; rw [if_neg (by omega)], rS_digs p acc _ fun x hx => h x (List.mem_cons_of_mem _ hx)]
    rfl
theorem digM_rng (x : Nat) : ∀ b ∈ digM x, 48 ≤ b ∧ b ≤ 57 := dig_rng (q := (x : Int)) (by omega)
theorem dig_valM (x : Nat) : valN 0 (digM x) = x := by
  have := dig_val (q := (x : Int)) (by omega)
  unfold digM
  omega
theorem rS_tail : ∀ (xs : List Nat) (acc : List Nat) (n : Nat), (xs.flatMap fun y => 32 :: digM y).foldl rS (acc, n) = ((acc ++ [n] ++ xs).dropLast, (n :: xs).getLast (by simp))
  | [], acc, n => by simp
  | x :: xs, acc, n => by
    rw [List.flatMap_cons, List.foldl_append, List.foldl_cons, show rS (acc, n) 32 = (acc ++ [n], 0) by unfold rS; rw [if_pos rfl], rS_digs (digM x) _ _ (digM_rng x), dig_valM, rS_tail xs]
    simp
theorem kN_read (x : Nat) (xs : List Nat) : (kN (x :: xs)).foldl rS ([], 0) = ((x :: xs).dropLast, (x :: xs).getLast (by simp)) := by
  show (digM x ++ xs.flatMap fun y => 32 :: digM y).foldl rS ([], 0) = _
  rw [List.foldl_append, rS_digs (digM x) _ _ (digM_rng x), dig_valM, rS_tail]
  simp
theorem kN_inj {k m : List Nat} (hk : k ≠ []) (hm : m ≠ []) (h : kN k = kN m) : k = m := by
  cases k with
  | nil => exact absurd rfl hk
  | cons x xs =>
    cases m with
    | nil => exact absurd rfl hm
    | cons y ys =>
      have h1 := kN_read x xs
      rw [h, kN_read y ys] at h1
      injection h1 with e1 e2
      rw [← List.dropLast_concat_getLast (l := x :: xs) (by simp), ← List.dropLast_concat_getLast (l := y :: ys) (by simp), e1, e2]
theorem kN_lt (k : List Nat) : ∀ b ∈ kN k, b < 256 := by
  have hd : ∀ x : Nat, ∀ b ∈ digM x, b < 256 := fun x b hb => by have := dig_rng (q := (x : Int)) (by omega) b hb; omega
  intro b hb
  cases k with
  | nil => cases hb
  | cons x xs =>
    rcases List.mem_append.1 hb with hb | hb
    · exact hd x b hb
    · obtain ⟨y, -, hb⟩ := List.mem_flatMap.1 hb
      rcases List.mem_cons.1 hb with rfl | hb
      · decide
      · exact hd y b hb
theorem kN_snoc (x : Nat) (xs : List Nat) (y : Nat) : kN (x :: (xs ++ [y])) = kN (x :: xs) ++ [32] ++ digM y := by
  show digM x ++ (xs ++ [y]).flatMap _ = _
  rw [List.flatMap_append]
  show _ = (digM x ++ xs.flatMap _) ++ [32] ++ digM y
  simp
theorem digM_len {x : Nat} (h : x < 65536) : (digM x).length ≤ 5 := dig_len (by omega)
theorem kN_len (x : Nat) : ∀ xs : List Nat, (∀ y ∈ x :: xs, y < 65536) → (kN (x :: xs)).length ≤ 5 + 6 * xs.length := by
  intro xs
  induction xs using snocInd with
  | h0 => intro h; have := digM_len (h x (by simp)); simp [kN]; omega
  | hs xs y ih =>
    intro h
    have h1 := ih fun z hz => h z (by
      rcases List.mem_cons.1 hz with rfl | hz
      · simp
      · simp [hz])
    have h2 := digM_len (h y (by simp))
    rw [kN_snoc]
    simp only [List.length_append, List.length_cons, List.length_nil]; omega
theorem kN_ne (x : Nat) (xs : List Nat) : kN (x :: xs) ≠ [] := by
  have : digM x ≠ [] := by
    unfold digM
    rw [dig_nat (by omega), Go.Lib.decDigits]
    split <;> simp
  intro h
  exact this (List.append_eq_nil_iff.1 h).1
def kB (k : List Nat) : ByteArray := ⟨((kN k).map UInt8.ofNat).toArray⟩
theorem kB_inj {k m : List Nat} (hk : k ≠ []) (hm : m ≠ []) (h : kB k = kB m) : k = m := by
  have := congrArg byN h
  unfold kB at this
  rw [byN_of5 (kN_lt k), byN_of5 (kN_lt m)] at this
  exact kN_inj hk hm this
/-- What the map of names holds. -/
def enM (F : List (List Nat)) (s : ByteArray) : Option Value := (F.findIdx? fun k => decide (kB k = s)).map fun (i : Nat) => .int .i64 (i : Int)
def NE (F : List (List Nat)) : Prop := ∀ k ∈ F, k ≠ []
theorem en_find {F : List (List Nat)} (hF : NE F) {k : List Nat} (hk : k ≠ []) : (F.findIdx? fun l => decide (kB l = kB k)) = F.findIdx? (· = k) := by
  induction F with
  | nil => rfl
  | cons l F ih =>
    have h1 : decide (kB l = kB k) = decide (l = k) := decide_eq_decide.2 ⟨fun h => kB_inj (hF l (by simp)) hk h, fun h => by rw [h]⟩
    rw [List.findIdx?_cons, List.findIdx?_cons, h1, ih fun m hm => hF m (List.mem_cons_of_mem _ hm)]
theorem enM_get {F : List (List Nat)} (hF : NE F) {k : List Nat} (hk : k ≠ []) : enM F (kB k) = (F.findIdx? (· = k)).map fun (i : Nat) => .int .i64 (i : Int) := by
  unfold enM
  rw [en_find hF hk]
theorem enM_put {F : List (List Nat)} {k : List Nat} (hno : (F.findIdx? fun l => decide (kB l = kB k)) = none) : put (enM F) (kB k) (some (.int .i64 (F.length : Int))) = enM (F ++ [k]) := by
  funext s
  unfold put enM
  rw [List.findIdx?_append]
  by_cases hs : s = kB k
  · subst hs
    rw [if_pos rfl, hno]
    simp [List.findIdx?_cons]
  · rw [if_neg hs]
    cases h : F.findIdx? fun l => decide (kB l = s) with
    | some i => simp
    | none =>
      have : kB k ≠ s := fun e => hs e.symm
      simp [List.findIdx?_cons, this]
theorem enM_some {F : List (List Nat)} {s : ByteArray} : (enM F s).isSome = true ↔ s ∈ F.map kB := by
  unfold enM
  rw [Option.isSome_map, List.findIdx?_isSome, List.any_eq_true, List.mem_map]
  constructor
  · rintro ⟨k, hk, h⟩; exact ⟨k, hk, of_decide_eq_true h⟩
  · rintro ⟨k, hk, rfl⟩; exact ⟨k, hk, decide_eq_true rfl⟩
theorem enM_nd {F : List (List Nat)} (hF : NE F) (hn : F.Nodup) : (F.map kB).Nodup := by
  unfold List.Nodup at hn ⊢
  rw [List.pairwise_map]
  exact hn.imp_of_mem fun ha hb h e => h (kB_inj (hF _ ha) (hF _ hb) e)
theorem findIdx_ix {F : List (List Nat)} {k : List Nat} (h : k ∈ F) : F.findIdx? (· = k) = some (ixF F k) := by
  rw [List.findIdx?_eq_some_iff_getElem]
  have hlt := ixF_lt h
  have hg := (List.getElem?_eq_some_iff.1 (ixF_get h)).2
  refine ⟨hlt, decide_eq_true hg, fun j hj => ?_⟩
  have := List.not_of_lt_findIdx (p := fun x => decide (x = k)) (xs := F) (show j < F.findIdx (fun x => decide (x = k)) from hj)
  simpa using this
theorem findIdx_nix {F : List (List Nat)} {k : List Nat} (h : k ∉ F) : F.findIdx? (· = k) = none := by
  rw [List.findIdx?_eq_none_iff]
  intro x hx
  exact decide_eq_false fun e => h (by rw [← e]; exact hx)
end Go.Proofs.YthomdogheamfpaaDoor
/- minim.blocks: the walk. -/
set_option linter.unusedVariables false
set_option linter.unusedSimpArgs false
set_option maxRecDepth 100000
namespace Go.Proofs.YthomdogheamfpaaDoor
open Go.VC
attribute [local irreducible] mRun gRun atRun
/-- The program's automaton, plain. -/
def paO (o : Option AM) : PA := ⟨stN o, fun q b => (stepM o (q : Int) b).toNat, fun q => finM o (q : Int)⟩
theorem paO_ok {o : Option AM} (h : StepOk o) : (paO o).Ok := ⟨h.n1, fun q b hq hb => by
  have := h.step (q : Int) b ⟨by omega, by have : q < stN o := hq; omega⟩ hb
  have h1 := this.1
  have h2 := this.2
  show (stepM o (q : Int) b).toNat < stN o
  omega⟩
theorem paO_st {o : Option AM} (h : StepOk o) {q b : Nat} (hq : q < stN o) (hb : b < 256) : stepM o (q : Int) b = ((paO o).st q b : Int) := by
  have := h.step (q : Int) b ⟨by omega, by omega⟩ hb
  have h1 := this.1
  show stepM o (q : Int) b = ((stepM o (q : Int) b).toNat : Int)
  omega
/-- The values of a function at the states, as far as they are known. -/
def tbl (f : Nat → Nat) (k n : Nat) : List Int := (List.range n).map fun p => if p < k then (f p : Int) else 0
theorem tbl_len (f : Nat → Nat) (k n : Nat) : (tbl f k n).length = n := by simp [tbl]
theorem tbl_get {f : Nat → Nat} {k n p : Nat} (h : p < n) : (tbl f k n)[p]? = some (if p < k then (f p : Int) else 0) := by
  unfold tbl
  rw [List.getElem?_map, List.getElem?_range h]
  rfl
theorem tbl_set {f : Nat → Nat} {k n : Nat} (h : k < n) : (tbl f k n).set k (f k : Int) = tbl f (k + 1) n := by
  apply List.ext_getElem?
  intro j
  by_cases hj : j < n
  · rw [tbl_get hj, List.getElem?_set, tbl_len]
    by_cases hk : k = j
    · subst hk; rw [if_pos rfl, if_pos hj, if_pos (by omega)]
    · rw [if_neg hk, tbl_get hj]
      by_cases h1 : j < k
      · rw [if_pos h1, if_pos (by omega)]
      · rw [if_neg h1, if_neg (by omega)]
  · rw [List.getElem?_eq_none (by rw [List.length_set, tbl_len]; omega), List.getElem?_eq_none (by rw [tbl_len]; omega)]
theorem tbl_zero (f : Nat → Nat) (n : Nat) : tbl f 0 n = List.replicate n 0 := by
  unfold tbl
  simp [List.map_const']
theorem tbl_skip {f : Nat → Nat} {k n : Nat} (h : f k = 0) : tbl f k n = tbl f (k + 1) n := by
  unfold tbl
  refine List.map_congr_left fun p hp => ?_
  by_cases h1 : p < k
  · rw [if_pos h1, if_pos (by omega)]
  · rw [if_neg h1]
    by_cases h2 : p = k
    · subst h2; rw [if_pos (by omega), h]; rfl
    · rw [if_neg (by omega)]
theorem zeros_reps {H : Heap} (n : Nat) : tIk.reps none_ H (List.replicate n (Value.int .i64 0)) (List.replicate n (0 : Int)) := by
  have := reps_replicate (T := tIk) (S := none_) (H := H) (c := [Value.int .i64 0]) (v := (0 : Int)) ⟨rfl, kint ⟨by decide, by decide⟩⟩ n
  simpa using this
theorem const_found {M : PA} {by_ l : List Nat} {P : Nat → Nat} (hb : ∀ b ∈ by_, b < 256) (hc : Closed M l) (h : ∀ p ∈ l, ∀ q ∈ l, P p = P q) : ∀ p ∈ l, ∀ q ∈ l, refine_ M by_ l P p = refine_ M by_ l P q := fun p hp q hq =>
  (refine_iff hp hq).2 ⟨h p hp q hq, fun b hbb => h _ (hc.st p hp b (hb b hbb)) _ (hc.st q hq b (hb b hbb))⟩
/-- Keys of the first states. -/
def fnd (M : PA) (by_ : List Nat) (P : Nat → Nat) (q : Nat) : List (List Nat) := dd ((List.range q).map (keyR M by_ P))
theorem fnd_succ (M : PA) (by_ : List Nat) (P : Nat → Nat) (q : Nat) : fnd M by_ P (q + 1) = if keyR M by_ P q ∈ fnd M by_ P q then fnd M by_ P q else fnd M by_ P q ++ [keyR M by_ P q] := by
  unfold fnd
  rw [List.range_succ, List.map_append, List.map_cons, List.map_nil, dd_snoc]
  by_cases h : keyR M by_ P q ∈ dd ((List.range q).map (keyR M by_ P))
  · rw [if_pos h, if_pos h]
  · rw [if_neg h, if_neg h]
theorem fnd_pre (M : PA) (by_ : List Nat) (P : Nat → Nat) {q n : Nat} (h : q ≤ n) : fnd M by_ P q <+: fnd M by_ P n := by
  unfold fnd
  have e : List.range n = List.range q ++ (List.range n).drop q := by
    conv => lhs; rw [← List.take_append_drop q (List.range n)]
    rw [List.take_range, Nat.min_eq_left h]
  rw [e, List.map_append]
  exact dd_pre _ _
theorem fnd_ne (M : PA) (by_ : List Nat) (P : Nat → Nat) (q : Nat) : NE (fnd M by_ P q) := fun k hk => by
  obtain ⟨x, -, rfl⟩ := List.mem_map.1 ((dd_mem _ _).1 hk)
  exact List.cons_ne_nil _ _
theorem fnd_len (M : PA) (by_ : List Nat) (P : Nat → Nat) (q : Nat) : (fnd M by_ P q).length ≤ q := by
  have := dd_len ((List.range q).map (keyR M by_ P))
  rw [List.length_map, List.length_range] at this
  exact this
theorem refine_fnd {M : PA} {by_ : List Nat} {P : Nat → Nat} {q : Nat} (hq : q < M.n) : refine_ M by_ (allS M) P q = ixF (fnd M by_ P (q + 1)) (keyR M by_ P q) :=
  ixF_pre (fnd_pre M by_ P (show q + 1 ≤ M.n by omega)) (by
    unfold fnd
    exact (dd_mem _ _).2 (List.mem_map.2 ⟨q, List.mem_range.2 (by omega), rfl⟩))
/-- How far the name of a state's key is written. -/
def keyJ (M : PA) (by_ : List Nat) (P : Nat → Nat) (q j : Nat) : List Nat := P q :: (by_.take j).map fun b => P (M.st q b)
theorem nmI_ln (k : List Nat) : ((kN k).map fun (x : Nat) => (x : Int)).length = (kN k).length := List.length_map _
theorem digL_M (x : Nat) : digL (x : Int) = (digM x).map fun (y : Nat) => (y : Int) := digL_N (x : Int)
theorem nm_str {P : Program} {s d : TypeId} {H0 H : Heap} {a : Option Addr} {n c : Nat} {k : List Nat} {K : Value → Heap → Prop} (u : St H0 H [pS tU8 tByt a n c (k.map fun (y : Nat) => (y : Int))]) (hk : k ≠ []) (hs : P.underlying s = some (.slice tByt)) (he : P.underlying tByt = some (.int .u8)) (hd : P.underlying d = some .string)
    (h : K (.string ⟨(k.map UInt8.ofNat).toArray⟩) H) : VEff P (convert s d (.slice a n c)) H K := by
  have hnl := u.len 0 rfl
  rw [List.length_map] at hnl
  obtain ⟨cs, ⟨-, hcs⟩, hrp⟩ := u.at_ 0 rfl |>.1
  obtain ⟨rfl, -⟩ := reps_u8 hrp
  rcases hcs with ⟨h1, h2⟩ | ⟨b, c', l', h1, -, hb, -, -, -, htk⟩
  · rw [List.length_map] at h2
    exact absurd (List.eq_nil_of_length_eq_zero h2) hk
  · injection h1 with h1 h2 h3
    subst h1
    refine vb2s k (e := tByt) hs he hd (fun j x hx => ?_) hnl h
    have hcj : ((k.map fun (y : Nat) => (y : Int)).map (Value.int .u8))[j]? = some (.int .u8 (x : Int)) := by
      rw [List.getElem?_map, List.getElem?_map, hx]; rfl
    rw [← htk, List.getElem?_take] at hcj
    split at hcj
    · rw [Nat.zero_add, hb.cell]; exact hcj
    · cases hcj
structure BlkI (M : PA) (P : Nat → Nat) (cnt : Nat) : Prop where
  rnd : RndI M (allS M) P
  lt : ∀ q, q < M.n → P q < 65536
  cnt : cls (allS M) P = cnt ∨ ∀ p ∈ allS M, ∀ q ∈ allS M, P p = P q
set_option maxHeartbeats 32000000 in
theorem blocks_c {S : Nat → Prop} {H : Heap} {v : Value} {o : Option AM} {ba : Option Addr} {bc : Nat} {by_ : List Nat} (hS : ∀ k, S k → k < H.size) (hv : AutoV S H v o) (hby : SlD tU8 S H ba bc (by_.map fun (x : Nat) => (x : Int))) (hreps : Reps (paO o) by_) (hbl : by_.length ≤ 256) (hpow : PowH Tryd.prog H) :
    FnOk Tryd.prog 42 #[v, .slice ba by_.length bc] H fun r H' => Agr (Old H) H H' ∧ ∃ P ra rc, IsCls (paO o) (allS (paO o)) P ∧ (∀ q, q < stN o → P q < stN o) ∧ r = .slice ra (stN o) rc ∧ SlO tIk none_ H' H.size 3 (.slice ra (stN o) rc) (tbl P (stN o) (stN o)) := by
  have hst := hv.steps
  have hn1 := hst.n1
  have hn2 := hst.n2
  have hM := paO_ok hst
  have hcl := closed_all hM
  have hbI : (by_.map fun (x : Nat) => (x : Int)).length = by_.length := List.length_map _
  obtain ⟨n, hn⟩ : ∃ n, n = stN o := ⟨_, rfl⟩
  have hMn : (paO o).n = n := hn.symm
  obtain ⟨M, hMe⟩ : ∃ M, M = paO o := ⟨_, rfl⟩
  have hVA : ∀ {G : Heap}, Agr (Old H) H G → AutoV S G v o := fun h => hv.frame (h.mono hS)
  have up : ∀ {G : Heap}, Agr (Old H) H G → ∀ k, S k → k < G.size := fun h k hk => old_lt h (hS k hk)
  refine FnOk.of_vc Tryd.func42 rfl (Tryd.call42 _) ?_
  (conv => whnf); refine pures (states_p hv) fun H1 ha1 => ?_
  rw [← hn] at hn1 hn2 ⊢
  rw [← hMe] at hM hcl hMn hreps ⊢
  have st1 : St H H1 [] := (St.nil H).call ha1
  (conv => whnf); refine vmake1 sl33 rfl (by omega) (by omega) (by omega) (by omega) ?_
  intro pb H2 hpb hs2 hb2 ha2
  rw [Int.toNat_natCast] at hb2 ⊢
  have st2 : St H H2 [pS tIk 3 (some ⟨pb, 0, none⟩) n n (List.replicate n 0)] := st1.new (T := tIk) (n := n) (xs := List.replicate n (0 : Int)) hpb hs2 (by simpa using hb2) ha2 (zeros_reps n) (by simp) (by unfold maxLen; omega)
  let P0 : Nat → Nat := fun q => if M.fi q then 1 else 0
  have hP0 : ∀ q, P0 q = if M.fi q then 1 else 0 := fun _ => rfl
  rw [← tbl_zero P0 n] at st2
  (conv => whnf)
  refine VLoop.mk [7, 22] (fun x : Nat × Nat => match x with | (q, c) => [.int .i64 (c : Int), .int .i64 (q : Int)])
    (fun x H3 => match x with | (q, c) => q ≤ n ∧ (c = if (∃ p, p < q ∧ M.fi p = true) then 2 else 1) ∧ St H H3 [pS tIk 3 (some ⟨pb, 0, none⟩) n n (tbl P0 q n)]) (fun x _ => n - x.1) ?_ ?_
  · (conv => whnf)
    exact ⟨(0, 1), rfl, Nat.zero_le _, by rw [if_neg (fun ⟨p, h, _⟩ => by omega)], st2⟩
  · rintro ⟨q, c⟩ H3 junk3 ⟨hq, hc, st3⟩
    (conv => whnf); refine VIte.mk (fun hz => ?_) (fun hz => ?_) <;> simp only [decide_eq_true_eq, decide_eq_false_iff_not] at hz
    · have hqn : q < n := by omega
      (conv => whnf); refine VSeq.run ?_
      (conv => whnf); refine pures (final_p (hVA st3.old)) fun H4 ha4 => ?_
      have st4 := st3.call ha4
      have hfi : finM o (q : Int) = M.fi q := by rw [hMe]; rfl
      rw [hfi]
      cases hf : M.fi q with
      | true =>
        have e0 : P0 q = 1 := by rw [hP0, hf]; rfl
        (conv => whnf); refine ix sl33 (by omega) (by omega) ?_
        (conv => whnf); refine st1O (j := q) (x := (P0 q : Int)) st4 0 ct3 rfl rfl (by omega) (by rw [tbl_len]; omega) rfl (fun H' _ => by rw [e0]; exact ⟨rfl, kint ⟨by decide, by decide⟩⟩) fun H5 st5 => ?_
        rw [tbl_set hqn] at st5
        (conv => whnf); rw [w64 (x := (q : Int) + 1) (by omega) (by omega)]
        exact ⟨rfl, (q + 1, 2), by simp, ⟨by omega, by rw [if_pos ⟨q, by omega, hf⟩], st5⟩, by simp only; omega⟩
      | false =>
        have e0 : P0 q = 0 := by rw [hP0, hf]; rfl
        rw [tbl_skip e0] at st4
        (conv => whnf); rw [w64 (x := (q : Int) + 1) (by omega) (by omega)]
        refine ⟨rfl, (q + 1, c), by simp, ⟨by omega, ?_, st4⟩, by simp only; omega⟩
        rw [hc]
        by_cases h1 : ∃ p, p < q ∧ M.fi p = true
        · rw [if_pos h1, if_pos (by obtain ⟨p, h2, h3⟩ := h1; exact ⟨p, by omega, h3⟩)]
        · rw [if_neg h1, if_neg fun ⟨p, h2, h3⟩ => by
            by_cases hpq : p = q
            · subst hpq; rw [hf] at h3; cases h3
            · exact h1 ⟨p, by omega, h3⟩]
    · obtain rfl : q = n := by omega
      have hI0 : BlkI M P0 c := by
        refine ⟨⟨fun p hp r hr he => by rw [hP0, hP0, he.fi], fun p hp r hr he => ?_⟩, fun r hr => by rw [hP0]; split <;> decide, ?_⟩
        · rw [hP0, hP0] at he
          cases h1 : M.fi p <;> cases h2 : M.fi r <;> rw [h1, h2] at he <;> first | rfl | (exact absurd he (by decide))
        · by_cases hall : ∀ p ∈ allS M, ∀ r ∈ allS M, P0 p = P0 r
          · exact .inr hall
          · left
            have h1 : ∃ p, p < q ∧ M.fi p = true := by
              apply Classical.byContradiction
              intro hno
              refine hall fun p hp r hr => ?_
              have e : ∀ x ∈ allS M, P0 x = 0 := fun x hx => by
                rw [hP0]
                cases hx2 : M.fi x with
                | false => rfl
                | true => exact absurd ⟨x, by rw [← hMn]; exact List.mem_range.1 hx, hx2⟩ hno
              rw [e p hp, e r hr]
            have h2 : ∃ p, p < q ∧ M.fi p = false := by
              apply Classical.byContradiction
              intro hno
              refine hall fun p hp r hr => ?_
              have e : ∀ x ∈ allS M, P0 x = 1 := fun x hx => by
                rw [hP0]
                cases hx2 : M.fi x with
                | true => rfl
                | false => exact absurd ⟨x, by rw [← hMn]; exact List.mem_range.1 hx, hx2⟩ hno
              rw [e p hp, e r hr]
            rw [hc, if_pos h1]
            obtain ⟨p1, k1, k2⟩ := h1
            obtain ⟨p2, k3, k4⟩ := h2
            unfold cls
            have l1 := sub_len (a := [0, 1]) (b := dd ((allS M).map P0)) (by decide) fun x hx => by
              rw [dd_mem, List.mem_map]
              simp only [List.mem_cons, List.not_mem_nil, or_false] at hx
              rcases hx with rfl | rfl
              · exact ⟨p2, List.mem_range.2 (by omega), by rw [hP0, k4]; rfl⟩
              · exact ⟨p1, List.mem_range.2 (by omega), by rw [hP0, k2]; rfl⟩
            have l2 := sub_len (a := dd ((allS M).map P0)) (b := [0, 1]) (dd_nd _) fun x hx => by
              rw [dd_mem, List.mem_map] at hx
              obtain ⟨y, -, rfl⟩ := hx
              rw [hP0]
              split <;> simp
            simp only [List.length_cons, List.length_nil] at l1 l2
            omega
      have hc2 : c ≤ q + 2 := by rw [hc]; split <;> omega
      clear hc st2 st1 hb2 ha2 hs2
      clear_value P0
      have hSI : ∀ a b : ByteArray, Value.string a = Value.string b → a = b := fun a b h => by injection h
      (conv => whnf)
      refine VLoop.mk [6, 7] (fun x : (Nat → Nat) × Nat × Option Addr × Nat => match x with | (P, cnt, xa, xc) => [.slice xa q xc, .int .i64 (cnt : Int)])
        (fun x H4 => match x with | (P, cnt, xa, xc) => BlkI M P cnt ∧ cnt ≤ q + 2 ∧ St H H4 [pS tIk 3 xa q xc (tbl P q q)]) (fun x _ => q + 2 - x.2.1) ?_ ?_
      · (conv => whnf)
        exact ⟨(P0, c, some ⟨pb, 0, none⟩, q), rfl, hI0, hc2, st3⟩
      · clear hI0 hc2 st3 hP0 hz
        rintro ⟨P, cnt, xa, xc⟩ H4 junk4 ⟨hI, hcn, st4⟩
        obtain ⟨R, hR⟩ : ∃ R, R = refine_ M by_ (allS M) P := ⟨_, rfl⟩
        (conv => whnf); refine mmakeW (Ok := anyK) (enc := Value.string) fun mb H5 hb5 hs5 hm5 ha5 => ?_
        have st5 := st4.mapNewW hb5 hs5 hm5 ha5
        (conv => whnf); refine vmake1 sl33 rfl (by omega) (by omega) (by omega) (by omega) ?_
        intro nb H6 hnb hs6 hb6 ha6
        rw [Int.toNat_natCast] at hb6 ⊢
        have st6 := st5.new (T := tIk) (n := q) (xs := List.replicate q (0 : Int)) hnb hs6 (by simpa using hb6) ha6 (zeros_reps q) (by simp) (by unfold maxLen; omega)
        rw [← tbl_zero R q] at st6
        (conv => whnf)
        refine VLoop.mk [36] (fun i : Nat => [.int .i64 (i : Int)]) (fun i H7 => i ≤ q ∧ St H H7 [pS tIk 3 xa q xc (tbl P q q), pMW anyK Value.string mb (enM (fnd M by_ P i)), pS tIk 3 (some ⟨nb, 0, none⟩) q q (tbl R i q)]) (fun i _ => q - i) ?_ ?_
        · (conv => whnf)
          exact ⟨0, rfl, Nat.zero_le _, st6⟩
        · clear st6 st5 hb6 ha6 hs6 hm5 ha5 hs5 hb5
          rintro i H7 junk7 ⟨hi, st7⟩
          (conv => whnf); refine VIte.mk (fun hz => ?_) (fun hz => ?_) <;> simp only [decide_eq_true_eq, decide_eq_false_iff_not] at hz
          · have hiq : i < q := by omega
            have hPi := hI.lt i (by omega)
            have hgi : (tbl P q q)[i]? = some (P i : Int) := by rw [tbl_get hiq, if_pos hiq]
            have hRi : R i = ixF (fnd M by_ P (i + 1)) (keyR M by_ P i) := by rw [hR]; exact refine_fnd (by omega)
            have hstl : ∀ b ∈ by_, M.st i b < q := fun b hb => by rw [← hMn]; exact hM.cl i b (by omega) (hreps.lt b hb)
            have hkl : ∀ j, ∀ y ∈ keyJ M by_ P i j, y < 65536 := fun j y hy => by
              rcases List.mem_cons.1 hy with rfl | hy
              · exact hPi
              · obtain ⟨b, hb, rfl⟩ := List.mem_map.1 hy
                exact hI.lt _ (by have := hstl b (List.mem_of_mem_take hb); omega)
            have hkn : ∀ j, (kN (keyJ M by_ P i j)).length ≤ 1600 := fun j => by
              have h1 := kN_len (P i) ((by_.take j).map fun b => P (M.st i b)) (hkl j)
              have h2 : ((by_.take j).map fun b => P (M.st i b)).length ≤ 256 := by rw [List.length_map, List.length_take]; omega
              unfold keyJ
              omega
            (conv => whnf); refine ixO (j := i) sl33 st7 0 rfl hgi rfl ?_
            rintro b8 o8 c8 hS8 hc8 ⟨rfl, -⟩
            (conv => whnf); refine ld1 ct3 hc8.one trivial ?_
            have u7 : St H7 H7 [pS tU8 tByt none 0 0 []] := (St.nil H7).nils tU8 tByt
            have hpow7 := hpow.agr st7.old
            (conv => whnf); refine appI appInt_ u7 hpow7 (by omega) (by omega) (by simp) fun a9 c9 H9 u9 => ?_
            have e0 : digM (P i) = kN (keyJ M by_ P i 0) := by simp [keyJ, kN]
            rw [List.nil_append, digL_M, e0, nmI_ln] at u9
            rw [List.nil_append, digL_M, e0, nmI_ln]
            (conv => whnf)
            refine VLoop.mk [12, 46] (fun x : Nat × Option Addr × Nat => match x with | (j, a5, c5) => [.slice a5 (kN (keyJ M by_ P i j)).length c5, .int .i64 (j : Int)])
              (fun x H8 => match x with | (j, a5, c5) => j ≤ by_.length ∧ St H7 H8 [pS tU8 tByt a5 (kN (keyJ M by_ P i j)).length c5 ((kN (keyJ M by_ P i j)).map fun (y : Nat) => (y : Int))]) (fun x _ => by_.length - x.1) ?_ ?_
            · (conv => whnf)
              exact ⟨(0, a9, c9), rfl, Nat.zero_le _, u9⟩
            · clear u9
              rintro ⟨j, a5, c5⟩ H10 junk10 ⟨hj, u10⟩
              have hln := hkn j
              have h010 : Agr (Old H) H H10 := st7.old.trans (u10.old.mono fun k hk => st7.up hk)
              (conv => whnf); refine VIte.mk (fun hz2 => ?_) (fun hz2 => ?_) <;> simp only [decide_eq_true_eq, decide_eq_false_iff_not] at hz2
              · obtain ⟨b, hb⟩ := get_some (l := by_) (k := j) (by omega)
                have hbm := List.mem_of_getElem? hb
                have hb8 := hreps.lt b hbm
                have hsl := hstl b hbm
                have hPs := hI.lt (M.st i b) (by omega)
                have hkj : keyJ M by_ P i (j + 1) = P i :: (((by_.take j).map fun b => P (M.st i b)) ++ [P (M.st i b)]) := by
                  unfold keyJ
                  rw [take_succ_snoc hb, List.map_append]
                  rfl
                (conv => whnf); refine ixrn (i := j) (x := (b : Int)) sl85 (hby.frame (h010.mono hS)) hbI.symm (by rw [List.getElem?_map, hb]; rfl) rfl ?_
                rintro b11 o11 c11 hS11 hc11 ⟨rfl, -⟩
                (conv => whnf); refine ld1 ct5 hc11.one trivial ?_
                (conv => whnf); refine vbuild1 sl85 [.int .u8 32] rfl rfl (by decide) (by decide) ?_
                intro q12 H12 hq12 hs12 hb12 ha12
                (conv => whnf); refine app1 (x := (32 : Int)) (u10.skip hq12 ha12) 0 sl85 rfl hb12 ⟨rfl, inU8 (x := 32) (by decide)⟩ rfl (by rw [nmI_ln]; omega) (by decide) fun a13 c13 H13 u13 _ => ?_
                have e1 : ((kN (keyJ M by_ P i j)).map fun (y : Nat) => (y : Int)) ++ [32] = (kN (keyJ M by_ P i j) ++ [32]).map fun (y : Nat) => (y : Int) := by rw [List.map_append]; rfl
                have e2 : ((kN (keyJ M by_ P i j)).map fun (y : Nat) => (y : Int)).length + 1 = (kN (keyJ M by_ P i j) ++ [32]).length := by rw [nmI_ln]; simp
                rw [e1, e2] at u13
                rw [e2]
                have h013 : Agr (Old H) H H13 := st7.old.trans (u13.old.mono fun k hk => st7.up hk)
                (conv => whnf); refine pures (step_p (up h013) (hVA h013) hb8) fun H14 ha14 => ?_
                have u14 := u13.call ha14
                have e3 : stepM o (i : Int) b = (M.st i b : Int) := by rw [hMe]; exact paO_st hst (by omega) hb8
                rw [e3]
                have st14 := st7.call u14.old
                (conv => whnf); refine ixO (j := M.st i b) sl33 st14 0 rfl (by rw [tbl_get hsl, if_pos hsl]) rfl ?_
                rintro b15 o15 c15 hS15 hc15 ⟨rfl, -⟩
                (conv => whnf); refine ld1 ct3 hc15.one trivial ?_
                (conv => whnf); refine appI appInt_ u14 hpow7 (by omega) (by omega) (by rw [List.length_map, List.length_append]; simp only [List.length_cons, List.length_nil]; omega) fun a16 c16 H16 u16 => ?_
                have e4 : ((kN (keyJ M by_ P i j) ++ [32]).map fun (y : Nat) => (y : Int)) ++ digL (P (M.st i b) : Int) = (kN (keyJ M by_ P i (j + 1))).map fun (y : Nat) => (y : Int) := by
                  rw [digL_M, ← List.map_append, hkj, kN_snoc]
                  rfl
                rw [e4, nmI_ln] at u16
                rw [e4, nmI_ln]
                (conv => whnf); rw [w64 (x := (j : Int) + 1) (by omega) (by omega)]
                exact ⟨rfl, (j + 1, a16, c16), by simp, ⟨by omega, u16⟩, by simp only; omega⟩
              · obtain rfl : j = by_.length := by omega
                have hkey : keyJ M by_ P i by_.length = keyR M by_ P i := by unfold keyJ keyR; rw [List.take_length]
                rw [hkey] at u10 ⊢
                have hkne : kN (keyR M by_ P i) ≠ [] := kN_ne _ _
                have st10 := st7.cat u10
                have hkk : keyR M by_ P i ≠ [] := List.cons_ne_nil _ _
                have hmem1 : keyR M by_ P i ∈ fnd M by_ P (i + 1) := by unfold fnd; exact (dd_mem _ _).2 (List.mem_map.2 ⟨i, List.mem_range.2 (by omega), rfl⟩)
                have hRlt := ixF_lt hmem1
                have hfl := fnd_len M by_ P (i + 1)
                (conv => whnf); refine nm_str u10 hkne rfl rfl rfl ?_
                have hsB : (⟨((kN (keyR M by_ P i)).map UInt8.ofNat).toArray⟩ : ByteArray) = kB (keyR M by_ P i) := rfl
                rw [hsB]
                generalize hkB : kB (keyR M by_ P i) = kb at *
                have hst9 : St H H10 [pS tIk 3 xa q xc (tbl P q q), pMW anyK Value.string mb (enM (fnd M by_ P i)), pS tIk 3 (some ⟨nb, 0, none⟩) q q (tbl R i q), pS tU8 tByt a5 (kN (keyR M by_ P i)).length c5 ((kN (keyR M by_ P i)).map fun (y : Nat) => (y : Int))] := st10
                have hget := enM_get (fnd_ne M by_ P i) hkk
                rw [hkB] at hget
                (conv => whnf); refine mlookOkW (a := kb) mapSI keySW trivial (hst9.mapW 1 rfl) trivial ?_
                rw [hget]
                by_cases hm : keyR M by_ P i ∈ fnd M by_ P i
                · rw [findIdx_ix hm]
                  have hfe : fnd M by_ P (i + 1) = fnd M by_ P i := by rw [fnd_succ, if_pos hm]
                  have hRv : R i = ixF (fnd M by_ P i) (keyR M by_ P i) := by rw [hRi, hfe]
                  have hRq : R i < 65536 := by rw [hRi]; omega
                  rw [← hRv]
                  (conv => whnf); refine VSeq.run ?_
                  (conv => whnf); refine ix sl33 (by omega) (by omega) ?_
                  (conv => whnf); refine st1O (j := i) (x := (R i : Int)) hst9 2 ct3 rfl rfl (by omega) (by rw [tbl_len]; omega) rfl (fun H' _ => ⟨rfl, kint ⟨by omega, by omega⟩⟩) fun H11 st11 => ?_
                  rw [tbl_set hiq] at st11
                  (conv => whnf); rw [w64 (x := (i : Int) + 1) (by omega) (by omega)]
                  refine ⟨rfl, i + 1, by simp, ⟨by omega, ?_⟩, by omega⟩
                  rw [hfe]
                  exact st11.pick [0, 1, 2] (by decide)
                · rw [findIdx_nix hm]
                  have hfe : fnd M by_ P (i + 1) = fnd M by_ P i ++ [keyR M by_ P i] := by rw [fnd_succ, if_neg hm]
                  have hRv : R i = (fnd M by_ P i).length := by rw [hRi, hfe]; exact ixF_new hm
                  have hRq : R i < 65536 := by have := fnd_len M by_ P i; rw [hRv]; omega
                  have hpt := enM_put (F := fnd M by_ P i) (k := keyR M by_ P i) (by rw [en_find (fnd_ne M by_ P i) hkk]; exact findIdx_nix hm)
                  rw [hkB] at hpt
                  (conv => whnf); refine VSeq.run ?_
                  (conv => whnf); refine mlenE (S := fun _ => True) (l := (fnd M by_ P i).map kB) mapSI (hst9.mapW 1 rfl) trivial (enM_nd (fnd_ne M by_ P i) (dd_nd _)) (fun s => enM_some) hSI ?_
                  rw [List.length_map]
                  (conv => whnf); refine nm_str u10 hkne rfl rfl rfl ?_
                  rw [hsB]
                  (conv => whnf); refine mputPW (a := kb) hst9 1 mapSI keySW trivial rfl hpt fun H11 st11 => ?_
                  rw [← hRv]
                  (conv => whnf); refine ix sl33 (by omega) (by omega) ?_
                  (conv => whnf); refine st1O (j := i) (x := (R i : Int)) st11 2 ct3 rfl rfl (by omega) (by rw [tbl_len]; omega) rfl (fun H' _ => ⟨rfl, kint ⟨by omega, by omega⟩⟩) fun H12 st12 => ?_
                  rw [tbl_set hiq] at st12
                  (conv => whnf); rw [w64 (x := (i : Int) + 1) (by omega) (by omega)]
                  refine ⟨rfl, i + 1, by simp, ⟨by omega, ?_⟩, by omega⟩
                  rw [hfe]
                  exact st12.pick [0, 1, 2] (by decide)
          · obtain rfl : i = q := by omega
            have hfnd : found M by_ (allS M) P = fnd M by_ P i := by unfold found fnd; rw [← hMn]
            have hfl := fnd_len M by_ P i
            have hRlt : ∀ x, x < i → R x < (fnd M by_ P i).length := fun x hx => by
              rw [hR, ← hfnd]
              exact refine_lt (List.mem_range.2 (by omega))
            have hnext := hI.rnd.next hreps hcl
            rw [← hR] at hnext
            have hcls : cls (allS M) R = (fnd M by_ P i).length := by rw [hR, refine_cls, hfnd]
            (conv => whnf); refine mlenE (S := fun _ => True) (l := (fnd M by_ P i).map kB) mapSI (st7.mapW 1 rfl) trivial (enM_nd (fnd_ne M by_ P i) (dd_nd _)) (fun s => enM_some) hSI ?_
            rw [List.length_map]
            by_cases hdone : (fnd M by_ P i).length ≤ cnt
            · have d1 : decide (((fnd M by_ P i).length : Int) ≤ (cnt : Int)) = true := decide_eq_true (by omega)
              (conv => whnf); rw [d1]
              (conv => whnf)
              refine ⟨st7.old, R, some ⟨nb, 0, none⟩, i, ?_, fun x hx => ?_, rfl, St.own st7 2 rfl⟩
              · rw [hR]
                refine hI.rnd.done hreps hcl ?_
                rcases hI.cnt with h | h
                · exact refine_same (by rw [hfnd, h]; exact hdone)
                · exact fun p hp r hr _ => const_found hreps.lt hcl h p hp r hr
              · have := hRlt x hx; omega
            · have d1 : decide (((fnd M by_ P i).length : Int) ≤ (cnt : Int)) = false := decide_eq_false (by omega)
              (conv => whnf); rw [d1]
              (conv => whnf); refine mlenE (S := fun _ => True) (l := (fnd M by_ P i).map kB) mapSI (st7.mapW 1 rfl) trivial (enM_nd (fnd_ne M by_ P i) (dd_nd _)) (fun s => enM_some) hSI ?_
              rw [List.length_map]
              (conv => whnf)
              exact ⟨rfl, (R, (fnd M by_ P i).length, some ⟨nb, 0, none⟩, i), rfl, ⟨⟨hnext, fun x hx => by have := hRlt x (by omega); omega, .inl hcls⟩, by omega, st7.pick [2] (by decide)⟩, by simp only; omega⟩
end Go.Proofs.YthomdogheamfpaaDoor
/- minim.Canon: the walk. -/
set_option linter.unusedVariables false
set_option linter.unusedSimpArgs false
set_option maxRecDepth 100000
namespace Go.Proofs.YthomdogheamfpaaDoor
open Go.VC
attribute [local irreducible] mRun gRun atRun
theorem filter_one5 {α : Type} {p : α → Bool} : ∀ (l : List α) (k : Nat) (x : α), l[k]? = some x → p x = true → (∀ (k' : Nat) (y : α), l[k']? = some y → p y = true → k' = k) → (l.filter p).length = 1
  | [], k, x, h, _, _ => by simp at h
  | a :: l, 0, x, h, hp, hu => by
    simp only [List.getElem?_cons_zero, Option.some.injEq] at h
    subst h
    have : l.filter p = [] := by
      rw [List.filter_eq_nil_iff]
      intro y hy hpy
      obtain ⟨j, hj⟩ := List.getElem?_of_mem hy
      have := hu (j + 1) y (by rw [List.getElem?_cons_succ]; exact hj) hpy
      omega
    rw [List.filter_cons_of_pos hp, this]; rfl
  | a :: l, k + 1, x, h, hp, hu => by
    rw [List.getElem?_cons_succ] at h
    have ha : p a = false := by
      cases hpa : p a with
      | false => rfl
      | true => have := hu 0 a rfl hpa; omega
    rw [List.filter_cons_of_neg (by rw [ha]; decide)]
    exact filter_one5 l k x h hp fun k' y hy hpy => by
      have := hu (k' + 1) y (by rw [List.getElem?_cons_succ]; exact hy) hpy
      omega
theorem cellsOk_cnt {o : Option AM} {ls : List Nat} (h : CellsOk o ls) {b : Nat} (hb : b < 256) : cnt (cellsM o) b = 1 := by
  obtain ⟨k, c, h1, h2, h3⟩ := h.part b hb
  exact filter_one5 _ k c h1 h2 h3
theorem cellsOk_len {o : Option AM} {ls : List Nat} (h : CellsOk o ls) : (cellsM o).length ≤ 256 := by
  rw [← h.len]
  refine nodup_lt (n := 256) (h.up.imp fun h => by omega) fun q hq => ?_
  obtain ⟨k, hk⟩ := List.getElem?_of_mem hq
  obtain ⟨c, hc⟩ := get_some (l := cellsM o) (k := k) (by rw [← h.len]; exact (List.getElem?_eq_some_iff.1 hk).1)
  obtain ⟨l, h1, h2, -⟩ := h.least k c hc
  rw [hk] at h1
  injection h1 with h1
  omega
theorem cellsOk_reps {o : Option AM} {ls : List Nat} (h : CellsOk o ls) : Reps (paO o) (bsOf (cellsM o)) := by
  refine ⟨fun b hb => ?_, fun b hb => ?_⟩
  · obtain ⟨c, -, rfl⟩ := List.mem_map.1 hb
    exact nextM_lt c 0
  · obtain ⟨k, c, h1, h2, -⟩ := h.part b hb
    obtain ⟨l, h3, h4, h5, -⟩ := h.least k c h1
    obtain ⟨h6, h7⟩ := h.keeps k c l b h1 h3 hb h2
    refine ⟨l, ?_, h6, fun q hq => ?_⟩
    · rw [← h5]; exact List.mem_of_getElem? (bsOf_get h1)
    · show (stepM o (q : Int) l).toNat = (stepM o (q : Int) b).toNat
      rw [h7 (q : Int) (by omega) (by have : q < stN o := hq; omega)]
/-- The bytes of the cells, rising. -/
theorem cellsOk_filter {o : Option AM} {ls : List Nat} (h : CellsOk o ls) : ∃ p : Nat → Bool, bsOf (cellsM o) = (List.range 256).filter p ∧ ∀ b, p b = true ↔ b ∈ bsOf (cellsM o) := by
  have hb : bsOf (cellsM o) = ls := by
    apply List.ext_getElem?
    intro k
    by_cases hk : k < (cellsM o).length
    · obtain ⟨c, hc⟩ := get_some hk
      obtain ⟨l, h1, h2, h3, -⟩ := h.least k c hc
      rw [bsOf_get hc, h3, h1]
    · rw [List.getElem?_eq_none (by unfold bsOf; rw [List.length_map]; omega), List.getElem?_eq_none (by rw [h.len]; omega)]
  rw [hb]
  refine ⟨fun b => decide (b ∈ ls), ?_, fun b => by rw [decide_eq_true_eq]⟩
  have hlt : ∀ b ∈ ls, b < 256 := fun b hbm => by
    rw [← hb] at hbm
    obtain ⟨c, -, rfl⟩ := List.mem_map.1 hbm
    exact nextM_lt c 0
  have uniq : ∀ l m : List Nat, l.Pairwise (· < ·) → m.Pairwise (· < ·) → (∀ q, q ∈ l ↔ q ∈ m) → l = m := by
    intro l
    induction l with
    | nil =>
      intro m _ _ h
      cases m with
      | nil => rfl
      | cons y m => have := (h y).2 (by simp); cases this
    | cons x l ih =>
      intro m hl hm h
      cases m with
      | nil => have := (h x).1 (by simp); cases this
      | cons y m =>
        obtain ⟨h1, h2⟩ := List.pairwise_cons.1 hl
        obtain ⟨k1, k2⟩ := List.pairwise_cons.1 hm
        have hxy : x = y := by
          rcases List.mem_cons.1 ((h x).1 (by simp)) with e | hx
          · exact e
          · rcases List.mem_cons.1 ((h y).2 (by simp)) with e | hy
            · exact e.symm
            · have := h1 y hy; have := k1 x hx; omega
        subst hxy
        congr 1
        refine ih m h2 k2 fun q => ⟨fun hq => ?_, fun hq => ?_⟩
        · rcases List.mem_cons.1 ((h q).1 (by simp [hq])) with e | h3
          · have := h1 q hq; omega
          · exact h3
        · rcases List.mem_cons.1 ((h q).2 (by simp [hq])) with e | h3
          · have := k1 q hq; omega
          · exact h3
  refine uniq _ _ h.up ((List.pairwise_lt_range).filter _) fun q => ?_
  rw [List.mem_filter, List.mem_range, decide_eq_true_eq]
  exact ⟨fun hq => ⟨hlt q hq, hq⟩, fun hq => hq.2⟩
theorem canonStep_p {S : Nat → Prop} {H : Heap} {v : Value} {o : Option AM} {q b pb : Nat} (hS : ∀ k, S k → k < H.size) (hv : AutoV S H v o) (hc : VC.cell H pb 0 = some v) (hb : b < 256) :
    Pure Tryd.prog 43 #[.int .i64 (q : Int), .int .u8 (b : Int), .pointer (some ⟨pb, 0, none⟩)] H (.int .i64 (stepM o (q : Int) b)) := by
  refine FnOk.of_vc Tryd.func43 rfl (Tryd.call43 _) ?_
  (conv => whnf); refine ld1 (v := v) ct29 hc trivial ?_
  (conv => whnf); refine pures (step_p hS hv hb) fun H1 ha1 => ?_
  (conv => whnf)
  exact ⟨rfl, ha1⟩
def chM (F : List Nat) (z : Int) : Option Value := (F.findIdx? fun (k : Nat) => decide ((k : Int) = z)).map fun (i : Nat) => .int .i64 (i : Int)
theorem chM_get (F : List Nat) (k : Nat) : chM F (k : Int) = (F.findIdx? (· = k)).map fun (i : Nat) => .int .i64 (i : Int) := by
  unfold chM
  have e : (fun (x : Nat) => decide ((x : Int) = (k : Int))) = fun x => decide (x = k) := funext fun x => decide_eq_decide.2 (by omega)
  rw [e]
theorem chM_put {F : List Nat} {k : Nat} (hno : k ∉ F) : put (chM F) (k : Int) (some (.int .i64 (F.length : Int))) = chM (F ++ [k]) := by
  funext z
  unfold put chM
  rw [List.findIdx?_append]
  by_cases hz : z = (k : Int)
  · subst hz
    have : F.findIdx? (fun (x : Nat) => decide ((x : Int) = (k : Int))) = none := by
      rw [List.findIdx?_eq_none_iff]
      intro x hx
      exact decide_eq_false fun e => hno (by have : x = k := by omega
                                             rw [← this]; exact hx)
    rw [if_pos rfl, this]
    simp [List.findIdx?_cons]
  · rw [if_neg hz]
    cases h : F.findIdx? fun (x : Nat) => decide ((x : Int) = z) with
    | some i => simp
    | none =>
      have : (k : Int) ≠ z := fun e => hz e.symm
      simp [List.findIdx?_cons, this]
/-- States one for each class, in the order in which the classes are found; an automaton whose states they are. -/
structure LeadsC (M : PA) (O : List Nat) (st : Int → Nat → Int) (fi : Int → Bool) : Prop where
  lt : ∀ x ∈ O, x < M.n
  st : ∀ (i b x : Nat), O[i]? = some x → b < 256 → ∃ t y : Nat, st (i : Int) b = (t : Int) ∧ O[t]? = some y ∧ M.Eqv y (M.st x b)
  fi : ∀ (i x : Nat), O[i]? = some x → fi (i : Int) = M.fi x
def InOrder (M : PA) (O : List Nat) : Prop := ∃ P, IsCls M (allS M) P ∧ detW 65537 (cst M P) (P 0) = some (O.map P)
def intsN (O : List Nat) : List Int := O.map fun (x : Nat) => (x : Int)
def CanP (o : Option AM) (H H' : Heap) (v : Value) : Prop := ∃ (rows : List (List Nat)) (O : List Nat), soundB (cellsM o) (rows.map rowI) (O.map fun (x : Nat) => finM o (x : Int)).length = true ∧ AutoV (fun k => H.size ≤ k ∧ k < H'.size) H' v (some (madeM (cellsM o) (rows.map rowI) (O.map fun (x : Nat) => finM o (x : Int)))) ∧
  InOrder (paO o) O ∧ LeadsC (paO o) O (stepM (some (madeM (cellsM o) (rows.map rowI) (O.map fun (x : Nat) => finM o (x : Int))))) (finM (some (madeM (cellsM o) (rows.map rowI) (O.map fun (x : Nat) => finM o (x : Int))))) ∧ rows.length = O.length
theorem findIdx_in {K : Type} [DecidableEq K] {F : List K} {k : K} (h : k ∈ F) : F.findIdx? (· = k) = some (ixF F k) := by
  rw [List.findIdx?_eq_some_iff_getElem]
  have hlt := ixF_lt h
  have hg := (List.getElem?_eq_some_iff.1 (ixF_get h)).2
  refine ⟨hlt, decide_eq_true hg, fun j hj => ?_⟩
  have := List.not_of_lt_findIdx (p := fun x => decide (x = k)) (xs := F) (show j < F.findIdx (fun x => decide (x = k)) from hj)
  simpa using this
theorem findIdx_out {K : Type} [DecidableEq K] {F : List K} {k : K} (h : k ∉ F) : F.findIdx? (· = k) = none := by
  rw [List.findIdx?_eq_none_iff]
  intro x hx
  exact decide_eq_false fun e => h (by rw [← e]; exact hx)
theorem nodup_map {P : Nat → Nat} {O : List Nat} (h : (O.map P).Nodup) : O.Nodup := by
  unfold List.Nodup at h ⊢
  rw [List.pairwise_map] at h
  exact h.imp fun h e => h (by rw [e])
set_option maxHeartbeats 32000000 in
theorem canon_c {S : Nat → Prop} {H : Heap} {v : Value} {o : Option AM} (hS : ∀ k, S k → k < H.size) (hv : AutoV S H v o) (hco : ∃ ls, CellsOk o ls) (hpow : PowH Tryd.prog H) :
    FnOk Tryd.prog 15 #[v] H fun r H' => Agr (Old H) H H' ∧ CanP o H H' r := by
  obtain ⟨ls, hco⟩ := hco
  have hst := hv.steps
  have hn1 := hst.n1
  have hn2 := hst.n2
  have hM := paO_ok hst
  have hreps := cellsOk_reps hco
  have hcl := cellsOk_len hco
  have hVA : ∀ {G : Heap}, Agr (Old H) H G → AutoV S G v o := fun h => hv.frame (h.mono hS)
  have up : ∀ {G : Heap}, Agr (Old H) H G → ∀ k, S k → k < G.size := fun h k hk => old_lt h (hS k hk)
  have hv1 : v.oneCell' = true := by
    cases o with
    | none => obtain rfl := hv; rfl
    | some A => obtain ⟨pb, rfl, -⟩ := hv; rfl
  have hvc : v.cells.toList = [v] := by
    cases o with
    | none => obtain rfl := hv; rfl
    | some A => obtain ⟨pb, rfl, -⟩ := hv; rfl
  refine FnOk.of_vc Tryd.func15 rfl (Tryd.call15 _) ?_
  (conv => whnf); refine vbox [v] (by rw [← hvc]) ?_
  intro p H1 hp hs1 hb1 ha1
  have st1 := (St.nil H).box hp hs1 hb1 ha1
  (conv => whnf); refine ld1 (v := v) ct29 (by rw [(st1.blk 0 rfl).cell]; rfl) trivial ?_
  (conv => whnf); refine VCall.mk (cells_o (up st1.old) (hVA st1.old)) ?_
  rintro _ H2 ⟨ha2, -, hw2⟩
  obtain ⟨ca, cc, rfl, st2⟩ := st1.got ha2 hw2
  obtain ⟨cs, hcs⟩ : ∃ cs, cs = cellsM o := ⟨_, rfl⟩
  rw [← hcs] at st2 hcl hreps ⊢
  obtain ⟨by_, hby⟩ : ∃ by_, by_ = bsOf cs := ⟨_, rfl⟩
  have hbl : by_.length = cs.length := by rw [hby]; exact List.length_map _
  (conv => whnf); refine VCall.mk (reps7_c (S := Old H2) (fun k hk => hk) (st2.view 1 rfl) hcl) ?_
  rintro _ H3 ⟨ha3, ra, rc, rfl, hw3⟩
  obtain ⟨ra', rc', e3, st3⟩ := st2.got ha3 hw3
  injection e3 with e31 e32 e33
  subst e31; subst e33
  have hbi : bsI cs = intsN by_ := by rw [hby]; rfl
  have hil : (intsN by_).length = by_.length := List.length_map _
  rw [hbi, hil] at st3
  rw [← hbl]
  rw [← hby] at hreps
  (conv => whnf); refine ld1 (v := v) ct29 (by rw [(st3.blk 0 rfl).cell]; rfl) trivial ?_
  (conv => whnf); refine VCall.mk (blocks_c (S := Old H3) (by_ := by_) (fun k hk => hk) ((hVA st3.old).mono fun k hk => up st3.old k hk) (st3.view 2 rfl) hreps (by omega) (hpow.agr st3.old)) ?_
  rintro _ H4 ⟨ha4, P, ba, bc, hP, hPlt, rfl, hw4⟩
  obtain ⟨ba', bc', e4, st4⟩ := st3.got ha4 hw4
  injection e4 with e41 e42 e43
  subst e41; subst e43
  rw [tbl_len] at st4
  obtain ⟨n, hn⟩ : ∃ n, n = stN o := ⟨_, rfl⟩
  obtain ⟨M, hMe⟩ : ∃ M, M = paO o := ⟨_, rfl⟩
  have hMn : M.n = n := by rw [hMe, hn]; rfl
  rw [← hn] at st4 hn1 hn2 hPlt ⊢
  rw [← hMe] at hM hP hreps
  have hg : ∀ q, q < n → (tbl P n n)[q]? = some (P q : Int) := fun q hq => by rw [tbl_get hq, if_pos hq]
  (conv => whnf); refine mmakeW (Ok := anyK) (enc := kI) fun mb H5 hb5 hs5 hm5 ha5 => ?_
  have st5 := st4.mapNewW hb5 hs5 hm5 ha5
  (conv => whnf); refine vbuild1 sl33 [.int .i64 0] rfl rfl (by decide) (by decide) ?_
  intro ob H6 hob hs6 hb6 ha6
  have st6 := st5.new (T := tIk) (n := 1) (xs := [(0 : Int)]) hob hs6 hb6 ha6 (Ty.reps_one ⟨rfl, kint ⟨by decide, by decide⟩⟩) rfl (by unfold maxLen; omega)
  (conv => whnf); refine ixO (j := 0) sl33 st6 3 rfl (hg 0 (by omega)) rfl ?_
  rintro b7 o7 c7 hS7 hc7 ⟨rfl, -⟩
  (conv => whnf); refine ld1 ct3 hc7.one trivial ?_
  (conv => whnf); refine mputPW (a := (P 0 : Int)) st6 4 mapII keyIW trivial rfl rfl fun H7 st7 => ?_
  have hput0 : put (fun _ : Int => (none : Option Value)) (P 0 : Int) (some (.int .i64 0)) = chM [P 0] := chM_put (F := []) (by simp)
  rw [hput0] at st7
  have st8 : St H H7 [pB 29 p [v], pN tSet (fun _ => False) 73 ca cs.length cc cs, pS tU8 tByt ra by_.length rc (intsN by_), pS tIk 3 ba n bc (tbl P n n), pMW anyK kI mb (chM ([0].map P)), pS tIk 3 (some ⟨ob, 0, none⟩) 1 1 (intsN [0]), pN (tSl tIk) none_ 33 none 0 0 [], pS tBool 4 none 0 0 []] := (st7.nils (tSl tIk) 33).nils tBool 4
  (conv => whnf)
  refine VLoop.mk [8, 9, 10, 11] (fun x : Nat × List Nat × Option Addr × Nat × Option Addr × Nat × Option Addr × Nat => match x with | (i, O, oa, oc, na, nc, fa, fc) => [.slice oa O.length oc, .slice na i nc, .slice fa i fc, .int .i64 (i : Int)])
    (fun x H8 => match x with | (i, O, oa, oc, na, nc, fa, fc) => i ≤ O.length ∧ (∀ x ∈ O, x < n) ∧ (O.map P).Nodup ∧ ∃ rows Sn, rows.length = i ∧ rowsF 65537 (cst M P) by_ (P 0) i = some (O.map P, rows) ∧ St H H8 [pB 29 p [v], pN tSet (fun _ => False) 73 ca cs.length cc cs, pS tU8 tByt ra by_.length rc (intsN by_), pS tIk 3 ba n bc (tbl P n n), pMW anyK kI mb (chM (O.map P)), pS tIk 3 oa O.length oc (intsN O), pN (tSl tIk) Sn 33 na i nc (rows.map rowI), pS tBool 4 fa i fc ((O.take i).map fun (x : Nat) => finM o (x : Int))]) (fun x _ => 65537 - x.1) ?_ ?_
  · (conv => whnf)
    exact ⟨(0, [0], some ⟨ob, 0, none⟩, 1, none, 0, none, 0), rfl, Nat.zero_le _, (fun x hx => by rw [List.mem_singleton] at hx; subst hx; omega), by simp, [], none_, rfl, rfl, st8⟩
  · clear st8 st7 st6 st5 st4 st3 st2 st1 hput0
    rintro ⟨i, O, oa, oc, na, nc, fa, fc⟩ H8 junk8 ⟨hi, hOl, hOn, rows, Sn, hrl, hrun, st8⟩
    have hOlen := nodup_lt (nodup_map hOn) hOl
    (conv => whnf); refine VIte.mk (fun hz => ?_) (fun hz => ?_) <;> simp only [decide_eq_true_eq, decide_eq_false_iff_not] at hz
    · obtain ⟨x, hx⟩ := get_some (l := O) (k := i) (by omega)
      have hxn := hOl x (List.mem_of_getElem? hx)
      have hgx : (intsN O)[i]? = some (x : Int) := by unfold intsN; rw [List.getElem?_map, hx]; rfl
      have hxP : (O.map P)[i]? = some (P x) := by rw [List.getElem?_map, hx]; rfl
      have hnext : rowsF 65537 (cst M P) by_ (P 0) (i + 1) = (by_.foldl (rowF 65537 (cst M P) (P x)) (some (O.map P, []))).map fun r => (r.1, rows ++ [r.2]) := by
        show (rowsF 65537 (cst M P) by_ (P 0) i).bind _ = _
        rw [hrun]
        simp only [Option.bind_some, hxP]
      have st9 := st8.nils tIk 3
      (conv => whnf)
      refine VLoop.mk [8, 12, 40] (fun y : Nat × List Nat × List Nat × Option Addr × Nat × Option Addr × Nat => match y with | (j, O2, row, oa, oc, ra2, rc2) => [.slice oa O2.length oc, .slice ra2 row.length rc2, .int .i64 (j : Int)])
        (fun y H9 => match y with | (j, O2, row, oa, oc, ra2, rc2) => j ≤ by_.length ∧ (∀ x ∈ O2, x < n) ∧ (O2.map P).Nodup ∧ O <+: O2 ∧ row.length = j ∧ (by_.take j).foldl (rowF 65537 (cst M P) (P x)) (some (O.map P, [])) = some (O2.map P, row) ∧ St H H9 [pB 29 p [v], pN tSet (fun _ => False) 73 ca cs.length cc cs, pS tU8 tByt ra by_.length rc (intsN by_), pS tIk 3 ba n bc (tbl P n n), pMW anyK kI mb (chM (O2.map P)), pS tIk 3 oa O2.length oc (intsN O2), pN (tSl tIk) Sn 33 na i nc (rows.map rowI), pS tBool 4 fa i fc ((O.take i).map fun (x : Nat) => finM o (x : Int)), pS tIk 3 ra2 row.length rc2 (rowI row)]) (fun y _ => by_.length - y.1) ?_ ?_
      · (conv => whnf)
        exact ⟨(0, O, [], oa, oc, none, 0), rfl, Nat.zero_le _, hOl, hOn, List.prefix_refl _, rfl, rfl, st9⟩
      · clear st9 st8
        rintro ⟨j, O2, row, oa, oc, ra2, rc2⟩ H9 junk9 ⟨hj, hO2l, hO2n, hpre, hrowl, hfold, st9⟩
        have hO2len := nodup_lt (nodup_map hO2n) hO2l
        have hx2 := pre_get hpre hx
        have hgx2 : (intsN O2)[i]? = some (x : Int) := by unfold intsN; rw [List.getElem?_map, hx2]; rfl
        (conv => whnf); refine VIte.mk (fun hz2 => ?_) (fun hz2 => ?_) <;> simp only [decide_eq_true_eq, decide_eq_false_iff_not] at hz2
        · obtain ⟨b, hb⟩ := get_some (l := by_) (k := j) (by omega)
          have hb8 := hreps.lt b (List.mem_of_getElem? hb)
          have hgb : (intsN by_)[j]? = some (b : Int) := by unfold intsN; rw [List.getElem?_map, hb]; rfl
          have htn : M.st x b < n := by rw [← hMn]; exact hM.cl x b (by omega) hb8
          have hcst := cst_of hM hP (q := x) (b := b) (by omega) hb8
          have hstep : (by_.take (j + 1)).foldl (rowF 65537 (cst M P) (P x)) (some (O.map P, [])) = (atF 65537 (O2.map P) (P (M.st x b))).map fun r => (r.1, row ++ [r.2]) := by
            rw [take_succ_snoc hb, List.foldl_append, hfold, ← hcst]
            rfl
          (conv => whnf); refine ixO (j := j) sl85 st9 2 rfl hgb rfl ?_
          rintro b10 o10 c10 hS10 hc10 ⟨rfl, -⟩
          (conv => whnf); refine ld1 ct5 hc10.one trivial ?_
          (conv => whnf); refine ixO (j := i) sl33 st9 5 rfl hgx2 rfl ?_
          rintro b11 o11 c11 hS11 hc11 ⟨rfl, -⟩
          (conv => whnf); refine ld1 ct3 hc11.one trivial ?_
          (conv => whnf); refine pures (canonStep_p (up st9.old) (hVA st9.old) (by rw [(st9.blk 0 rfl).cell]; rfl) hb8) fun H12 ha12 => ?_
          have st12 := st9.call ha12
          have e12 : stepM o (x : Int) b = (M.st x b : Int) := by rw [hMe]; exact paO_st hst (by omega) hb8
          rw [e12]
          (conv => whnf); refine ixO (j := M.st x b) sl33 st12 3 rfl (hg _ htn) rfl ?_
          rintro b13 o13 c13 hS13 hc13 ⟨rfl, -⟩
          (conv => whnf); refine ld1 ct3 hc13.one trivial ?_
          (conv => whnf); refine mlookOkW (a := (P (M.st x b) : Int)) mapII keyIW trivial (st12.mapW 4 rfl) trivial ?_
          rw [chM_get]
          have hbi2 : 65536 < 65537 := by decide
          by_cases hm : P (M.st x b) ∈ O2.map P
          · rw [findIdx_in hm]
            have hat : atF 65537 (O2.map P) (P (M.st x b)) = some (O2.map P, ixF (O2.map P) (P (M.st x b))) := by unfold atF; rw [findIdx_in hm]
            have hlt := ixF_lt hm
            rw [List.length_map] at hlt
            rw [hat] at hstep
            generalize ixF (O2.map P) (P (M.st x b)) = t at *
            (conv => whnf); refine VSeq.run ?_
            (conv => whnf); refine vbuild1 sl33 [.int .i64 (t : Int)] rfl rfl (by decide) (by decide) ?_
            intro q14 H14 hq14 hs14 hb14 ha14
            have hrI : (rowI row).length = row.length := by unfold rowI; rw [List.length_map]
            (conv => whnf); refine app1 (x := (t : Int)) (st12.skip hq14 ha14) 8 sl33 rfl hb14 ⟨rfl, kint ⟨by omega, by omega⟩⟩ rfl (by rw [hrI]; omega) (by decide) fun a15 c15 H15 st15 _ => ?_
            have e1 : (rowI row).length + 1 = (row ++ [t]).length := by rw [hrI]; simp
            have e2 : rowI row ++ [(t : Int)] = rowI (row ++ [t]) := by unfold rowI; simp
            rw [e1, e2] at st15
            rw [e1]
            (conv => whnf); rw [w64 (x := (j : Int) + 1) (by omega) (by omega)]
            exact ⟨rfl, (j + 1, O2, row ++ [t], oa, oc, a15, c15), by simp, ⟨by omega, hO2l, hO2n, hpre, by simp [hrowl], hstep, st15⟩, by simp only; omega⟩
          · rw [findIdx_out hm]
            have hat : atF 65537 (O2.map P) (P (M.st x b)) = some ((O2 ++ [M.st x b]).map P, O2.length) := by
              unfold atF
              rw [findIdx_out hm]
              simp only
              rw [if_pos (by rw [List.length_map]; omega), List.map_append, List.length_map]
              rfl
            rw [hat] at hstep
            have hO3l : ∀ y ∈ O2 ++ [M.st x b], y < n := fun y hy => by
              rcases List.mem_append.1 hy with hy | hy
              · exact hO2l y hy
              · rw [List.mem_singleton] at hy; subst hy; exact htn
            have hO3n : ((O2 ++ [M.st x b]).map P).Nodup := by
              rw [List.map_append]
              exact List.nodup_append.2 ⟨hO2n, by simp, fun y hy z hz e => by simp only [List.map_cons, List.map_nil, List.mem_singleton] at hz; subst hz; subst e; exact hm hy⟩
            have hO3len := nodup_lt (nodup_map hO3n) hO3l
            rw [List.length_append, List.length_singleton] at hO3len
            have hput := chM_put (F := O2.map P) (k := P (M.st x b)) hm
            rw [List.length_map] at hput
            have hoI : (intsN O2).length = O2.length := by unfold intsN; rw [List.length_map]
            (conv => whnf); refine VSeq.run ?_
            (conv => whnf); refine ixO (j := M.st x b) sl33 st12 3 rfl (hg _ htn) rfl ?_
            rintro b14 o14 c14 hS14 hc14 ⟨rfl, -⟩
            (conv => whnf); refine ld1 ct3 hc14.one trivial ?_
            (conv => whnf); refine mputPW (a := (P (M.st x b) : Int)) st12 4 mapII keyIW trivial rfl hput fun H14 st14 => ?_
            (conv => whnf); refine vbuild1 sl33 [.int .i64 (M.st x b : Int)] rfl rfl (by decide) (by decide) ?_
            intro q15 H15 hq15 hs15 hb15 ha15
            (conv => whnf); refine app1 (x := (M.st x b : Int)) (st14.skip hq15 ha15) 5 sl33 rfl hb15 ⟨rfl, kint ⟨by omega, by omega⟩⟩ rfl (by rw [hoI]; omega) (by decide) fun a16 c16 H16 st16 _ => ?_
            have e3 : (intsN O2).length + 1 = (O2 ++ [M.st x b]).length := by rw [hoI]; simp
            have e4 : intsN O2 ++ [(M.st x b : Int)] = intsN (O2 ++ [M.st x b]) := by unfold intsN; simp
            rw [e3, e4] at st16
            rw [e3]
            (conv => whnf); refine vbuild1 sl33 [.int .i64 (O2.length : Int)] rfl rfl (by decide) (by decide) ?_
            intro q17 H17 hq17 hs17 hb17 ha17
            have hrI : (rowI row).length = row.length := by unfold rowI; rw [List.length_map]
            (conv => whnf); refine app1 (x := (O2.length : Int)) (st16.skip hq17 ha17) 8 sl33 rfl hb17 ⟨rfl, kint ⟨by omega, by omega⟩⟩ rfl (by rw [hrI]; omega) (by decide) fun a18 c18 H18 st18 _ => ?_
            have e1 : (rowI row).length + 1 = (row ++ [O2.length]).length := by rw [hrI]; simp
            have e2 : rowI row ++ [(O2.length : Int)] = rowI (row ++ [O2.length]) := by unfold rowI; simp
            rw [e1, e2] at st18
            rw [e1]
            (conv => whnf); rw [w64 (x := (j : Int) + 1) (by omega) (by omega)]
            have e5 : (O2 ++ [M.st x b]).map P = O2.map P ++ [P (M.st x b)] := by rw [List.map_append]; rfl
            rw [← e5] at st18
            exact ⟨rfl, (j + 1, O2 ++ [M.st x b], row ++ [O2.length], a16, c16, a18, c18), by simp, ⟨by omega, hO3l, hO3n, hpre.trans (List.prefix_append _ _), by simp [hrowl], hstep, st18⟩, by simp only; omega⟩
        · obtain rfl : j = by_.length := by omega
          rw [List.take_length] at hfold
          rw [hfold] at hnext
          simp only [Option.map_some] at hnext
          have hri : (rowI row).length = row.length := by unfold rowI; rw [List.length_map]
          have hrl2 : (rows.map rowI).length = i := by rw [List.length_map]; exact hrl
          have hend : ((O2.take (i + 1)).map fun (x : Nat) => finM o (x : Int)) = ((O.take i).map fun (x : Nat) => finM o (x : Int)) ++ [finM o (x : Int)] := by
            obtain ⟨t, rfl⟩ := hpre
            rw [List.take_append_of_le_length (by omega), take_succ_snoc hx, List.map_append]
            rfl
          have hel7 : ((O.take i).map fun (x : Nat) => finM o (x : Int)).length = i := by rw [List.length_map, List.length_take]; omega
          obtain ⟨ra', rc', er, hrow7, -⟩ := (st9.at_ 8 rfl).1.view (S' := slB (.slice ra2 row.length rc2)) (fun b hb => hb) (fun b hb => hb.elim)
          rw [hri] at er
          injection er with er1 er2 er3
          subst er1; subst er3
          have st10 := StB.absorb (st9.pick [6, 8, 0, 1, 2, 3, 4, 5, 7] (by decide))
          (conv => whnf); refine vbuild1 sl23 [.slice ra2 row.length rc2] rfl rfl (by decide) (by decide) ?_
          intro q11 H11 hq11 hs11 hb11 ha11
          have st11 := st10.skip hq11 ha11
          have hrow11 : SlD tIk (fun k => Sn k ∨ slB (.slice ra2 row.length rc2) k) H11 ra2 rc2 (rowI row) := (hrow7.frame (ha11.mono fun k hk => by
            have := (st9.in_ 8 rfl (.inl hk)).2
            omega)).mono fun k hk => .inr hk
          (conv => whnf); refine appNO (row := rowI row) st11 sl23 (hb11.cells fun j v hv => by rw [Nat.zero_add]; exact hv) ⟨ra2, rc2, by rw [hri], hrow11⟩ rfl (fun u hu => by cases List.mem_singleton.1 hu; rfl) (by rw [hrl2]; omega) (by decide) fun a12 c12 H12 st12 => ?_
          have e5 : rows.map rowI ++ [rowI row] = (rows ++ [row]).map rowI := by simp
          rw [hrl2, e5] at st12
          rw [hrl2]
          have d0 := st12.apart2 (i := 1) (j := 7) rfl rfl (by decide)
          have d6 := st12.apart2 (i := 6) (j := 7) rfl rfl (by decide)
          have hq0 : p < H12.size ∧ ¬ slB (.slice fa i fc) p := ⟨(st12.in_ 1 rfl rfl).2, fun h => d0 p rfl (.inl h)⟩
          have hoI : (intsN O2).length = O2.length := by unfold intsN; rw [List.length_map]
          obtain ⟨oa', oc', eo, hov, -⟩ := (st12.at_ 6 rfl).1.view (S' := fun k => k < H12.size ∧ ¬ slB (.slice fa i fc) k) (fun b hb => ⟨(st12.in_ 6 rfl (.inl hb)).2, fun h => d6 b (.inl hb) (.inl h)⟩) (fun b hb => hb.elim)
          rw [hoI] at eo
          injection eo with eo1 eo2 eo3
          subst eo1; subst eo3
          (conv => whnf); refine VDraw.held (fun k => k < H12.size ∧ ¬ slB (.slice fa i fc) k) 9 (sq [0,1,2,3,4,5] (.f 6 (.f 7 (.f 8 (.f 9 .e))))) rfl (by kernel_rfl) ?_
          (conv => whnf); refine ld1 (v := v) ct29 (by rw [(st12.blk 1 rfl).cell]; rfl) hq0 ?_
          (conv => whnf); refine ixrn (i := i) sl33 hov hoI.symm hgx2 rfl ?_
          rintro b13 o13 c13 hS13 hc13 ⟨rfl, -⟩
          (conv => whnf); refine ld1 ct3 hc13.one hS13 ?_
          (conv => whnf); refine pures (final_p (hVA st12.old)) fun H13 ha13 => ?_
          have st13 := st12.call ha13
          refine ⟨ha13.mono fun k hk => hk.1, ?_⟩
          (conv => whnf); refine vbuild1 sl24 [.bool (finM o (x : Int))] rfl rfl (by decide) (by decide) ?_
          intro q14 H14 hq14 hs14 hb14 ha14
          have st14 := st13.skip hq14 ha14
          have g14 : Agr (fun k => k < H12.size) H12 H14 := ha13.trans (ha14.mono fun k hk => by have := old_lt ha13 hk; omega)
          refine ⟨g14.mono fun k hk => hk.1, ?_⟩
          (conv => whnf); refine app1 (x := finM o (x : Int)) st14 7 sl24 rfl hb14 rfl rfl (by rw [hel7]; omega) (by decide) fun a15 c15 H15 st15 ha15 => ?_
          refine ⟨(g14.mono fun k hk => hk.1).trans (ha15.mono fun k hk => ⟨old_lt g14 hk.1, hk.2⟩), ?_⟩
          rw [hel7, ← hend] at st15
          rw [hel7]
          (conv => whnf); rw [w64 (x := (i : Int) + 1) (by omega) (by omega)]
          refine ⟨rfl, (i + 1, O2, oa, oc, a12, c12, a15, c15), by simp, ⟨?_, hO2l, hO2n, rows ++ [row], _, by simp [hrl], hnext, st15.pick [1, 2, 3, 4, 5, 6, 0, 7] (by decide)⟩, by simp only; omega⟩
          have := hpre.length_le
          omega
    · obtain rfl : i = O.length := by omega
      rw [List.take_length] at st8
      have hml : (O.map P).length = O.length := List.length_map _
      have hdet := detF_done hrun hml (by omega)
      have hrl2 : (rows.map rowI).length = O.length := by rw [List.length_map]; exact hrl
      have hfl2 : (O.map fun (x : Nat) => finM o (x : Int)).length = O.length := List.length_map _
      have hk := rowsF_ok (by decide) O.length (O.map P) rows hrun fun j hj => by omega
      have h0 := (List.getElem?_eq_some_iff.1 hk.zero).1
      have hs : soundB cs (rows.map rowI) (O.map fun (x : Nat) => finM o (x : Int)).length = true := by
        rw [soundB_iff]
        refine ⟨⟨by omega, by omega, by omega⟩, fun b hb => by rw [hcs]; exact cellsOk_cnt hco hb, fun r hr => ?_⟩
        obtain ⟨row, hrow, rfl⟩ := List.mem_map.1 hr
        obtain ⟨q, hq⟩ := List.getElem?_of_mem hrow
        have hcl1 := hk.cols row hrow
        unfold rowOk
        rw [Bool.and_eq_true, beq_iff_eq, List.all_eq_true]
        refine ⟨by unfold rowI; rw [List.length_map]; omega, fun t ht => ?_⟩
        obtain ⟨u, hu, rfl⟩ := List.mem_map.1 ht
        obtain ⟨k, hku⟩ := List.getElem?_of_mem hu
        obtain ⟨b, hb⟩ := get_some (l := by_) (k := k) (by have := (List.getElem?_eq_some_iff.1 hku).1; omega)
        have hql := (List.getElem?_eq_some_iff.1 hq).1
        obtain ⟨x, hx⟩ := get_some (l := O.map P) (k := q) (by omega)
        have := (List.getElem?_eq_some_iff.1 (hk.ok q k row b u x hq hb hku hx)).1
        simp only [Bool.and_eq_true, decide_eq_true_eq]
        omega
      have hnew := new_c ca na fa cc nc fc cs (rows.map rowI) (O.map fun (x : Nat) => finM o (x : Int)) (Old H8) H8 (fun k hk => hk) (st8.view 1 rfl) (st8.view 6 rfl) (st8.view 7 rfl)
      rw [hs, if_pos rfl, hrl2, hfl2] at hnew
      rw [hbl]
      (conv => whnf); refine VCall.mk hnew ?_
      rintro v9 H9 ⟨ha9, hs9, hv9⟩
      have st9 := st8.call ha9
      (conv => whnf)
      refine ⟨st9.old, rows, O, ?_⟩
      rw [← hcs, ← hMe]
      refine ⟨hs, hv9.mono fun k hk => ⟨Nat.le_trans (old_size st8.old) hk.1, hk.2⟩, ⟨P, hP, ?_⟩, ⟨fun x hx => by rw [hMn]; exact hOl x hx, fun i b x hx hb => ?_, fun i x hx => ?_⟩, hrl⟩
      · obtain ⟨pf, hpf, hpm⟩ := cellsOk_filter hco
        rw [← hcs, ← hby] at hpf
        rw [← hcs, ← hby] at hpm
        rw [← detW_of (P := fun _ => True) (p := pf) (fun b hb hpb => ?_) (by decide) trivial (fun _ _ _ => trivial), ← hpf, hdet]
        · rfl
        · obtain ⟨g, hg1, hg2, hg3⟩ := hreps.cov b hb
          have hgb : g ≠ b := fun e => by rw [e] at hg1; rw [(hpm b).2 hg1] at hpb; cases hpb
          refine ⟨g, by omega, (hpm g).2 hg1, fun k _ => ?_⟩
          unfold cst
          split
          · rename_i q hq
            rw [hg3 q (List.mem_range.1 (List.mem_of_find?_eq_some hq))]
          · rfl
      · have hil := (List.getElem?_eq_some_iff.1 hx).1
        obtain ⟨row, hrow⟩ := get_some (l := rows) (k := i) (by omega)
        have hcl1 := hk.cols row (List.mem_of_getElem? hrow)
        obtain ⟨c1, c2⟩ := soundB_cells hs hb
        obtain ⟨c, hc⟩ := get_some c1
        have hcb := c2 c hc
        obtain ⟨t, ht⟩ := get_some (l := row) (k := cellOf cs b) (by omega)
        have hbs : by_[cellOf cs b]? = some (nextM c 0).1 := by rw [hby]; exact bsOf_get hc
        have hxP : (O.map P)[i]? = some (P x) := by rw [List.getElem?_map, hx]; rfl
        have hok := hk.ok i _ row _ t (P x) hrow hbs ht hxP
        have hxn := hOl x (List.mem_of_getElem? hx)
        have hl8 := nextM_lt c 0
        rw [cst_of hM hP (by omega) hl8] at hok
        have htl := (List.getElem?_eq_some_iff.1 hok).1
        obtain ⟨y, hy⟩ := get_some (l := O) (k := t) (by omega)
        rw [List.getElem?_map, hy] at hok
        have hPy : P y = P (M.st x (nextM c 0).1) := by simpa using hok
        have hyn := hOl y (List.mem_of_getElem? hy)
        have hE := (hP y (List.mem_range.2 (by omega)) _ (List.mem_range.2 (hM.cl x _ (by omega) hl8))).1 hPy
        obtain ⟨l, k3, k4, k5, -⟩ := hco.least (cellOf cs b) c (by rw [← hcs]; exact hc)
        obtain ⟨-, k7⟩ := hco.keeps (cellOf cs b) c l b (by rw [← hcs]; exact hc) k3 hb hcb
        have hsame : M.st x (nextM c 0).1 = M.st x b := by
          rw [k5, hMe]
          show (stepM o (x : Int) l).toNat = (stepM o (x : Int) b).toNat
          rw [k7 (x : Int) (by omega) (by rw [← hn]; omega)]
        rw [hsame] at hE
        refine ⟨t, y, ?_, hy, hE⟩
        rw [madeM_step (row := rowI row) hs (by rw [List.getElem?_map, hrow]; rfl) hb]
        unfold rowI
        rw [List.getD_eq_getElem?_getD, List.getElem?_map, ht]
        rfl
      · rw [hMe]
        simp [finM, madeM, hx, paO]
end Go.Proofs.YthomdogheamfpaaDoor
/- louperef07.reached: the walk. -/
set_option linter.unusedVariables false
set_option linter.unusedSimpArgs false
set_option maxRecDepth 100000
namespace Go.Proofs.YthomdogheamfpaaDoor
open Go.VC
attribute [local irreducible] mRun gRun atRun
/-- The document's automaton says what M says. -/
structure DocM (D : DM) (M : PA) : Prop where
  n : M.n = D.next.length
  st : ∀ q b, q < M.n → b < 256 → stepD D (q : Int) b = (M.st q b : Int)
  fi : ∀ q, q < M.n → finD D (q : Int) = M.fi q
/-- Its columns have bytes that stand for them. -/
structure RepD (D : DM) (by_ : List Nat) : Prop where
  reps : D.reps = intsN by_
  rl : ∀ row ∈ D.next, row.length = by_.length
  le : by_.length ≤ 256
  lt : ∀ b ∈ by_, b < 256
  at_ : ∀ (c b : Nat), by_[c]? = some b → D.cell[b]? = some (c : Int)
  cov : ∀ b, b < 256 → ∃ c g : Nat, D.cell[b]? = some (c : Int) ∧ by_[c]? = some g ∧ g ≤ b
theorem RepD.get {D : DM} {M : PA} {by_ : List Nat} (h : RepD D by_) (hok : D.Ok) (hD : DocM D M) {q c b : Nat} (hq : q < M.n) (hb : by_[c]? = some b) : ∃ row, D.next[q]? = some row ∧ row[c]? = some (M.st q b : Int) := by
  have hb8 := h.lt b (List.mem_of_getElem? hb)
  obtain ⟨row, c', t, h1, h2, h3, -⟩ := hok.at (q := q) (b := b) (by rw [← hD.n]; exact hq) hb8
  have h4 := h.at_ c b hb
  rw [h4] at h2
  injection h2 with h2
  obtain rfl : c = c' := by omega
  refine ⟨row, h1, ?_⟩
  rw [h3, ← hD.st q b hq hb8, stepD_at h1 h4 h3]
theorem RepD.repsM {D : DM} {M : PA} {by_ : List Nat} (h : RepD D by_) (hok : D.Ok) (hD : DocM D M) : Reps M by_ := by
  refine ⟨h.lt, fun b hb => ?_⟩
  obtain ⟨c, g, h1, h2, h3⟩ := h.cov b hb
  refine ⟨g, List.mem_of_getElem? h2, h3, fun q hq => ?_⟩
  obtain ⟨row, k1, k2⟩ := h.get hok hD hq h2
  have e := hD.st q b hq hb
  obtain ⟨row', c', t, g1, g2, g3, -⟩ := hok.at (q := q) (b := b) (by rw [← hD.n]; exact hq) hb
  rw [h1] at g2
  injection g2 with g2
  obtain rfl : c = c' := by omega
  rw [k1] at g1
  injection g1 with g1
  subst g1
  rw [stepD_at k1 h1 k2] at e
  omega
def seenB (L : List Nat) (n : Nat) : List Bool := (List.range n).map fun (j : Nat) => decide (j ∈ L)
theorem seenB_len (L : List Nat) (n : Nat) : (seenB L n).length = n := by simp [seenB]
theorem seenB_get {L : List Nat} {n j : Nat} (h : j < n) : (seenB L n)[j]? = some (decide (j ∈ L)) := by
  unfold seenB
  rw [List.getElem?_map, List.getElem?_range h]
  rfl
theorem seenB_set {L : List Nat} {n q : Nat} (h : q < n) : (seenB L n).set q true = seenB (L ++ [q]) n := by
  apply List.ext_getElem?
  intro j
  by_cases hj : j < n
  · rw [seenB_get hj, List.getElem?_set, seenB_len]
    by_cases hjq : q = j
    · subst hjq; rw [if_pos rfl, if_pos hj]; simp
    · rw [if_neg hjq, seenB_get hj]
      refine congrArg some (decide_eq_decide.2 ?_)
      rw [List.mem_append, List.mem_singleton]
      exact ⟨.inl, fun h => h.resolve_right fun e => hjq e.symm⟩
  · rw [List.getElem?_eq_none (by rw [List.length_set, seenB_len]; omega), List.getElem?_eq_none (by rw [seenB_len]; omega)]
theorem seenB_nil (n : Nat) : seenB [] n = List.replicate n false := by
  unfold seenB
  simp [List.map_const']
/-- The states that words lead to, in order. -/
def IsWalk (M : PA) (L : List Nat) : Prop := ∃ rows, rowsF 65537 M.st (List.range 256) 0 L.length = some (L, rows)
theorem walk_all {M : PA} {L : List Nat} (hM : M.Ok) (h : IsWalk M L) : L.Nodup ∧ Closed M L ∧ L[0]? = some 0 := by
  obtain ⟨rows, h⟩ := h
  obtain ⟨i1, i2, i3, -⟩ := rows_inv (P := fun _ => True) (by decide) trivial (fun _ _ _ => trivial) _ L.length L rows h
  have hlt := rows_lt hM (by decide) L.length L rows h
  have hk := rowsF_ok (by decide) L.length L rows h fun j hj => hj
  refine ⟨i2, ⟨hlt, fun q hq b hb => ?_⟩, i3⟩
  obtain ⟨j, hj⟩ := List.getElem?_of_mem hq
  have hjl := (List.getElem?_eq_some_iff.1 hj).1
  obtain ⟨row, hrow⟩ := get_some (l := rows) (k := j) (by rw [hk.rl]; exact hjl)
  have hc := hk.cols row (List.mem_of_getElem? hrow)
  rw [List.length_range] at hc
  obtain ⟨t, ht⟩ := get_some (l := row) (k := b) (by omega)
  exact List.mem_of_getElem? (hk.ok j b row b t q hrow (List.getElem?_range hb) ht hj)
set_option maxHeartbeats 16000000 in
theorem reached_c {S : Nat → Prop} {H : Heap} {v : Value} {D : DM} {M : PA} (hS : ∀ k, S k → k < H.size) (hv : DfaV S H v D) (hok : D.Ok) (hD : DocM D M) (hM : M.Ok) :
    FnOk Tryd.prog 46 #[v] H fun r H' => Agr (Old H) H H' ∧ ∃ L la lc, IsWalk M L ∧ r = .slice la L.length lc ∧ SlO tIk none_ H' H.size 3 (.slice la L.length lc) (intsN L) := by
  have hn1 := hok.n1
  have hn2 := hok.n2
  have hMn := hD.n
  obtain ⟨n, hn⟩ : ∃ n, n = D.next.length := ⟨_, rfl⟩
  rw [← hn] at hn1 hn2 hMn
  have hv0 := hv
  obtain ⟨hl, ra, rc, na, nc, fa', fc, e, h1, h2, h3⟩ := hv0
  subst e
  have hl259 : (dfaL D.cell (.slice ra D.reps.length rc) (.slice na D.next.length nc) (.slice fa' D.final.length fc)).length = 259 := dfaL_len hl
  refine FnOk.of_vc Tryd.func46 rfl (Tryd.call46 _) ?_
  (conv => whnf); refine vbox (dfaL D.cell (.slice ra D.reps.length rc) (.slice na D.next.length nc) (.slice fa' D.final.length fc)) rfl ?_
  intro p H1 hp hs1 hb1 ha1
  have st1 := (St.nil H).box hp hs1 hb1 ha1
  have hld : ∀ {G : Heap} {ps : List Pc} (S0 : Nat → Prop) {K : Value → Prop} (st : St H G ps), ps[0]? = some (pB 35 p (dfaL D.cell (.slice ra D.reps.length rc) (.slice na D.next.length nc) (.slice fa' D.final.length fc))) → S0 p → K (.agg (dfaL D.cell (.slice ra D.reps.length rc) (.slice na D.next.length nc) (.slice fa' D.final.length fc)).toArray) → VDet Tryd.prog (Instr.loadAt 35 (.pointer (some ⟨p, 0, none⟩))) S0 G K := fun S0 K st hp hS0 hK =>
    ldN (cs := dfaL D.cell (.slice ra D.reps.length rc) (.slice na D.next.length nc) (.slice fa' D.final.length fc)) (by rw [hl259]; exact ag35) ((st.blk 0 hp).cells fun j v hv => by rw [Nat.zero_add]; exact hv) hS0 hK
  have hVD : ∀ {G : Heap}, Agr (Old H) H G → DfaV (Old G) G (.agg (dfaL D.cell (.slice ra D.reps.length rc) (.slice na D.next.length nc) (.slice fa' D.final.length fc)).toArray) D := fun h => (hv.frame (h.mono hS)).mono fun k hk => old_lt h (hS k hk)
  (conv => whnf); refine VC.fa fl35_2 ?_
  (conv => whnf); refine ld1 (v := .slice na D.next.length nc) ct23 (by rw [(st1.blk 0 rfl).cell, Nat.zero_add]; exact dfaL_257 hl) trivial ?_
  rw [← hn]
  (conv => whnf); refine vmake1 sl24 rfl (by omega) (by omega) (by omega) (by omega) ?_
  intro sb H2 hsb hs2 hb2 ha2
  rw [Int.toNat_natCast] at hb2 ⊢
  have hbr : tBool.reps none_ H2 (List.replicate n (Value.bool false)) (List.replicate n false) := by
    have := bool_reps (S := none_) (H := H2) (List.replicate n false)
    rwa [List.map_replicate] at this
  have st2 := st1.new (T := tBool) (n := n) (xs := List.replicate n false) hsb hs2 (by simpa using hb2) ha2 hbr (by simp) (by unfold maxLen; omega)
  rw [← seenB_nil] at st2
  (conv => whnf); refine ix sl24 (by decide) (by omega) ?_
  (conv => whnf); refine st1O (j := 0) (x := true) st2 1 ct4 rfl rfl (by decide) (by rw [seenB_len]; omega) rfl (fun H' _ => rfl) fun H3 st3 => ?_
  rw [seenB_set (by omega), List.nil_append] at st3
  (conv => whnf); refine vbuild1 sl33 [.int .i64 0] rfl rfl (by decide) (by decide) ?_
  intro ob H4 hob hs4 hb4 ha4
  have st4 : St H H4 [pB 35 p (dfaL D.cell (.slice ra D.reps.length rc) (.slice na D.next.length nc) (.slice fa' D.final.length fc)), pS tBool 4 (some ⟨sb, 0, none⟩) n n (seenB [0] n), pS tIk 3 (some ⟨ob, 0, none⟩) 1 1 (intsN [0])] :=
    st3.new (T := tIk) (n := 1) (xs := [(0 : Int)]) hob hs4 hb4 ha4 (Ty.reps_one ⟨rfl, kint ⟨by decide, by decide⟩⟩) rfl (by unfold maxLen; omega)
  (conv => whnf)
  refine VLoop.mk [4, 5] (fun x : Nat × List Nat × Option Addr × Nat => match x with | (i, L, la, lc) => [.slice la L.length lc, .int .i64 (i : Int)])
    (fun x H5 => match x with | (i, L, la, lc) => i ≤ L.length ∧ (∃ rows, rowsF 65537 M.st (List.range 256) 0 i = some (L, rows)) ∧ St H H5 [pB 35 p (dfaL D.cell (.slice ra D.reps.length rc) (.slice na D.next.length nc) (.slice fa' D.final.length fc)), pS tBool 4 (some ⟨sb, 0, none⟩) n n (seenB L n), pS tIk 3 la L.length lc (intsN L)]) (fun x _ => 65537 - x.1) ?_ ?_
  · (conv => whnf)
    exact ⟨(0, [0], some ⟨ob, 0, none⟩, 1), rfl, Nat.zero_le _, ⟨[], rfl⟩, st4⟩
  · clear st4 st3 st2 hbr
    rintro ⟨i, L, la, lc⟩ H5 junk5 ⟨hi, ⟨rows, hrun⟩, st5⟩
    obtain ⟨i1, i2, i3, -⟩ := rows_inv (P := fun _ => True) (by decide) trivial (fun _ _ _ => trivial) _ i L rows hrun
    have hlt := rows_lt hM (by decide) i L rows hrun
    have hLn := nodup_lt i2 fun q hq => by have := hlt q hq; rw [hMn] at this; exact this
    (conv => whnf); refine VIte.mk (fun hz => ?_) (fun hz => ?_) <;> simp only [decide_eq_true_eq, decide_eq_false_iff_not] at hz
    · obtain ⟨x, hx⟩ := get_some (l := L) (k := i) (by omega)
      have hxn := hlt x (List.mem_of_getElem? hx)
      have hnext : rowsF 65537 M.st (List.range 256) 0 (i + 1) = ((List.range 256).foldl (rowF 65537 M.st x) (some (L, []))).map fun r => (r.1, rows ++ [r.2]) := by
        show (rowsF 65537 M.st (List.range 256) 0 i).bind _ = _
        rw [hrun]
        simp only [Option.bind_some, hx]
      (conv => whnf)
      refine VLoop.mk [4, 6] (fun y : Nat × List Nat × Option Addr × Nat => match y with | (b, L2, la, lc) => [.slice la L2.length lc, .int .i64 (b : Int)])
        (fun y H6 => match y with | (b, L2, la, lc) => b ≤ 256 ∧ (∃ row, (List.range b).foldl (rowF 65537 M.st x) (some (L, [])) = some (L2, row)) ∧ (∀ q ∈ L2, q < M.n) ∧ St H H6 [pB 35 p (dfaL D.cell (.slice ra D.reps.length rc) (.slice na D.next.length nc) (.slice fa' D.final.length fc)), pS tBool 4 (some ⟨sb, 0, none⟩) n n (seenB L2 n), pS tIk 3 la L2.length lc (intsN L2)]) (fun y _ => 256 - y.1) ?_ ?_
      · (conv => whnf)
        exact ⟨(0, L, la, lc), rfl, by decide, ⟨[], rfl⟩, hlt, st5⟩
      · clear st5
        rintro ⟨b, L2, la, lc⟩ H6 junk6 ⟨hb, ⟨row, hfold⟩, hlt2, st6⟩
        obtain ⟨j1, j2, hpre, -⟩ := row_pre _ L L2 [] row hfold i1 i2
        have hx2 := pre_get hpre hx
        have hL2n := nodup_lt j2 fun q hq => by have := hlt2 q hq; rw [hMn] at this; exact this
        have hLI : (intsN L2).length = L2.length := by unfold intsN; rw [List.length_map]
        have hgx : (intsN L2)[i]? = some (x : Int) := by unfold intsN; rw [List.getElem?_map, hx2]; rfl
        (conv => whnf); refine VIte.mk (fun hz2 => ?_) (fun hz2 => ?_) <;> simp only [decide_eq_true_eq, decide_eq_false_iff_not] at hz2
        · have hb8 : b < 256 := by omega
          have htn : M.st x b < n := by rw [← hMn]; exact hM.cl x b hxn hb8
          have hstep : (List.range (b + 1)).foldl (rowF 65537 M.st x) (some (L, [])) = (atF 65537 L2 (M.st x b)).map fun r => (r.1, row ++ [r.2]) := by
            rw [List.range_succ, List.foldl_append, hfold]
            rfl
          (conv => whnf); refine VSeq.run ?_
          (conv => whnf); refine VDraw.held (Old H6) 8 (sq [0,1,2,3,4,5,6] (.f 7 (.f 8 .e))) rfl (by kernel_rfl) ?_
          (conv => whnf); refine hld _ st6 rfl (st6.in_ 0 rfl rfl).2 ?_
          (conv => whnf); refine ixO (j := i) sl33 st6 2 rfl hgx rfl ?_
          rintro b7 o7 c7 hS7 hc7 ⟨rfl, -⟩
          (conv => whnf); refine ld1 ct3 hc7.one hS7 ?_
          (conv => whnf); rw [w8 (x := (b : Int)) (by omega) (by omega)]
          (conv => whnf); refine pures (refstep_p (fun k hk => hk) (hVD st6.old) hok hb8) fun H8 ha8 => ?_
          have st8 := st6.call ha8
          refine ⟨ha8, ?_⟩
          rw [hD.st x b hxn hb8]
          (conv => whnf); refine ixO (j := M.st x b) sl24 st8 1 rfl (seenB_get htn) rfl ?_
          rintro b9 o9 c9 hS9 hc9 rfl
          (conv => whnf); refine ld1 ct4 hc9.one trivial ?_
          by_cases hm : M.st x b ∈ L2
          · have d1 : decide (M.st x b ∈ L2) = true := decide_eq_true hm
            have hat : atF 65537 L2 (M.st x b) = some (L2, ixF L2 (M.st x b)) := by unfold atF; rw [findIdx_in hm]
            rw [hat] at hstep
            (conv => whnf); rw [d1]
            (conv => whnf); rw [w64 (x := (b : Int) + 1) (by omega) (by omega)]
            exact ⟨rfl, (b + 1, L2, la, lc), by simp, ⟨by omega, ⟨_, hstep⟩, hlt2, st8⟩, by simp only; omega⟩
          · have d1 : decide (M.st x b ∈ L2) = false := decide_eq_false hm
            have hat : atF 65537 L2 (M.st x b) = some (L2 ++ [M.st x b], L2.length) := by
              unfold atF
              rw [findIdx_out hm]
              simp only
              rw [if_pos (by omega)]
            rw [hat] at hstep
            (conv => whnf); rw [d1]
            (conv => whnf); refine ix sl24 (by omega) (by omega) ?_
            (conv => whnf); refine st1O (j := M.st x b) (x := true) st8 1 ct4 rfl rfl (by omega) (by rw [seenB_len]; omega) rfl (fun H' _ => rfl) fun H10 st10 => ?_
            rw [seenB_set htn] at st10
            (conv => whnf); refine vbuild1 sl33 [.int .i64 (M.st x b : Int)] rfl rfl (by decide) (by decide) ?_
            intro q11 H11 hq11 hs11 hb11 ha11
            (conv => whnf); refine app1 (x := (M.st x b : Int)) (st10.skip hq11 ha11) 2 sl33 rfl hb11 ⟨rfl, kint ⟨by omega, by omega⟩⟩ rfl (by rw [hLI]; omega) (by decide) fun a12 c12 H12 st12 _ => ?_
            have e1 : (intsN L2).length + 1 = (L2 ++ [M.st x b]).length := by rw [hLI]; simp
            have e2 : intsN L2 ++ [(M.st x b : Int)] = intsN (L2 ++ [M.st x b]) := by unfold intsN; simp
            rw [e1, e2] at st12
            rw [e1]
            (conv => whnf); rw [w64 (x := (b : Int) + 1) (by omega) (by omega)]
            exact ⟨rfl, (b + 1, L2 ++ [M.st x b], a12, c12), by simp, ⟨by omega, ⟨_, hstep⟩, fun q hq => by
              rcases List.mem_append.1 hq with hq | hq
              · exact hlt2 q hq
              · rw [List.mem_singleton] at hq; subst hq; rw [hMn]; exact htn, st12⟩, by simp only; omega⟩
        · obtain rfl : b = 256 := by omega
          rw [hfold] at hnext
          simp only [Option.map_some] at hnext
          have hle := hpre.length_le
          (conv => whnf); rw [w64 (x := (i : Int) + 1) (by omega) (by omega)]
          exact ⟨rfl, (i + 1, L2, la, lc), by simp, ⟨by omega, ⟨_, hnext⟩, st6⟩, by simp only; omega⟩
    · obtain rfl : i = L.length := by omega
      (conv => whnf)
      exact ⟨st5.old, L, la, lc, ⟨rows, hrun⟩, rfl, St.own st5 2 rfl⟩
end Go.Proofs.YthomdogheamfpaaDoor
/- louperef07.parts: the walk. -/
set_option linter.unusedVariables false
set_option linter.unusedSimpArgs false
set_option maxRecDepth 100000
namespace Go.Proofs.YthomdogheamfpaaDoor
open Go.VC
attribute [local irreducible] mRun gRun atRun
def tblS (f : Nat → Nat) (X : List Nat) (n : Nat) : List Int := (List.range n).map fun p => if p ∈ X then (f p : Int) else 0
theorem tblS_len (f : Nat → Nat) (X : List Nat) (n : Nat) : (tblS f X n).length = n := by simp [tblS]
theorem tblS_get {f : Nat → Nat} {X : List Nat} {n p : Nat} (h : p < n) : (tblS f X n)[p]? = some (if p ∈ X then (f p : Int) else 0) := by
  unfold tblS
  rw [List.getElem?_map, List.getElem?_range h]
  rfl
theorem tblS_set {f : Nat → Nat} {X : List Nat} {n q : Nat} (h : q < n) : (tblS f X n).set q (f q : Int) = tblS f (X ++ [q]) n := by
  apply List.ext_getElem?
  intro j
  by_cases hj : j < n
  · rw [tblS_get hj, List.getElem?_set, tblS_len]
    by_cases hk : q = j
    · subst hk; rw [if_pos rfl, if_pos hj, if_pos (by simp)]
    · rw [if_neg hk, tblS_get hj]
      by_cases h1 : j ∈ X
      · rw [if_pos h1, if_pos (List.mem_append_left _ h1)]
      · rw [if_neg h1, if_neg fun h => by
          rcases List.mem_append.1 h with h | h
          · exact h1 h
          · rw [List.mem_singleton] at h; exact hk h.symm]
  · rw [List.getElem?_eq_none (by rw [List.length_set, tblS_len]; omega), List.getElem?_eq_none (by rw [tblS_len]; omega)]
theorem tblS_skip {f : Nat → Nat} {X : List Nat} {n q : Nat} (h : f q = 0) : tblS f X n = tblS f (X ++ [q]) n := by
  unfold tblS
  refine List.map_congr_left fun p hp => ?_
  by_cases h1 : p ∈ X
  · rw [if_pos h1, if_pos (List.mem_append_left _ h1)]
  · rw [if_neg h1]
    by_cases h2 : p = q
    · subst h2; rw [if_pos (by simp), h]; rfl
    · rw [if_neg fun h => by
        rcases List.mem_append.1 h with h | h
        · exact h1 h
        · rw [List.mem_singleton] at h; exact h2 h]
theorem tblS_nil (f : Nat → Nat) (n : Nat) : tblS f [] n = List.replicate n 0 := by
  unfold tblS
  simp [List.map_const']
theorem cls_le {M : PA} {by_ l : List Nat} {P : Nat → Nat} : cls l P ≤ (found M by_ l P).length := by
  have h1 := sub_len (a := dd (l.map P)) (b := (found M by_ l P).map fun k => k.headD 0) (dd_nd _) fun x hx => by
    obtain ⟨y, hy, rfl⟩ := List.mem_map.1 ((dd_mem _ _).1 hx)
    exact List.mem_map.2 ⟨keyR M by_ P y, (dd_mem _ _).2 (List.mem_map.2 ⟨y, hy, rfl⟩), rfl⟩
  rw [List.length_map] at h1
  exact h1
theorem keyR_eq {M : PA} {by_ : List Nat} {P : Nat → Nat} {p q : Nat} : keyR M by_ P p = keyR M by_ P q ↔ P p = P q ∧ ∀ b ∈ by_, P (M.st p b) = P (M.st q b) := by
  unfold keyR
  rw [List.cons.injEq, List.map_inj_left]
set_option maxHeartbeats 32000000 in
theorem parts_c {S : Nat → Prop} {H : Heap} {v : Value} {D : DM} {M : PA} {by_ L : List Nat} {la : Option Addr} {lc : Nat} (hS : ∀ k, S k → k < H.size) (hv : DfaV S H v D) (hok : D.Ok) (hD : DocM D M) (hM : M.Ok) (hR : RepD D by_) (hL : Closed M L) (hLn : L.Nodup) (hL0 : 0 < L.length) (hLv : SlD tIk S H la lc (intsN L)) :
    FnOk Tryd.prog 47 #[v, .slice la L.length lc] H fun r H' => Agr (Old H) H H' ∧ ∃ P ra rc, IsCls M L P ∧ (∀ q ∈ L, P q < L.length) ∧ r = .slice ra D.next.length rc ∧ SlO tIk none_ H' H.size 3 (.slice ra D.next.length rc) (tblS P L D.next.length) := by
  have hn1 := hok.n1
  have hn2 := hok.n2
  have hMn := hD.n
  have hfl := hok.fl
  have hreps := hR.repsM hok hD
  have hble := hR.le
  obtain ⟨n, hn⟩ : ∃ n, n = D.next.length := ⟨_, rfl⟩
  rw [← hn] at hn1 hn2 hMn hfl
  have hLl := nodup_lt hLn fun q hq => by have := hL.lt q hq; rw [hMn] at this; exact this
  have hLt : ∀ q ∈ L, q < n := fun q hq => by have := hL.lt q hq; rw [hMn] at this; exact this
  have hLI : (intsN L).length = L.length := by unfold intsN; rw [List.length_map]
  have hgL : ∀ {i q : Nat}, L[i]? = some q → (intsN L)[i]? = some (q : Int) := fun h => by unfold intsN; rw [List.getElem?_map, h]; rfl
  have hv0 := hv
  obtain ⟨hl, ra, rc, na, nc, fa', fc, e, h1, h2, h3⟩ := hv0
  subst e
  have hby : D.reps.length = by_.length := by rw [hR.reps]; exact List.length_map _
  refine FnOk.of_vc Tryd.func47 rfl (Tryd.call47 _) ?_
  (conv => whnf); refine vbox (dfaL D.cell (.slice ra D.reps.length rc) (.slice na D.next.length nc) (.slice fa' D.final.length fc)) rfl ?_
  intro p H1 hp hs1 hb1 ha1
  have st1 := (St.nil H).box hp hs1 hb1 ha1
  obtain ⟨dl, hdl⟩ : ∃ dl, dl = dfaL D.cell (.slice ra D.reps.length rc) (.slice na D.next.length nc) (.slice fa' D.final.length fc) := ⟨_, rfl⟩
  have hd6 : dl[256]? = some (.slice ra by_.length rc) := by rw [hdl, ← hby]; exact dfaL_256 hl
  have hd7 : dl[257]? = some (.slice na n nc) := by rw [hdl, hn]; exact dfaL_257 hl
  have hd8 : dl[258]? = some (.slice fa' D.final.length fc) := by rw [hdl]; exact dfaL_258 hl
  rw [← hdl] at st1
  have hnx : ∀ {G : Heap}, Agr (Old H) H G → SlD tRows S G na nc D.next := fun h => h2.frame (h.mono hS)
  have hfn : ∀ {G : Heap}, Agr (Old H) H G → SlD tBool S G fa' fc D.final := fun h => h3.frame (h.mono hS)
  have hLw : ∀ {G : Heap}, Agr (Old H) H G → SlD tIk S G la lc (intsN L) := fun h => hLv.frame (h.mono hS)
  (conv => whnf); refine VC.fa fl35_2 ?_
  (conv => whnf); refine ld1 (v := .slice na n nc) ct23 (by rw [(st1.blk 0 rfl).cell, Nat.zero_add]; exact hd7) trivial ?_
  (conv => whnf); refine vmake1 sl33 rfl (by omega) (by omega) (by omega) (by omega) ?_
  intro pb H2 hpb hs2 hb2 ha2
  rw [Int.toNat_natCast] at hb2 ⊢
  have st2 := st1.new (T := tIk) (n := n) (xs := List.replicate n (0 : Int)) hpb hs2 (by simpa using hb2) ha2 (zeros_reps n) (by simp) (by unfold maxLen; omega)
  let P0 : Nat → Nat := fun q => if M.fi q then 1 else 0
  have hP0 : ∀ q, P0 q = if M.fi q then 1 else 0 := fun _ => rfl
  rw [← tblS_nil P0 n] at st2
  (conv => whnf)
  refine VLoop.mk [6] (fun i : Nat => [.int .i64 (i : Int)]) (fun i H3 => i ≤ L.length ∧ St H H3 [pB 35 p dl, pS tIk 3 (some ⟨pb, 0, none⟩) n n (tblS P0 (L.take i) n)]) (fun i _ => L.length - i) ?_ ?_
  · (conv => whnf)
    exact ⟨0, rfl, Nat.zero_le _, st2⟩
  · clear st2 hb2 ha2 hs2
    rintro i H3 junk3 ⟨hi, st3⟩
    (conv => whnf); refine VIte.mk (fun hz => ?_) (fun hz => ?_) <;> simp only [decide_eq_true_eq, decide_eq_false_iff_not] at hz
    · obtain ⟨q, hq⟩ := get_some (l := L) (k := i) (by omega)
      have hqn := hLt q (List.mem_of_getElem? hq)
      have htk := take_succ_snoc hq
      (conv => whnf); refine VSeq.run ?_
      (conv => whnf); refine VDraw.lex rfl (by kernel_rfl) ?_
      (conv => whnf); refine VC.fa fl35_3 ?_
      (conv => whnf); refine ld1 (v := .slice fa' D.final.length fc) ct24 (by rw [(st3.blk 0 rfl).cell, Nat.zero_add]; exact hd8) trivial ?_
      (conv => whnf); refine ixrn (i := i) sl33 (hLw st3.old) hLI.symm (hgL hq) rfl ?_
      rintro b5 o5 c5 hS5 hc5 ⟨rfl, -⟩
      (conv => whnf); refine ld1 ct3 hc5.one trivial ?_
      (conv => whnf); refine fin_ix (hfn st3.old) (by omega) (by omega) fun b6 o6 hS6 hc6 => ?_
      (conv => whnf); refine ld1 ct4 hc6 trivial ?_
      rw [hD.fi q (by omega)]
      cases hf : M.fi q with
      | true =>
        have e0 : P0 q = 1 := by rw [hP0, hf]; rfl
        (conv => whnf); refine ixrn (i := i) sl33 (hLw st3.old) hLI.symm (hgL hq) rfl ?_
        rintro b7 o7 c7 hS7 hc7 ⟨rfl, -⟩
        (conv => whnf); refine ld1 ct3 hc7.one trivial ?_
        (conv => whnf); refine ix sl33 (by omega) (by omega) ?_
        (conv => whnf); refine st1O (j := q) (x := (P0 q : Int)) st3 1 ct3 rfl rfl (by omega) (by rw [tblS_len]; omega) rfl (fun H' _ => by rw [e0]; exact ⟨rfl, kint ⟨by decide, by decide⟩⟩) fun H8 st8 => ?_
        rw [tblS_set hqn, ← htk] at st8
        (conv => whnf); rw [w64 (x := (i : Int) + 1) (by omega) (by omega)]
        exact ⟨rfl, i + 1, by simp, ⟨by omega, st8⟩, by omega⟩
      | false =>
        have e0 : P0 q = 0 := by rw [hP0, hf]; rfl
        rw [tblS_skip e0, ← htk] at st3
        (conv => whnf); rw [w64 (x := (i : Int) + 1) (by omega) (by omega)]
        exact ⟨rfl, i + 1, by simp, ⟨by omega, st3⟩, by omega⟩
    · obtain rfl : i = L.length := by omega
      rw [List.take_length] at st3
      have hI0 : RndI M L P0 := ⟨fun p hp r hr he => by rw [hP0, hP0, he.fi], fun p hp r hr he => by
        rw [hP0, hP0] at he
        cases h1 : M.fi p <;> cases h2 : M.fi r <;> rw [h1, h2] at he <;> first | rfl | (exact absurd he (by decide))⟩
      have hlt0 : ∀ q ∈ L, P0 q < 65536 := fun q _ => by rw [hP0]; split <;> decide
      clear_value P0
      (conv => whnf)
      refine VLoop.mk [5, 7] (fun x : (Nat → Nat) × Nat × Option Addr × Nat => match x with | (P, cnt, xa, xc) => [.slice xa n xc, .int .i64 (cnt : Int)])
        (fun x H4 => match x with | (P, cnt, xa, xc) => RndI M L P ∧ (∀ q ∈ L, P q < 65536) ∧ (cnt = 0 ∨ cls L P = cnt) ∧ cnt ≤ n ∧ St H H4 [pB 35 p dl, pS tIk 3 xa n xc (tblS P L n)]) (fun x _ => n + 1 - x.2.1) ?_ ?_
      · (conv => whnf)
        exact ⟨(P0, 0, some ⟨pb, 0, none⟩, n), rfl, hI0, hlt0, .inl rfl, Nat.zero_le _, st3⟩
      · clear hI0 hlt0 st3 hz hP0
        rintro ⟨P, cnt, xa, xc⟩ H4 junk4 ⟨hI, hPl, hcnt, hcn, st4⟩
        obtain ⟨R, hRe⟩ : ∃ R, R = refine_ M by_ L P := ⟨_, rfl⟩
        obtain ⟨key, hkey⟩ : ∃ key, key = keyR M by_ P := ⟨_, rfl⟩
        have hgP : ∀ q ∈ L, (tblS P L n)[q]? = some (P q : Int) := fun q hq => by rw [tblS_get (hLt q hq), if_pos hq]
        (conv => whnf); refine VC.fa fl35_2 ?_
        (conv => whnf); refine ld1 (v := .slice na n nc) ct23 (by rw [(st4.blk 0 rfl).cell, Nat.zero_add]; exact hd7) trivial ?_
        (conv => whnf); refine vmake1 sl33 rfl (by omega) (by omega) (by omega) (by omega) ?_
        intro nb H6 hnb hs6 hb6 ha6
        rw [Int.toNat_natCast] at hb6 ⊢
        have st6 := (st4.new (T := tIk) (n := n) (xs := List.replicate n (0 : Int)) hnb hs6 (by simpa using hb6) ha6 (zeros_reps n) (by simp) (by unfold maxLen; omega)).nils tIk 3
        rw [← tblS_nil R n] at st6
        (conv => whnf)
        refine VLoop.mk [9, 10] (fun x : Nat × List Nat × Option Addr × Nat => match x with | (i, C, ca, cc) => [.slice ca C.length cc, .int .i64 (i : Int)])
          (fun x H7 => match x with | (i, C, ca, cc) => i ≤ L.length ∧ C.map key = dd ((L.take i).map key) ∧ (∀ q ∈ C, q ∈ L) ∧ St H H7 [pB 35 p dl, pS tIk 3 xa n xc (tblS P L n), pS tIk 3 (some ⟨nb, 0, none⟩) n n (tblS R (L.take i) n), pS tIk 3 ca C.length cc (intsN C)]) (fun x _ => L.length - x.1) ?_ ?_
        · (conv => whnf)
          exact ⟨(0, [], none, 0), rfl, Nat.zero_le _, rfl, (fun q hq => by cases hq), st6⟩
        · clear st6 st4 hb6 ha6 hs6
          rintro ⟨i, C, ca, cc⟩ H7 junk7 ⟨hi, hC, hCL, st7⟩
          have hCd : (C.map key).Nodup := by rw [hC]; exact dd_nd _
          have hCl : C.length ≤ L.length := by
            have := dd_len ((L.take i).map key)
            rw [← hC, List.length_map, List.length_map, List.length_take] at this
            omega
          have hCI : (intsN C).length = C.length := by unfold intsN; rw [List.length_map]
          have hgC : ∀ {k y : Nat}, C[k]? = some y → (intsN C)[k]? = some (y : Int) := fun h => by unfold intsN; rw [List.getElem?_map, h]; rfl
          (conv => whnf); refine VIte.mk (fun hz => ?_) (fun hz => ?_) <;> simp only [decide_eq_true_eq, decide_eq_false_iff_not] at hz
          · obtain ⟨q, hq⟩ := get_some (l := L) (k := i) (by omega)
            have hqL := List.mem_of_getElem? hq
            have hqn := hLt q hqL
            have htk := take_succ_snoc hq
            have hdd : dd ((L.take (i + 1)).map key) = if key q ∈ dd ((L.take i).map key) then dd ((L.take i).map key) else dd ((L.take i).map key) ++ [key q] := by
              rw [htk, List.map_append, List.map_cons, List.map_nil, dd_snoc]
              by_cases h : key q ∈ dd ((L.take i).map key)
              · rw [if_pos h, if_pos h]
              · rw [if_neg h, if_neg h]
            have hRq : R q = ixF (dd ((L.take (i + 1)).map key)) (key q) := by
              rw [hRe, hkey]
              refine ixF_pre ?_ ((dd_mem _ _).2 (List.mem_map.2 ⟨q, by rw [htk]; simp, rfl⟩))
              have e : L = L.take (i + 1) ++ L.drop (i + 1) := (List.take_append_drop _ _).symm
              unfold found
              conv => rhs; rw [e, List.map_append]
              exact dd_pre _ _
            (conv => whnf); refine ixrn (i := i) sl33 (hLw st7.old) hLI.symm (hgL hq) rfl ?_
            rintro b8 o8 c8 hS8 hc8 ⟨rfl, -⟩
            (conv => whnf); refine ld1 ct3 hc8.one trivial ?_
            (conv => whnf)
            refine VLoop.mk [12, 13] (fun x : Int × Nat => match x with | (m, k) => [.int .i64 m, .int .i64 (k : Int)])
              (fun x H8 => match x with | (m, k) => k ≤ C.length ∧ ((m = -1 ∧ ∀ (k' y : Nat), k' < k → C[k']? = some y → key y ≠ key q) ∨ ∃ k0 y : Nat, m = (k0 : Int) ∧ C[k0]? = some y ∧ key y = key q) ∧ St H H8 [pB 35 p dl, pS tIk 3 xa n xc (tblS P L n), pS tIk 3 (some ⟨nb, 0, none⟩) n n (tblS R (L.take i) n), pS tIk 3 ca C.length cc (intsN C)]) (fun x _ => C.length - x.2) ?_ ?_
            · (conv => whnf)
              exact ⟨(-1, 0), rfl, Nat.zero_le _, .inl ⟨rfl, fun k' y h => by omega⟩, st7⟩
            · clear st7
              rintro ⟨m, k⟩ H9 junk9 ⟨hk, hm, st9⟩
              have finish : ∀ (G : Heap), St H G [pB 35 p dl, pS tIk 3 xa n xc (tblS P L n), pS tIk 3 (some ⟨nb, 0, none⟩) n n (tblS R (L.take i) n), pS tIk 3 ca C.length cc (intsN C)] → ((m = -1 ∧ ∀ (k' y : Nat), k' < C.length → C[k']? = some y → key y ≠ key q) ∨ ∃ k0 y : Nat, m = (k0 : Int) ∧ C[k0]? = some y ∧ key y = key q) → True := fun _ _ _ => trivial
              by_cases hkC : k < C.length
              · have d1 : decide ((k : Int) < (C.length : Int)) = true := decide_eq_true (by omega)
                (conv => whnf); rw [d1]
                rcases hm with ⟨rfl, hno⟩ | ⟨k0, y0, rfl, hk0, hy0⟩
                · obtain ⟨y, hy⟩ := get_some hkC
                  have hyL := hCL y (List.mem_of_getElem? hy)
                  have hyn := hLt y hyL
                  (conv => whnf); refine VSeq.run ?_
                  (conv => whnf); refine VDraw.lex rfl (by kernel_rfl) ?_
                  (conv => whnf); refine ixO (j := q) sl33 st9 1 rfl (hgP q hqL) rfl ?_
                  rintro b10 o10 c10 hS10 hc10 ⟨rfl, -⟩
                  (conv => whnf); refine ld1 ct3 hc10.one trivial ?_
                  (conv => whnf); refine ixO (j := k) sl33 st9 3 rfl (hgC hy) rfl ?_
                  rintro b11 o11 c11 hS11 hc11 ⟨rfl, -⟩
                  (conv => whnf); refine ld1 ct3 hc11.one trivial ?_
                  (conv => whnf); refine ixO (j := y) sl33 st9 1 rfl (hgP y hyL) rfl ?_
                  rintro b12 o12 c12 hS12 hc12 ⟨rfl, -⟩
                  (conv => whnf); refine ld1 ct3 hc12.one trivial ?_
                  (conv => whnf)
                  refine VLoop.mk [14, 15] (fun x : Bool × Nat => match x with | (sm, c) => [.bool sm, .int .i64 (c : Int)])
                    (fun x H10 => match x with | (sm, c) => c ≤ by_.length ∧ (sm = true → P y = P q ∧ ∀ b ∈ by_.take c, P (M.st y b) = P (M.st q b)) ∧ (sm = false → key y ≠ key q) ∧ St H H10 [pB 35 p dl, pS tIk 3 xa n xc (tblS P L n), pS tIk 3 (some ⟨nb, 0, none⟩) n n (tblS R (L.take i) n), pS tIk 3 ca C.length cc (intsN C)]) (fun x _ => by_.length - x.2) ?_ ?_
                  · (conv => whnf)
                    refine ⟨((P q : Int) == (P y : Int), 0), rfl, Nat.zero_le _, fun h => ⟨by have := eq_of_beq h; omega, fun b hb => by simp at hb⟩, fun h e => ?_, st9⟩
                    rw [hkey] at e
                    rw [(keyR_eq.1 e).1] at h
                    simp at h
                  · clear st9
                    rintro ⟨sm, c⟩ H13 junk13 ⟨hc, hs1, hs0, st13⟩
                    (conv => whnf); refine VC.fa fl35_1 ?_
                    (conv => whnf); refine ld1 (v := .slice ra by_.length rc) ct33 (by rw [(st13.blk 0 rfl).cell, Nat.zero_add]; exact hd6) trivial ?_
                    by_cases hcl : c < by_.length
                    · have d2 : decide ((c : Int) < (by_.length : Int)) = true := decide_eq_true (by omega)
                      (conv => whnf); rw [d2]
                      cases sm with
                      | true =>
                        obtain ⟨hPyq, hall⟩ := hs1 rfl
                        obtain ⟨b, hb⟩ := get_some hcl
                        have hbm := List.mem_of_getElem? hb
                        have hb8 := hR.lt b hbm
                        obtain ⟨rq, hrq1, hrq2⟩ := hR.get hok hD (q := q) (by omega) hb
                        obtain ⟨ry, hry1, hry2⟩ := hR.get hok hD (q := y) (by omega) hb
                        have hsq := hL.st q hqL b hb8
                        have hsy := hL.st y hyL b hb8
                        (conv => whnf); refine VDraw.lex rfl (by kernel_rfl) ?_
                        (conv => whnf); refine VC.fa fl35_2 ?_
                        (conv => whnf); refine ld1 (v := .slice na n nc) ct23 (by rw [(st13.blk 0 rfl).cell, Nat.zero_add]; exact hd7) trivial ?_
                        (conv => whnf); refine ixrn (i := q) sl23 (hnx st13.old) hn hrq1 rfl ?_
                        rintro b14 o14 c14 hS14 hc14 ⟨xa1, xc1, rfl, hx1⟩
                        (conv => whnf); refine ld1 ct33 hc14.one trivial ?_
                        (conv => whnf); refine ixr (i := c) sl33 hx1 hrq2 rfl ?_
                        rintro b15 o15 c15 hS15 hc15 ⟨rfl, -⟩
                        (conv => whnf); refine ld1 ct3 hc15.one trivial ?_
                        (conv => whnf); refine ixO (j := M.st q b) sl33 st13 1 rfl (hgP _ hsq) rfl ?_
                        rintro b16 o16 c16 hS16 hc16 ⟨rfl, -⟩
                        (conv => whnf); refine ld1 ct3 hc16.one trivial ?_
                        (conv => whnf); refine VC.fa fl35_2 ?_
                        (conv => whnf); refine ld1 (v := .slice na n nc) ct23 (by rw [(st13.blk 0 rfl).cell, Nat.zero_add]; exact hd7) trivial ?_
                        (conv => whnf); refine ixO (j := k) sl33 st13 3 rfl (hgC hy) rfl ?_
                        rintro b17 o17 c17 hS17 hc17 ⟨rfl, -⟩
                        (conv => whnf); refine ld1 ct3 hc17.one trivial ?_
                        (conv => whnf); refine ixrn (i := y) sl23 (hnx st13.old) hn hry1 rfl ?_
                        rintro b18 o18 c18 hS18 hc18 ⟨xa2, xc2, rfl, hx2⟩
                        (conv => whnf); refine ld1 ct33 hc18.one trivial ?_
                        (conv => whnf); refine ixr (i := c) sl33 hx2 hry2 rfl ?_
                        rintro b19 o19 c19 hS19 hc19 ⟨rfl, -⟩
                        (conv => whnf); refine ld1 ct3 hc19.one trivial ?_
                        (conv => whnf); refine ixO (j := M.st y b) sl33 st13 1 rfl (hgP _ hsy) rfl ?_
                        rintro b20 o20 c20 hS20 hc20 ⟨rfl, -⟩
                        (conv => whnf); refine ld1 ct3 hc20.one trivial ?_
                        (conv => whnf); rw [w64 (x := (c : Int) + 1) (by omega) (by omega)]
                        refine ⟨rfl, ((P (M.st q b) : Int) == (P (M.st y b) : Int), c + 1), by simp, ⟨by omega, fun h => ⟨hPyq, fun b' hb' => ?_⟩, fun h e => ?_, st13⟩, by simp only; omega⟩
                        · rw [take_succ_snoc hb, List.mem_append, List.mem_singleton] at hb'
                          rcases hb' with hb' | rfl
                          · exact hall b' hb'
                          · have := eq_of_beq h; omega
                        · rw [hkey] at e
                          rw [(keyR_eq.1 e).2 b hbm] at h
                          simp at h
                      | false =>
                        have hne := hs0 rfl
                        (conv => whnf)
                        rw [w64 (x := (k : Int) + 1) (by omega) (by omega)]
                        refine ⟨rfl, (-1, k + 1), by simp, ⟨by omega, .inl ⟨rfl, fun k' z hk' hz => ?_⟩, st13⟩, by simp only; omega⟩
                        by_cases hkk : k' = k
                        · subst hkk; rw [hy] at hz; injection hz with hz; subst hz; exact hne
                        · exact hno k' z (by omega) hz
                    · have d2 : decide ((c : Int) < (by_.length : Int)) = false := decide_eq_false (by omega)
                      obtain rfl : c = by_.length := by omega
                      (conv => whnf); rw [d2]
                      cases sm with
                      | true =>
                        obtain ⟨hPyq, hall⟩ := hs1 rfl
                        rw [List.take_length] at hall
                        have hkeq : key y = key q := by rw [hkey]; exact keyR_eq.2 ⟨hPyq, hall⟩
                        (conv => whnf)
                        rw [w64 (x := (k : Int) + 1) (by omega) (by omega)]
                        exact ⟨rfl, ((k : Int), k + 1), by simp, ⟨by omega, .inr ⟨k, y, rfl, hy, hkeq⟩, st13⟩, by simp only; omega⟩
                      | false =>
                        have hne := hs0 rfl
                        (conv => whnf)
                        rw [w64 (x := (k : Int) + 1) (by omega) (by omega)]
                        refine ⟨rfl, (-1, k + 1), by simp, ⟨by omega, .inl ⟨rfl, fun k' z hk' hz => ?_⟩, st13⟩, by simp only; omega⟩
                        by_cases hkk : k' = k
                        · subst hkk; rw [hy] at hz; injection hz with hz; subst hz; exact hne
                        · exact hno k' z (by omega) hz
                · have d3 : decide ((k0 : Int) < 0) = false := decide_eq_false (by omega)
                  (conv => whnf); rw [d3]
                  have hin : key q ∈ dd ((L.take i).map key) := by rw [← hC, ← hy0]; exact List.mem_map.2 ⟨y0, List.mem_of_getElem? hk0, rfl⟩
                  have hRv : R q = k0 := by
                    rw [hRq, hdd, if_pos hin, ← hC]
                    exact ixF_at hCd (by rw [List.getElem?_map, hk0, ← hy0]; rfl)
                  rw [if_pos hin] at hdd
                  have hk0l := (List.getElem?_eq_some_iff.1 hk0).1
                  (conv => whnf); refine VSeq.run ?_
                  (conv => whnf); refine ix sl33 (by omega) (by omega) ?_
                  (conv => whnf); refine st1O (j := q) (x := (k0 : Int)) st9 2 ct3 rfl rfl (by omega) (by rw [tblS_len]; omega) rfl (fun H' _ => ⟨rfl, kint ⟨by omega, by omega⟩⟩) fun H21 st21 => ?_
                  rw [← hRv, tblS_set hqn, ← htk] at st21
                  (conv => whnf); rw [w64 (x := (i : Int) + 1) (by omega) (by omega)]
                  exact ⟨rfl, (i + 1, C, ca, cc), by simp, ⟨by omega, by rw [hdd]; exact hC, hCL, st21⟩, by simp only; omega⟩
              · have d1 : decide ((k : Int) < (C.length : Int)) = false := decide_eq_false (by omega)
                obtain rfl : k = C.length := by omega
                (conv => whnf); rw [d1]
                rcases hm with ⟨rfl, hno⟩ | ⟨k0, y0, rfl, hk0, hy0⟩
                · have hnew : key q ∉ dd ((L.take i).map key) := fun h => by
                    rw [← hC, List.mem_map] at h
                    obtain ⟨y, hy, e⟩ := h
                    obtain ⟨k', hk'⟩ := List.getElem?_of_mem hy
                    exact hno k' y (List.getElem?_eq_some_iff.1 hk').1 hk' e
                  have hRv : R q = C.length := by
                    rw [hRq, hdd, if_neg hnew, ixF_new hnew, ← hC, List.length_map]
                  rw [if_neg hnew] at hdd
                  (conv => whnf); refine VSeq.run ?_
                  (conv => whnf); refine vbuild1 sl33 [.int .i64 (q : Int)] rfl rfl (by decide) (by decide) ?_
                  intro q20 H20 hq20 hs20 hb20 ha20
                  (conv => whnf); refine app1 (x := (q : Int)) (st9.skip hq20 ha20) 3 sl33 rfl hb20 ⟨rfl, kint ⟨by omega, by omega⟩⟩ rfl (by rw [hCI]; omega) (by decide) fun a21 c21 H21 st21 _ => ?_
                  have e1 : (intsN C).length + 1 = (C ++ [q]).length := by rw [hCI]; simp
                  have e2 : intsN C ++ [(q : Int)] = intsN (C ++ [q]) := by unfold intsN; simp
                  rw [e1, e2] at st21
                  rw [e1]
                  have hC1 : C.length + 1 ≤ i + 1 := by
                    have := dd_len ((L.take i).map key)
                    rw [← hC, List.length_map, List.length_map, List.length_take] at this
                    omega
                  (conv => whnf); refine ix sl33 (by omega) (by omega) ?_
                  (conv => whnf); refine st1O (j := q) (x := (C.length : Int)) st21 2 ct3 rfl rfl (by omega) (by rw [tblS_len]; omega) rfl (fun H' _ => ⟨rfl, kint ⟨by omega, by omega⟩⟩) fun H22 st22 => ?_
                  rw [← hRv, tblS_set hqn, ← htk] at st22
                  (conv => whnf); rw [w64 (x := (i : Int) + 1) (by omega) (by omega)]
                  exact ⟨rfl, (i + 1, C ++ [q], a21, c21), by simp, ⟨by omega, by rw [hdd, List.map_append, hC]; rfl, fun z hz => by
                    rcases List.mem_append.1 hz with hz | hz
                    · exact hCL z hz
                    · rw [List.mem_singleton] at hz; subst hz; exact hqL, st22⟩, by simp only; omega⟩
                · have d3 : decide ((k0 : Int) < 0) = false := decide_eq_false (by omega)
                  have hin : key q ∈ dd ((L.take i).map key) := by rw [← hC, ← hy0]; exact List.mem_map.2 ⟨y0, List.mem_of_getElem? hk0, rfl⟩
                  have hRv : R q = k0 := by
                    rw [hRq, hdd, if_pos hin, ← hC]
                    exact ixF_at hCd (by rw [List.getElem?_map, hk0, ← hy0]; rfl)
                  rw [if_pos hin] at hdd
                  have hk0l := (List.getElem?_eq_some_iff.1 hk0).1
                  (conv => whnf); refine VSeq.run ?_
                  (conv => whnf); refine ix sl33 (by omega) (by omega) ?_
                  (conv => whnf); refine st1O (j := q) (x := (k0 : Int)) st9 2 ct3 rfl rfl (by omega) (by rw [tblS_len]; omega) rfl (fun H' _ => ⟨rfl, kint ⟨by omega, by omega⟩⟩) fun H21 st21 => ?_
                  rw [← hRv, tblS_set hqn, ← htk] at st21
                  (conv => whnf); rw [w64 (x := (i : Int) + 1) (by omega) (by omega)]
                  exact ⟨rfl, (i + 1, C, ca, cc), by simp, ⟨by omega, by rw [hdd]; exact hC, hCL, st21⟩, by simp only; omega⟩
          · obtain rfl : i = L.length := by omega
            rw [List.take_length] at hC st7
            have hf : (found M by_ L P).length = C.length := by unfold found; rw [← hkey, ← hC, List.length_map]
            have hf1 : 1 ≤ C.length := by
              obtain ⟨x0, hx0⟩ := get_some hL0
              rw [← hf]
              exact List.length_pos_of_mem ((dd_mem _ _).2 (List.mem_map.2 ⟨x0, List.mem_of_getElem? hx0, rfl⟩))
            have hcle := cls_le (M := M) (by_ := by_) (l := L) (P := P)
            rw [hf] at hcle
            have hnext := hI.next hreps hL
            rw [← hRe] at hnext
            have hRl : ∀ q ∈ L, R q < C.length := fun q hq => by rw [hRe, ← hf]; exact refine_lt hq
            by_cases hdone : C.length = cnt
            · have d1 : ((C.length : Int) == (cnt : Int)) = true := by rw [hdone]; simp
              (conv => whnf); rw [d1]
              (conv => whnf)
              refine ⟨st7.old, R, some ⟨nb, 0, none⟩, n, ?_, fun q hq => by have := hRl q hq; omega, by rw [← hn], by rw [← hn]; exact St.own st7 2 rfl⟩
              rw [hRe]
              refine hI.done hreps hL (refine_same ?_)
              rcases hcnt with h | h
              · omega
              · rw [hf, h]; omega
            · have d1 : ((C.length : Int) == (cnt : Int)) = false := beq_eq_false_iff_ne.2 (by omega)
              (conv => whnf); rw [d1]
              (conv => whnf)
              exact ⟨rfl, (R, C.length, some ⟨nb, 0, none⟩, n), rfl, ⟨hnext, fun q hq => by have := hRl q hq; omega, .inr (by rw [hRe, refine_cls, hf]), by omega, st7.pick [0, 2] (by decide)⟩, by simp only; omega⟩
end Go.Proofs.YthomdogheamfpaaDoor
