/- The document's Atoms: the walk. -/
import Derived.Test.YtpnnedkpbmilkaaPRef3
set_option linter.unusedVariables false
set_option linter.unusedSimpArgs false
set_option maxRecDepth 100000
namespace Go.Proofs.Ytpnnedkpbmilkaa
open Go.VC
attribute [local irreducible] mRun

theorem splice_set {l c : List Value} {o b : Nat} {v : Value} (h : ∀ i, i < c.length → l[o + i]? = c[i]?) (hl : o + c.length ≤ l.length) (hb : b < c.length) : splice l o (c.set b v) = l.set (o + b) v := by
  apply List.ext_getElem?
  intro j
  rw [splice_get (by rw [List.length_set]; exact hl), List.length_set, List.getElem?_set (l := l)]
  by_cases hj : o ≤ j ∧ j < o + c.length
  · rw [if_pos hj, List.getElem?_set]
    by_cases hjb : o + b = j
    · rw [if_pos hjb, if_pos (by omega), if_pos (by omega), if_pos (by omega)]
    · rw [if_neg hjb, if_neg (by omega), ← h (j - o) (by omega), show o + (j - o) = j by omega]
  · rw [if_neg hj, if_neg (by omega)]
theorem SlO.byte {H : Heap} {lo : Nat} {e : TypeId} {v : Value} {xs : List (Nat → Bool)} {k b : Nat} {f : Nat → Bool} (h : SlO tF (fun _ => False) H lo e v xs) (hk : xs[k]? = some f) (hb : b < 256) :
    ∃ vb cap l, v = .slice (some ⟨vb, 0, none⟩) xs.length cap ∧ lo ≤ vb ∧ Blk H vb e l ∧ k * 256 + b < l.length ∧ ∀ H', Blk H' vb e (l.set (k * 256 + b) (.bool true)) → SlO tF (fun _ => False) H' lo e v (xs.set k fun i => decide (i = b) || f i) := by
  have hlt := (List.getElem?_eq_some_iff.1 hk).1
  obtain ⟨vb, cap, l, cs, e1, h1, h2, h3, h4, h5, h6⟩ := h.place hlt
  have hsz : tF.size = 256 := rfl
  rw [hsz] at h3 h4 h6
  obtain ⟨c, hc, rfl⟩ := h4 f hk
  refine ⟨vb, cap, l, e1, h1, h2, by omega, fun H' hb' => h6 H' (funL fun i => decide (i = b) || f i) _ ?_ (fun _ f => f.elim) rfl⟩
  rw [← funL_set f hb, splice_set (by
    intro i hi
    obtain ⟨u, hu⟩ := get_some hi
    have := hc i u hu
    rw [h2.cell] at this
    rw [this, hu]) (by rw [funL_len]; exact h3) (by rw [funL_len]; exact hb)]
  exact hb'

theorem atRun_some {cells : List (BitVec 256)} {b k : Nat} (h : (atRun cells b).1.findIdx? (fun g => sigEq cells b g) = some k) : atRun cells (b + 1) = ((atRun cells b).1, (atRun cells b).2 ++ [k]) := by
  rw [atRun, h]
theorem atRun_none {cells : List (BitVec 256)} {b : Nat} (h : (atRun cells b).1.findIdx? (fun g => sigEq cells b g) = none) : atRun cells (b + 1) = ((atRun cells b).1 ++ [b], (atRun cells b).2 ++ [(atRun cells b).1.length]) := by
  rw [atRun, h]
def fdI (cells : List (BitVec 256)) (b : Nat) (l : List Nat) : Int := match l.findIdx? fun g => sigEq cells b g with
  | some k => (k : Int)
  | none => -1
theorem fdI_none {cells : List (BitVec 256)} {b : Nat} {l : List Nat} : fdI cells b l < 0 ↔ (l.findIdx? fun g => sigEq cells b g) = none := by
  unfold fdI
  split
  · rename_i k h; rw [h]; simp
  · rename_i h; rw [h]; simp
theorem fdI_in {cells : List (BitVec 256)} {b : Nat} {l : List Nat} : -1 ≤ fdI cells b l ∧ fdI cells b l < l.length := by
  unfold fdI
  split
  · rename_i k h
    have := (List.findIdx?_eq_some_iff_getElem.1 h).1
    omega
  · omega
theorem fdI_snoc {cells : List (BitVec 256)} {b g : Nat} {l : List Nat} (h : fdI cells b l < 0) : fdI cells b (l ++ [g]) = if sigEq cells b g then (l.length : Int) else -1 := by
  have h1 := fdI_none.1 h
  unfold fdI
  rw [List.findIdx?_append, h1]
  simp only [List.findIdx?_singleton, Option.none_or]
  cases hs : sigEq cells b g <;> simp
theorem fdI_take {cells : List (BitVec 256)} {b k : Nat} {l : List Nat} (h : 0 ≤ fdI cells b (l.take k)) : fdI cells b l = fdI cells b (l.take k) := by
  have h1 : (l.take k).findIdx? (fun g => sigEq cells b g) ≠ none := fun h2 => by have := fdI_none.2 h2; omega
  cases h2 : (l.take k).findIdx? (fun g => sigEq cells b g) with
  | none => exact absurd h2 h1
  | some k0 =>
    have h3 : l.findIdx? (fun g => sigEq cells b g) = some k0 := by
      conv => lhs; rw [← List.take_append_drop k l]
      rw [List.findIdx?_append, h2]; rfl
    unfold fdI
    rw [h2, h3]
def alikeTo (cells : List (BitVec 256)) (b g j : Nat) : Bool := (cells.take j).all fun c => c.getLsbD b == c.getLsbD g
theorem alikeTo_succ {cells : List (BitVec 256)} {b g j : Nat} {c : BitVec 256} (h : cells[j]? = some c) : alikeTo cells b g (j + 1) = (alikeTo cells b g j && (c.getLsbD b == c.getLsbD g)) := by
  unfold alikeTo
  rw [take_succ_snoc h, List.all_append]; simp
theorem alikeTo_all (cells : List (BitVec 256)) (b g : Nat) : alikeTo cells b g cells.length = sigEq cells b g := by unfold alikeTo sigEq; rw [List.take_length]
theorem alikeTo_no {cells : List (BitVec 256)} {b g j : Nat} (h : alikeTo cells b g j = false) : sigEq cells b g = false := by
  unfold alikeTo at h
  unfold sigEq
  rw [← List.take_append_drop j cells, List.all_append, h]; rfl

set_option maxHeartbeats 4000000 in
theorem atoms_c (ca : Option Addr) (cc : Nat) (cells : List (BitVec 256)) (S : Nat → Prop) (H : Heap) (hS : ∀ k, S k → k < H.size) (hc : SlD tB S H ca cc cells) (hn : cells.length ≤ 4194304) :
    FnOk Try.prog 89 #[.slice ca cells.length cc] H fun v H' => Agr (Old H) H H' ∧ H.size ≤ H'.size ∧ ∃ a cap, v = .slice a (atRun cells 256).1.length cap ∧
      SlD tF (Fresh H H') H' a cap (atSets (atRun cells 256).2 (atRun cells 256).1.length) := by
  refine FnOk.of_vc Try.func89 rfl (Try.call89 _) ?_
  (conv => whnf)
  refine VLoop.mk [3, 4, 5] (fun x : Nat × Value × Value => match x with | (b, vo, vf) => [vo, vf, .int .i64 b]) (fun x H2 => x.1 ≤ 256 ∧ Agr (Old H) H H2 ∧ H.size ≤ H2.size ∧
    SlO tF (fun _ => False) H2 H.size 98 x.2.1 (atSets (atRun cells x.1).2 (atRun cells x.1).1.length) ∧ SlO tI (fun _ => False) H2 H.size 3 x.2.2 (asI (atRun cells x.1).1) ∧ ∀ j, slB x.2.1 j → ¬ slB x.2.2 j) (fun x _ => 256 - x.1) ?_ ?_
  · (conv => whnf)
    exact ⟨(0, .slice none 0 0, .slice none 0 0), rfl, by simp, Agr.refl _ _, Nat.le_refl _, SlO.nil, SlO.nil, fun j hj => by obtain ⟨o, n, c, h⟩ := hj; cases h⟩
  · rintro ⟨b, vo, vf⟩ H2 junk ⟨hb, ha2, hs2, ho, hf, hap⟩
    simp only at hb ho hf hap
    have hok := atRun_ok cells b
    have hfl := hok.flen
    obtain ⟨fa, fcap, rfl, hfv, -⟩ := hf.view (S' := Old H2) (fun j hj => (hf.lt hj).2) (fun _ f => f.elim)
    obtain ⟨oa, ocap, rfl, hov, -⟩ := ho.view (S' := Old H2) (fun j hj => (ho.lt hj).2) (fun _ f => f.elim)
    rw [asI_len, atSets_len] at *
    have hcS := hc.frame (ha2.mono hS)
    (conv => whnf); refine VIte.mk (fun h => ?_) (fun h => ?_) <;> simp only [decide_eq_true_eq, decide_eq_false_iff_not] at h
    · (conv => whnf)
      refine VLoop.mk [6, 7] (fun k : Nat => [.int .i64 (fdI cells b ((atRun cells b).1.take k)), .int .i64 k]) (fun k H3 => k ≤ (atRun cells b).1.length ∧ H3 = H2) (fun k _ => (atRun cells b).1.length - k) ?_ ?_
      · (conv => whnf); exact ⟨0, rfl, by omega, rfl⟩
      · rintro k H3 junk3 ⟨hk, rfl⟩
        by_cases hkl : k < (atRun cells b).1.length
        · have d1 : decide ((k : Int) < ((atRun cells b).1.length : Int)) = true := decide_eq_true (by omega)
          (conv => whnf); rw [d1]
          (conv => whnf); refine VIte.mk (fun h1 => ?_) (fun h1 => ?_) <;> simp only [decide_eq_true_eq, decide_eq_false_iff_not] at h1
          · obtain ⟨g, hg⟩ := get_some hkl
            have hgb := (hok.first k g hg).1
            (conv => whnf); refine VSeq.run ?_
            (conv => whnf)
            refine VLoop.mk [8, 9] (fun j : Nat => [.bool (alikeTo cells b g j), .int .i64 j]) (fun j H4 => j ≤ cells.length ∧ H4 = H3) (fun j _ => cells.length - j) ?_ ?_
            · (conv => whnf); exact ⟨0, rfl, by omega, rfl⟩
            · rintro j H4 junk4 ⟨hj, rfl⟩
              -- behind the inner loop
              by_cases hjl : j < cells.length
              · have d2 : decide ((j : Int) < (cells.length : Int)) = true := decide_eq_true (by omega)
                cases hal : alikeTo cells b g j with
                | true =>
                  obtain ⟨x, hx⟩ := get_some hjl
                  (conv => whnf); rw [d2]
                  (conv => whnf); refine VDraw.lex rfl (by kernel_rfl) ?_
                  (conv => whnf); refine ixr slB_ hcS hx rfl ?_
                  rintro b5 o5 cs5 hSb5 hcells5 rfl
                  (conv => whnf); refine ixa ar98 (by omega) (by omega) ?_
                  (conv => whnf); refine ld1 (v := .bool (x.getLsbD b)) ct4 (by rw [show o5 + ((b : Nat) : Int).toNat * 1 = o5 + b by omega]; exact hcells5 b _ (bitsL_get x (by omega))) trivial ?_
                  (conv => whnf); refine ixrn sl35 hfv (asI_len _).symm (asI_get hg) rfl ?_
                  rintro b6 o6 cs6 hSb6 hcells6 ⟨rfl, -⟩
                  (conv => whnf); refine ld1 ct3 hcells6.one trivial ?_
                  (conv => whnf); refine ixr slB_ hcS hx rfl ?_
                  rintro b7 o7 cs7 hSb7 hcells7 rfl
                  (conv => whnf); refine ixa ar98 (by omega) (by omega) ?_
                  (conv => whnf); refine ld1 (v := .bool (x.getLsbD g)) ct4 (by rw [show o7 + ((g : Nat) : Int).toNat * 1 = o7 + g by omega]; exact hcells7 g _ (bitsL_get x (by omega))) trivial ?_
                  (conv => whnf); refine beq_b rfl ?_
                  (conv => whnf); rw [w64 (x := (j : Int) + 1) (by omega) (by omega)]
                  exact ⟨rfl, j + 1, by rw [alikeTo_succ hx, hal]; simp, ⟨by omega, rfl⟩, by omega⟩
                | false =>
                  have hs := alikeTo_no hal
                  (conv => whnf); rw [d2]
                  (conv => whnf); rw [w64 (x := (k : Int) + 1) (by omega) (by omega)]
                  refine ⟨rfl, k + 1, ?_, ⟨by omega, rfl⟩, by omega⟩
                  rw [take_succ_snoc hg, fdI_snoc h1, hs]
                  have : fdI cells b ((atRun cells b).1.take k) = -1 := by have := (fdI_in (cells := cells) (b := b) (l := (atRun cells b).1.take k)).1; omega
                  rw [this]; simp
              · obtain rfl : j = cells.length := by omega
                have d2 : decide ((cells.length : Int) < (cells.length : Int)) = false := decide_eq_false (by omega)
                rw [alikeTo_all]
                cases hs : sigEq cells b g with
                | true =>
                  (conv => whnf); rw [d2]
                  (conv => whnf); rw [w64 (x := (k : Int) + 1) (by omega) (by omega)]
                  refine ⟨rfl, k + 1, ?_, ⟨by omega, rfl⟩, by omega⟩
                  rw [take_succ_snoc hg, fdI_snoc h1, hs]
                  simp; omega
                | false =>
                  (conv => whnf); rw [d2]
                  (conv => whnf); rw [w64 (x := (k : Int) + 1) (by omega) (by omega)]
                  refine ⟨rfl, k + 1, ?_, ⟨by omega, rfl⟩, by omega⟩
                  rw [take_succ_snoc hg, fdI_snoc h1, hs]
                  have : fdI cells b ((atRun cells b).1.take k) = -1 := by have := (fdI_in (cells := cells) (b := b) (l := (atRun cells b).1.take k)).1; omega
                  rw [this]; simp
          · rw [← fdI_take (by omega)]
            replace h1 : 0 ≤ fdI cells b (atRun cells b).1 := by rw [fdI_take (k := k) (by omega)]; omega
            cases hfi : (atRun cells b).1.findIdx? fun g => sigEq cells b g with
            | none => exact absurd (fdI_none.2 hfi) (by omega)
            | some k0 =>
              have hk0 := (List.findIdx?_eq_some_iff_getElem.1 hfi).1
              have hfd : fdI cells b (atRun cells b).1 = (k0 : Int) := by unfold fdI; rw [hfi]
              rw [hfd]
              have hnext : atRun cells (b + 1) = ((atRun cells b).1, (atRun cells b).2 ++ [k0]) := atRun_some hfi
              obtain ⟨vb, cap, l, e1, hlo, hblk, hlen, hput⟩ := SlO.byte ho (atSets_get hk0) (show b < 256 by omega)
              rw [atSets_len] at e1
              injection e1 with e2 e3 e4
              subst e2; subst e4
              (conv => whnf); refine VSeq.run ?_
              (conv => whnf); refine ix slF_ (by omega) (by omega) ?_
              (conv => whnf); refine ixa ar98 (by omega) (by omega) ?_
              (conv => whnf); refine st1 ct4 hblk (by rw [show tF.size = 256 from rfl]; omega) rfl ?_
              intro H6 hb6 ha6 hs6
              rw [show 0 + ((k0 : Nat) : Int).toNat * tF.size + ((b : Nat) : Int).toNat * 1 = k0 * 256 + b by rw [show tF.size = 256 from rfl]; omega] at hb6
              have ho6 := hput H6 hb6
              have hput2 := atSets_put (ps := (atRun cells b).2) hk0
              rw [hok.plen] at hput2
              rw [hput2] at ho6
              have hf6 := hf.agr ha6 (fun j hj => by rintro rfl; exact hap _ ⟨0, _, _, rfl⟩ hj) (fun _ f => f.elim)
              (conv => whnf); rw [w64 (x := (b : Int) + 1) (by omega) (by omega)]
              refine ⟨rfl, (b + 1, .slice (some ⟨vb, 0, none⟩) (atRun cells b).1.length ocap, .slice fa (atRun cells b).1.length fcap), by simp, ⟨by simp only; omega, ha2.trans (ha6.mono fun j hj => by unfold Old at hj; omega), by omega, ?_, ?_, hap⟩, by simp only; omega⟩
              · simp only [hnext]; exact ho6
              · simp only [hnext]; exact hf6
        · obtain rfl : k = (atRun cells b).1.length := by omega
          have d1 : decide (((atRun cells b).1.length : Int) < ((atRun cells b).1.length : Int)) = false := decide_eq_false (by omega)
          rw [List.take_length]
          (conv => whnf); rw [d1]
          by_cases h1 : fdI cells b (atRun cells b).1 < 0
          · have hfi := fdI_none.1 h1
            have hfd : fdI cells b (atRun cells b).1 = -1 := by have := (fdI_in (cells := cells) (b := b) (l := (atRun cells b).1)).1; omega
            rw [hfd]
            have hnext : atRun cells (b + 1) = ((atRun cells b).1 ++ [b], (atRun cells b).2 ++ [(atRun cells b).1.length]) := atRun_none hfi
            have hlt' : ∀ p ∈ (atRun cells b).2, p < (atRun cells b).1.length := hok.lt
            (conv => whnf); refine VSeq.run ?_
            (conv => whnf); refine vbuildA ar98 (Try.t98.zero.getD undef) rfl (List.replicate 256 (.bool false)) rfl ?_
            (conv => whnf); refine vbuild1 slF_ (List.replicate 256 (.bool false)) rfl rfl (by decide) (by decide) ?_
            intro q4 H4 hq4 hs4 hb4 ha4
            have ho4 := ho.agr ha4 (fun j hj => by have := (ho.lt hj).2; omega) (fun _ f => f.elim)
            have hf4 := hf.agr ha4 (fun j hj => by have := (hf.lt hj).2; omega) (fun _ f => f.elim)
            (conv => whnf); refine vappendO (T := tF) (S := fun _ => False) (ys := [fun _ => false]) (ds := List.replicate 256 (.bool false)) (lo := H.size) (xs := atSets (atRun cells b).2 (atRun cells b).1.length) slF_ ho4 (by omega) (fun j hj => hj.elim)
              (hb4.cells (fun j v hv => by rw [Nat.zero_add]; exact hv)) (Ty.reps_one (show List.replicate 256 (Value.bool false) = funL (fun _ => false) from funL_zero.symm)) rfl (by intro u hu; rw [List.eq_of_mem_replicate hu]; rfl) (by rw [atSets_len]; simp only [maxLen, List.length_singleton]; omega) (by rw [atSets_len]; simp only [List.length_singleton]; omega) ?_
            intro v5 H5 ho5 ha5 hs5 hfr5
            rw [← atSets_more _ _ hlt'] at ho5
            have hf5 := hf4.agr ha5 (fun j hj => ⟨(hf4.lt hj).2, fun h => hap j h hj⟩) (fun _ f => f.elim)
            have hb5 : Blk H5 q4 98 (List.replicate 256 (.bool false)) := hb4.agr ha5 ⟨hb4.lt, fun h => by have := (ho.lt h).2; omega⟩
            (conv => whnf); refine vbuild1 sl35 [.int .i64 (b : Int)] rfl rfl (by decide) (by decide) ?_
            intro q6 H6 hq6 hs6 hb6 ha6
            have ho6 := ho5.agr ha6 (fun j hj => by have := (ho5.lt hj).2; omega) (fun _ f => f.elim)
            have hf6 := hf5.agr ha6 (fun j hj => by have := (hf5.lt hj).2; omega) (fun _ f => f.elim)
            (conv => whnf); refine vappendO (T := tI) (S := fun _ => False) (ys := [(b : Int)]) (ds := [.int .i64 (b : Int)]) (lo := H.size) (xs := asI (atRun cells b).1) sl35 hf6 (by omega) (fun j hj => hj.elim)
              (hb6.cells (fun j v hv => by simpa using hv)) (Ty.reps_one ⟨rfl, inI64 (by omega)⟩) rfl (by intro u hu; cases List.mem_singleton.1 hu; rfl) (by rw [asI_len]; simp only [maxLen, List.length_singleton]; omega) (by rw [asI_len]; simp only [List.length_singleton]; omega) ?_
            intro v7 H7 hf7 ha7 hs7 hfr7
            have hap5 : ∀ j, slB v5 j → ¬ slB (.slice fa (atRun cells b).1.length fcap) j := fun j hj hj' => by
              rcases hfr5 j hj with h | h
              · exact hap j h hj'
              · have := (hf.lt hj').2; omega
            have ho7 := ho6.agr ha7 (fun j hj => ⟨(ho6.lt hj).2, hap5 j hj⟩) (fun _ f => f.elim)
            have hap7 : ∀ j, slB v5 j → ¬ slB v7 j := fun j hj hj' => by
              rcases hfr7 j hj' with h | h
              · exact hap5 j hj h
              · have := (ho6.lt hj).2; omega
            have hget7 : (atSets (atRun cells b).2 ((atRun cells b).1.length + 1))[(atRun cells b).1.length]? = some (atSet (atRun cells b).2 (atRun cells b).1.length) := atSets_get (by omega)
            obtain ⟨vb, cap, l, e1, hlo, hblk, hlen, hput⟩ := SlO.byte ho7 hget7 (show b < 256 by omega)
            subst e1
            rw [atSets_len] at *
            have hnn : (atRun cells b).1.length < (atRun cells b).1.length + 1 := by omega
            (conv => whnf); refine ix slF_ (by omega) (by omega) ?_
            (conv => whnf); refine ixa ar98 (by omega) (by omega) ?_
            (conv => whnf); refine st1 ct4 hblk (by rw [show tF.size = 256 from rfl]; omega) rfl ?_
            intro H8 hb8 ha8 hs8
            rw [show 0 + (((atRun cells b).1.length : Nat) : Int).toNat * tF.size + ((b : Nat) : Int).toNat * 1 = (atRun cells b).1.length * 256 + b by rw [show tF.size = 256 from rfl]; omega] at hb8
            have ho8 := hput H8 hb8
            have hput2 := atSets_put (ps := (atRun cells b).2) hnn
            rw [hok.plen] at hput2
            rw [hput2] at ho8
            have hf8 := hf7.agr ha8 (fun j hj => by rintro rfl; exact hap7 _ ⟨0, _, _, rfl⟩ hj) (fun _ f => f.elim)
            have hA8 : Agr (Old H) H H8 := ((((ha2.trans (ha4.mono fun j hj => by have := old_lt ha2 hj; omega)).trans (ha5.mono fun j hj => ⟨by have := old_lt ha2 hj; omega, fun h => by have := (ho.lt h).1; unfold Old at hj; omega⟩)).trans (ha6.mono fun j hj => by have := old_lt ha2 hj; omega)).trans (ha7.mono fun j hj => ⟨by have := old_lt ha2 hj; omega, fun h => by have := (hf.lt h).1; unfold Old at hj; omega⟩)).trans (ha8.mono fun j hj => by unfold Old at hj; omega)
            (conv => whnf); rw [w64 (x := (b : Int) + 1) (by omega) (by omega)]
            refine ⟨rfl, (b + 1, _, _), rfl, ⟨by simp only; omega, hA8, by omega, ?_, ?_, hap7⟩, by simp only; omega⟩
            · simp only [hnext, List.length_append, List.length_singleton]; exact ho8
            · simp only [hnext, asI, List.map_append, List.map_cons, List.map_nil]; exact hf8
          · replace h1 : 0 ≤ fdI cells b (atRun cells b).1 := by omega
            cases hfi : (atRun cells b).1.findIdx? fun g => sigEq cells b g with
            | none => exact absurd (fdI_none.2 hfi) (by omega)
            | some k0 =>
              have hk0 := (List.findIdx?_eq_some_iff_getElem.1 hfi).1
              have hfd : fdI cells b (atRun cells b).1 = (k0 : Int) := by unfold fdI; rw [hfi]
              rw [hfd]
              have hnext : atRun cells (b + 1) = ((atRun cells b).1, (atRun cells b).2 ++ [k0]) := atRun_some hfi
              obtain ⟨vb, cap, l, e1, hlo, hblk, hlen, hput⟩ := SlO.byte ho (atSets_get hk0) (show b < 256 by omega)
              rw [atSets_len] at e1
              injection e1 with e2 e3 e4
              subst e2; subst e4
              (conv => whnf); refine VSeq.run ?_
              (conv => whnf); refine ix slF_ (by omega) (by omega) ?_
              (conv => whnf); refine ixa ar98 (by omega) (by omega) ?_
              (conv => whnf); refine st1 ct4 hblk (by rw [show tF.size = 256 from rfl]; omega) rfl ?_
              intro H6 hb6 ha6 hs6
              rw [show 0 + ((k0 : Nat) : Int).toNat * tF.size + ((b : Nat) : Int).toNat * 1 = k0 * 256 + b by rw [show tF.size = 256 from rfl]; omega] at hb6
              have ho6 := hput H6 hb6
              have hput2 := atSets_put (ps := (atRun cells b).2) hk0
              rw [hok.plen] at hput2
              rw [hput2] at ho6
              have hf6 := hf.agr ha6 (fun j hj => by rintro rfl; exact hap _ ⟨0, _, _, rfl⟩ hj) (fun _ f => f.elim)
              (conv => whnf); rw [w64 (x := (b : Int) + 1) (by omega) (by omega)]
              refine ⟨rfl, (b + 1, .slice (some ⟨vb, 0, none⟩) (atRun cells b).1.length ocap, .slice fa (atRun cells b).1.length fcap), by simp, ⟨by simp only; omega, ha2.trans (ha6.mono fun j hj => by unfold Old at hj; omega), by omega, ?_, ?_, hap⟩, by simp only; omega⟩
              · simp only [hnext]; exact ho6
              · simp only [hnext]; exact hf6
    · obtain rfl : b = 256 := by omega
      obtain ⟨oa2, ocap2, e2, hov2, -⟩ := ho.view (S' := Fresh H H2) (fun j hj => ho.lt hj) (fun _ f => f.elim)
      rw [atSets_len] at e2
      injection e2 with e3 e4 e5
      subst e3; subst e5
      (conv => whnf)
      exact ⟨ha2, hs2, _, _, rfl, hov2⟩

end Go.Proofs.Ytpnnedkpbmilkaa
