/- The document's automata in memory; Parted. -/
import Derived.Test.YtpnnedkpbmilkaaPRef4
set_option linter.unusedVariables false
set_option linter.unusedSimpArgs false
set_option maxRecDepth 100000
namespace Go.Proofs.Ytpnnedkpbmilkaa
open Go.VC
attribute [local irreducible] mRun atRun

def dfaL (cell : List Int) (rv nv fv : Value) : List Value := cell.map (Value.int .i64) ++ [rv, nv, fv]
section
variable {cell : List Int} {rv nv fv v : Value}
theorem dfaL_len (h : cell.length = 256) : (dfaL cell rv nv fv).length = 259 := by simp [dfaL, h]
theorem dfaL_at {b : Nat} {c : Int} (h : cell[b]? = some c) : (dfaL cell rv nv fv)[b]? = some (.int .i64 c) := by
  unfold dfaL
  rw [List.getElem?_append_left (by simpa using (List.getElem?_eq_some_iff.1 h).1), List.getElem?_map, h]; rfl
theorem dfaL_256 (h : cell.length = 256) : (dfaL cell rv nv fv)[256]? = some rv := by
  unfold dfaL
  rw [List.getElem?_append_right (by simp [h]), List.length_map, h]; rfl
theorem dfaL_257 (h : cell.length = 256) : (dfaL cell rv nv fv)[257]? = some nv := by
  unfold dfaL
  rw [List.getElem?_append_right (by simp [h]), List.length_map, h]; rfl
theorem dfaL_258 (h : cell.length = 256) : (dfaL cell rv nv fv)[258]? = some fv := by
  unfold dfaL
  rw [List.getElem?_append_right (by simp [h]), List.length_map, h]; rfl
theorem dfaL_put {b : Nat} {c : Int} (h : b < cell.length) : (dfaL cell rv nv fv).set b (.int .i64 c) = dfaL (cell.set b c) rv nv fv := by
  unfold dfaL
  rw [List.set_append_left _ _ (by simpa using h), List.map_set]
theorem dfaL_put256 (h : cell.length = 256) : (dfaL cell rv nv fv).set 256 v = dfaL cell v nv fv := by
  unfold dfaL
  rw [List.set_append_right _ _ (by simp [h]), List.length_map, h]; rfl
theorem dfaL_put257 (h : cell.length = 256) : (dfaL cell rv nv fv).set 257 v = dfaL cell rv v fv := by
  unfold dfaL
  rw [List.set_append_right _ _ (by simp [h]), List.length_map, h]; rfl
theorem dfaL_put258 (h : cell.length = 256) : (dfaL cell rv nv fv).set 258 v = dfaL cell rv nv v := by
  unfold dfaL
  rw [List.set_append_right _ _ (by simp [h]), List.length_map, h]; rfl
theorem dfaL_ones (h1 : rv.oneCell' = true) (h2 : nv.oneCell' = true) (h3 : fv.oneCell' = true) : (dfaL cell rv nv fv).all (·.oneCell') = true := by
  rw [List.all_eq_true]
  intro u hu
  unfold dfaL at hu
  rcases List.mem_append.1 hu with hu | hu
  · obtain ⟨x, -, rfl⟩ := List.mem_map.1 hu
    rfl
  · simp only [List.mem_cons, List.mem_nil_iff, or_false] at hu
    rcases hu with rfl | rfl | rfl
    · exact h1
    · exact h2
    · exact h3
end
theorem splice_all {l c : List Value} (h : c.length = l.length) : splice l 0 c = c := by
  unfold splice
  rw [List.take_zero, List.nil_append, Nat.zero_add, h, List.drop_length, List.append_nil]

/-! ### the cells so far -/
def cellIn (ps : List Nat) (i n : Nat) : List Int := (List.range 256).map fun b => match ps[b]? with
  | some p => if p < i ∨ (p = i ∧ 256 ≤ b + n) then (p : Int) else 0
  | none => 0
def lstAt (ps : List Nat) (i : Nat) : Nat → Int
  | 0 => -1
  | n + 1 => if ps[255 - n]? = some i then ((255 - n : Nat) : Int) else lstAt ps i n
theorem cellIn_len (ps : List Nat) (i n : Nat) : (cellIn ps i n).length = 256 := by simp [cellIn]
theorem cellIn_get (ps : List Nat) (i n : Nat) {b : Nat} (h : b < 256) : (cellIn ps i n)[b]? = some (match ps[b]? with
  | some p => if p < i ∨ (p = i ∧ 256 ≤ b + n) then (p : Int) else 0
  | none => 0) := by
  unfold cellIn
  rw [List.getElem?_map, List.getElem?_range h]; rfl
theorem cellIn_ext {ps : List Nat} {i n j m : Nat} (h : ∀ (b p : Nat), b < 256 → ps[b]? = some p → ((p < i ∨ (p = i ∧ 256 ≤ b + n)) ↔ (p < j ∨ (p = j ∧ 256 ≤ b + m)))) : cellIn ps i n = cellIn ps j m := by
  apply List.ext_getElem?
  intro b
  by_cases hb : b < 256
  · rw [cellIn_get _ _ _ hb, cellIn_get _ _ _ hb]
    cases hp : ps[b]? with
    | none => rfl
    | some p =>
      have := h b p hb hp
      simp only [this]
  · rw [List.getElem?_eq_none (by rw [cellIn_len]; omega), List.getElem?_eq_none (by rw [cellIn_len]; omega)]
theorem cellIn_yes {ps : List Nat} {i n : Nat} (hn : n < 256) (h : ps[255 - n]? = some i) : (cellIn ps i n).set (255 - n) (i : Int) = cellIn ps i (n + 1) := by
  apply List.ext_getElem?
  intro b
  by_cases hb : b < 256
  · rw [cellIn_get _ _ _ hb, List.getElem?_set, cellIn_len]
    by_cases hbn : 255 - n = b
    · subst hbn
      rw [if_pos rfl, if_pos (by omega), h]
      simp only
      rw [if_pos (.inr ⟨trivial, by omega⟩)]
    · rw [if_neg hbn, cellIn_get _ _ _ hb]
      cases hp : ps[b]? with
      | none => rfl
      | some p =>
        have : (256 ≤ b + n) ↔ (256 ≤ b + (n + 1)) := by omega
        simp only [this]
  · rw [List.getElem?_eq_none (by rw [List.length_set, cellIn_len]; omega), List.getElem?_eq_none (by rw [cellIn_len]; omega)]
theorem cellIn_no {ps : List Nat} {i n : Nat} (hn : n < 256) (h : ps[255 - n]? ≠ some i) : cellIn ps i n = cellIn ps i (n + 1) := by
  refine cellIn_ext fun b p hb hp => ?_
  by_cases hbn : b = 255 - n
  · subst hbn
    rw [hp] at h
    have : p ≠ i := fun e => h (by rw [e])
    simp [this]
  · have : (256 ≤ b + n) ↔ (256 ≤ b + (n + 1)) := by omega
    rw [this]
theorem cellIn_next (ps : List Nat) (i : Nat) : cellIn ps i 256 = cellIn ps (i + 1) 0 := by
  refine cellIn_ext fun b p hb hp => ?_
  omega
theorem cellIn_zero (ps : List Nat) : cellIn ps 0 0 = List.replicate 256 0 := by
  apply List.ext_getElem?
  intro b
  by_cases hb : b < 256
  · rw [cellIn_get _ _ _ hb, List.getElem?_replicate, if_pos hb]
    cases hp : ps[b]? with
    | none => rfl
    | some p => simp only; rw [if_neg (by omega)]
  · rw [List.getElem?_eq_none (by rw [cellIn_len]; omega), List.getElem?_eq_none (by simp; omega)]
theorem cellIn_end {ps : List Nat} {n : Nat} (hl : ps.length = 256) (h : ∀ p ∈ ps, p < n) : cellIn ps n 0 = asI ps := by
  apply List.ext_getElem?
  intro b
  by_cases hb : b < 256
  · obtain ⟨p, hp⟩ := get_some (l := ps) (k := b) (by omega)
    rw [cellIn_get _ _ _ hb, asI_get hp, hp]
    simp only
    rw [if_pos (.inl (h p (List.mem_of_getElem? hp)))]
  · rw [List.getElem?_eq_none (by rw [cellIn_len]; omega), List.getElem?_eq_none (by rw [asI_len]; omega)]
theorem lstAt_in (ps : List Nat) (i : Nat) : ∀ n, n ≤ 256 → -1 ≤ lstAt ps i n ∧ lstAt ps i n ≤ 255
  | 0, _ => by simp [lstAt]
  | n + 1, h => by
    have := lstAt_in ps i n (by omega)
    unfold lstAt
    split <;> omega
theorem lstAt_first {ps : List Nat} {i g : Nat} (hg : g < 256) (h : ps[g]? = some i) (hno : ∀ b, b < g → ps[b]? ≠ some i) : ∀ m, m ≤ g → lstAt ps i (256 - g + m) = (g : Int)
  | 0, _ => by
    rw [Nat.add_zero, show 256 - g = (255 - g) + 1 by omega, lstAt, show 255 - (255 - g) = g by omega, if_pos h]
  | m + 1, hm => by
    have ih := lstAt_first hg h hno m (by omega)
    rw [show 256 - g + (m + 1) = (256 - g + m) + 1 by omega, lstAt, if_neg (hno _ (by omega)), ih]
theorem first_no {cells : List (BitVec 256)} {b : Nat} {f ps : List Nat} (h : AtOk cells b f ps) {i g : Nat} (hg : f[i]? = some g) : ∀ j, j < g → ps[j]? ≠ some i := by
  intro j hj hji
  have := (h.sig j i g hji hg).2
  omega

set_option maxHeartbeats 4000000 in
theorem parted_c (ca : Option Addr) (cc : Nat) (cells : List (BitVec 256)) (S : Nat → Prop) (H : Heap) (hS : ∀ k, S k → k < H.size) (hc : SlD tB S H ca cc cells) (hn : cells.length ≤ 4194304) :
    FnOk Try.prog 84 #[.slice ca cells.length cc] H fun v H' => Agr (Old H) H H' ∧ H.size ≤ H'.size ∧ ∃ ra rc, v = .agg (dfaL (asI (atRun cells 256).2) (.slice ra (atRun cells 256).1.length rc) (.slice none 0 0) (.slice none 0 0)).toArray ∧
      SlD tI (Fresh H H') H' ra rc (asI (atRun cells 256).1) := by
  have hok := atRun_ok cells 256
  have hfl := hok.flen
  refine FnOk.of_vc Try.func84 rfl (Try.call84 _) ?_
  (conv => whnf); refine valloc _ (dfaL (List.replicate 256 0) (.slice none 0 0) (.slice none 0 0) (.slice none 0 0)) rfl (by kernel_rfl) ?_
  intro p1 H1 hp1 hs1 hb1 ha1
  (conv => whnf); refine valloc _ (dfaL (List.replicate 256 0) (.slice none 0 0) (.slice none 0 0) (.slice none 0 0)) rfl (by kernel_rfl) ?_
  intro p2 H2 hp2 hs2 hb2 ha2
  have hA2 : Agr (Old H) H H2 := (ha1.mono fun j hj => by unfold Old at hj; omega).trans (ha2.mono fun j hj => by unfold Old at hj; omega)
  (conv => whnf); refine VCall.mk (atoms_c ca cc cells S H2 (fun k hk => old_lt hA2 (hS k hk)) (hc.frame (hA2.mono hS)) hn) ?_
  rintro v3 H3 ⟨ha3, hs3, aa, ac, rfl, hat⟩
  have hA3 := hA2.trans (ha3.mono fun k hk => old_lt hA2 hk)
  have hb13 := (hb1.agr ha2 (show p1 < p2 by omega)).agr ha3 (show p1 < H2.size by omega)
  have hb23 := hb2.agr ha3 (show p2 < H2.size by omega)
  generalize hfeq : (atRun cells 256).1 = f at *
  generalize hpeq : (atRun cells 256).2 = ps at *
  (conv => whnf)
  refine VLoop.mk [5] (fun i : Nat => [.int .i64 i]) (fun i H4 => i ≤ f.length ∧ Agr (fun j => j < H3.size ∧ j ≠ p2) H3 H4 ∧ H3.size ≤ H4.size ∧ ∃ vr, Blk H4 p2 37 (dfaL (cellIn ps i 0) vr (.slice none 0 0) (.slice none 0 0)) ∧ SlO tI (fun _ => False) H4 H3.size 3 vr (asI (f.take i))) (fun i _ => f.length - i) ?_ ?_
  · (conv => whnf)
    exact ⟨0, rfl, by omega, Agr.refl _ _, Nat.le_refl _, .slice none 0 0, by rw [cellIn_zero]; exact hb23, by rw [List.take_zero]; exact SlO.nil⟩
  · rintro i H4 junk ⟨hi, ha4, hs4, vr, hb4, hr4⟩
    (conv => whnf); refine VIte.mk (fun h => ?_) (fun h => ?_) <;> simp only [decide_eq_true_eq, decide_eq_false_iff_not] at h
    · have hil : i < f.length := by omega
      obtain ⟨g, hg⟩ := get_some hil
      have hati : ∀ {H' : Heap}, Agr (fun j => j < H3.size ∧ j ≠ p2) H3 H' → SlD tF (Fresh H2 H3) H' aa ac (atSets ps f.length) := fun h => hat.frame (h.mono fun k hk => by have := hk.1; exact ⟨hk.2, by omega⟩)
      (conv => whnf)
      refine VLoop.mk [6, 7] (fun n : Nat => [.int .i64 (lstAt ps i n), .int .i64 (255 - (n : Int))]) (fun n H5 => n ≤ 256 ∧ Agr (fun j => j ≠ p2) H4 H5 ∧ H4.size = H5.size ∧ Blk H5 p2 37 (dfaL (cellIn ps i n) vr (.slice none 0 0) (.slice none 0 0))) (fun n _ => 256 - n) ?_ ?_
      · (conv => whnf); exact ⟨0, rfl, by omega, Agr.refl _ _, rfl, hb4⟩
      · rintro n H5 junk5 ⟨hn5, ha5, hs5, hb5⟩
        (conv => whnf); refine VIte.mk (fun h => ?_) (fun h => ?_) <;> simp only [decide_eq_true_eq, decide_eq_false_iff_not] at h
        · have hn256 : n < 256 := by omega
          (conv => whnf); refine VSeq.run ?_
          (conv => whnf); refine ixrn slF_ (hati (ha4.trans (ha5.mono fun j hj => hj.2))) (atSets_len _ _).symm (atSets_get hil) rfl ?_
          rintro b6 o6 cs6 hSb6 hcells6 rfl
          (conv => whnf); refine ixa ar98 (by omega) (by omega) ?_
          (conv => whnf); refine ld1 (v := .bool (atSet ps i (255 - n))) ct4 (by rw [show o6 + (255 - (n : Int)).toNat * 1 = o6 + (255 - n) by omega]; exact hcells6 (255 - n) _ (funL_get _ (by omega))) trivial ?_
          (conv => whnf); refine VIte.mk (fun hbit => ?_) (fun hbit => ?_)
          · have hpi : ps[255 - n]? = some i := by simpa [atSet] using hbit
            (conv => whnf); refine VC.fa fl37_0 ?_
            (conv => whnf); refine ixa ar34 (by omega) (by omega) ?_
            (conv => whnf); refine st1 ct3 hb5 (by rw [dfaL_len (cellIn_len _ _ _)]; omega) rfl ?_
            intro H6 hb6 ha6 hs6
            rw [show 0 + 0 + (255 - (n : Int)).toNat * 1 = 255 - n by omega, dfaL_put (by rw [cellIn_len]; omega), cellIn_yes hn256 hpi] at hb6
            (conv => whnf); rw [w64 (x := 255 - (n : Int) - 1) (by omega) (by omega)]
            refine ⟨rfl, n + 1, ?_, ⟨by omega, ha5.trans (ha6.mono fun j hj => hj), by omega, hb6⟩, by omega⟩
            rw [lstAt, if_pos hpi, show ((255 - n : Nat) : Int) = 255 - (n : Int) by omega, show 255 - ((n + 1 : Nat) : Int) = 255 - (n : Int) - 1 by omega]
          · have hpi : ps[255 - n]? ≠ some i := by simpa [atSet] using hbit
            rw [cellIn_no hn256 hpi] at hb5
            (conv => whnf); rw [w64 (x := 255 - (n : Int) - 1) (by omega) (by omega)]
            refine ⟨rfl, n + 1, ?_, ⟨by omega, ha5, by omega, hb5⟩, by omega⟩
            rw [lstAt, if_neg hpi, show 255 - ((n + 1 : Nat) : Int) = 255 - (n : Int) - 1 by omega]
        · obtain rfl : n = 256 := by omega
          have hg256 := (hok.first i g hg).1
          have hlst : lstAt ps i 256 = (g : Int) := by
            have := lstAt_first hg256 (hok.first i g hg).2 (first_no hok hg) g (Nat.le_refl _)
            rwa [show 256 - g + g = 256 by omega] at this
          rw [hlst, cellIn_next] at *
          have hr5 := hr4.agr ha5 (fun j hj => by have := (hr4.lt hj).1; omega) (fun _ f => f.elim)
          (conv => whnf); refine VC.fa fl37_1 ?_
          (conv => whnf); refine ld1 ct35 (by rw [hb5.cell, Nat.zero_add]; exact dfaL_256 (cellIn_len _ _ _)) trivial ?_
          (conv => whnf); refine vbuild1 sl35 [.int .i64 (g : Int)] rfl rfl (by decide) (by decide) ?_
          intro q6 H6 hq6 hs6 hb6 ha6
          have hr6 := hr5.agr ha6 (fun j hj => by have := (hr5.lt hj).2; omega) (fun _ f => f.elim)
          have hb56 := hb5.agr ha6 (show p2 < q6 by have := hb5.lt; omega)
          have hp2 := hb56.lt
          (conv => whnf); refine vappendO (T := tI) (S := fun _ => False) (ys := [(g : Int)]) (ds := [.int .i64 (g : Int)]) (lo := H3.size) (xs := asI (f.take i)) sl35 hr6 (by omega) (fun j hj => hj.elim)
              (hb6.cells (fun j v hv => by simpa using hv)) (Ty.reps_one ⟨rfl, inI64 (by omega)⟩) rfl (by intro u hu; cases List.mem_singleton.1 hu; rfl) (by rw [asI_len]; simp only [maxLen, List.length_singleton, List.length_take]; omega) (by rw [asI_len]; simp only [List.length_singleton, List.length_take]; omega) ?_
          intro v7 H7 hr7 ha7 hs7 hfr7
          have hb7 := hb56.agr ha7 ⟨hp2, fun hb => by have := (hr6.lt hb).1; omega⟩
          (conv => whnf); refine VC.fa fl37_1 ?_
          (conv => whnf); refine st1 ct35 hb7 (by rw [dfaL_len (cellIn_len _ _ _)]; omega) hr7.one ?_
          intro H8 hb8 ha8 hs8
          rw [Nat.zero_add, dfaL_put256 (cellIn_len _ _ _)] at hb8
          have hr8 := hr7.agr ha8 (fun j hj => by have := (hr7.lt hj).1; omega) (fun _ f => f.elim)
          (conv => whnf); rw [w64 (x := (i : Int) + 1) (by omega) (by omega)]
          refine ⟨rfl, i + 1, by simp, ⟨by omega, ?_, by omega, v7, hb8, ?_⟩, by omega⟩
          · exact (((ha4.trans (ha5.mono fun j hj => hj.2)).trans (ha6.mono fun j hj => by omega)).trans (ha7.mono fun j hj => ⟨by omega, fun hb => by have := (hr6.lt hb).1; omega⟩)).trans (ha8.mono fun j hj => hj.2)
          · rw [take_succ_snoc hg]
            unfold asI at hr8 ⊢
            rw [List.map_append]; exact hr8
    · obtain rfl : i = f.length := by omega
      rw [cellIn_end hok.plen hok.lt] at hb4
      rw [List.take_length] at hr4
      have hA4 : Agr (Old H) H H4 := hA3.trans (ha4.mono fun j hj => by have := old_lt hA3 hj; unfold Old at hj; omega)
      obtain ⟨ra, rc, rfl, hrv, -⟩ := hr4.view (S' := fun j => H3.size ≤ j ∧ j < H4.size) (fun j hj => hr4.lt hj) (fun _ f => f.elim)
      rw [asI_len] at hb4
      have hpl : (asI ps).length = 256 := by rw [asI_len, hok.plen]
      have hl259 : (dfaL (asI ps) (.slice ra f.length rc) (.slice none 0 0) (.slice none 0 0)).length = 259 := dfaL_len hpl
      (conv => whnf); refine ldN (cs := dfaL (asI ps) (.slice ra f.length rc) (.slice none 0 0) (.slice none 0 0)) (by rw [hl259]; exact ag37) (hb4.cells fun j v hv => by rw [Nat.zero_add]; exact hv) trivial ?_
      (conv => whnf); refine VC.stN (cs := dfaL (asI ps) (.slice ra f.length rc) (.slice none 0 0) (.slice none 0 0)) (by rw [hl259]; rfl) (hb13.agr ha4 ⟨by omega, by omega⟩) (Nat.le_of_eq (by rw [hl259, dfaL_len (by simp)])) (dfaL_ones rfl rfl rfl) ?_
      intro H6 hb6 ha6 hs6
      rw [splice_all (by rw [hl259, dfaL_len (by simp)])] at hb6
      (conv => whnf); refine ldN (cs := dfaL (asI ps) (.slice ra f.length rc) (.slice none 0 0) (.slice none 0 0)) (by rw [hl259]; exact ag37) (hb6.cells fun j v hv => by rw [Nat.zero_add]; exact hv) trivial ?_
      exact ⟨hA4.trans (ha6.mono fun j hj => by unfold Old at hj; omega), by omega, ra, rc, rfl, (hrv.frame (ha6.mono fun j hj => by omega)).mono fun j hj => by unfold Fresh at *; omega⟩

end Go.Proofs.Ytpnnedkpbmilkaa
