/- The document's Align gives what keys.Align gives. -/
import Derived.Test.YtfdlhakfmbdamaaPKeysH
set_option linter.unusedVariables false
set_option linter.unusedSimpArgs false
set_option maxRecDepth 100000
namespace Go.Proofs.Ytfdlhakfmbdamaa
open Go.VC

/-! ### the plain law: what is taken -/
def takenM (view source : List ByteArray) (i k : Nat) : Bool := (source[k]?).any fun s => ((placesTo source source.length s).take (countTo view i s)).contains k
theorem places_mem {source : List ByteArray} {n : Nat} {k : ByteArray} {p : Nat} : p ∈ placesTo source n k ↔ p < n ∧ (source[p]?).any (fun x => same x k) = true := by
  unfold placesTo
  rw [List.mem_filter, List.mem_range]
theorem places_at {source : List ByteArray} {k : ByteArray} {p : Nat} : p ∈ placesTo source source.length k ↔ source[p]? = some k := by
  rw [places_mem]
  constructor
  · rintro ⟨h1, h2⟩
    obtain ⟨x, hx⟩ := get_some h1
    rw [hx] at h2 ⊢
    simp only [Option.any_some] at h2
    rw [same_eq.1 h2]
  · intro h
    have h1 := (List.getElem?_eq_some_iff.1 h).1
    exact ⟨h1, by rw [h]; exact same_self k⟩
theorem places_sorted (source : List ByteArray) (n : Nat) (k : ByteArray) : (placesTo source n k).Pairwise (· < ·) := by
  unfold placesTo
  exact List.Pairwise.filter _ List.pairwise_lt_range
theorem places_inj {source : List ByteArray} {n : Nat} {k : ByteArray} {i j p q : Nat} (hi : (placesTo source n k)[i]? = some p) (hj : (placesTo source n k)[j]? = some q) (h : p ≤ q) : i ≤ j := by
  have hs := List.pairwise_iff_getElem.1 (places_sorted source n k)
  obtain ⟨hi1, hi2⟩ := List.getElem?_eq_some_iff.1 hi
  obtain ⟨hj1, hj2⟩ := List.getElem?_eq_some_iff.1 hj
  rcases Nat.lt_or_ge j i with hc | hc
  · have := hs j i hj1 hi1 hc
    omega
  · exact hc
/-- In the first c places. -/
theorem taken_iff {source : List ByteArray} {k : ByteArray} {c p : Nat} : ((placesTo source source.length k).take c).contains p = true ↔ ∃ j, j < c ∧ (placesTo source source.length k)[j]? = some p := by
  rw [List.contains_iff_mem]
  constructor
  · intro h
    obtain ⟨j, hj⟩ := List.getElem?_of_mem h
    rw [List.getElem?_take] at hj
    split at hj
    · exact ⟨j, by assumption, hj⟩
    · cases hj
  · rintro ⟨j, h1, h2⟩
    exact List.mem_of_getElem? (i := j) (by rw [List.getElem?_take, if_pos h1]; exact h2)
theorem taken_at {view source : List ByteArray} {i k : Nat} {x : ByteArray} (h : source[k]? = some x) : takenM view source i k = ((placesTo source source.length x).take (countTo view i x)).contains k := by
  unfold takenM
  rw [h]; rfl
/-- The first that isn't taken is the next place. -/
theorem first_free {view source : List ByteArray} {i k : Nat} {x : ByteArray} (hk : source[k]? = some x) (hf : takenM view source i k = false) (hb : ∀ j, j < k → source[j]? = some x → takenM view source i j = true) :
    (placesTo source source.length x)[countTo view i x]? = some k := by
  obtain ⟨m, hm⟩ := List.getElem?_of_mem (places_at.2 hk)
  have hcm : countTo view i x ≤ m := by
    rcases Nat.lt_or_ge m (countTo view i x) with hlt | hge
    · have h1 := taken_at (view := view) (i := i) hk
      rw [hf] at h1
      rw [taken_iff.2 ⟨m, hlt, hm⟩] at h1
      cases h1
    · exact hge
  have hml := (List.getElem?_eq_some_iff.1 hm).1
  obtain ⟨p, hp⟩ := get_some (l := placesTo source source.length x) (k := countTo view i x) (by omega)
  have hpx := places_at.1 (List.mem_of_getElem? hp)
  rcases Nat.lt_or_ge p k with hlt | hge
  · have h1 := hb p hlt hpx
    rw [taken_at hpx] at h1
    obtain ⟨j, hj1, hj2⟩ := taken_iff.1 h1
    have := places_inj hp hj2 (Nat.le_refl _)
    omega
  · have := places_inj hm hp hge
    have he : m = countTo view i x := by omega
    rw [← he, hm]
theorem none_free {view source : List ByteArray} {i : Nat} {x : ByteArray} (hb : ∀ j, source[j]? = some x → takenM view source i j = true) : (placesTo source source.length x)[countTo view i x]? = none := by
  cases hp : (placesTo source source.length x)[countTo view i x]? with
  | none => rfl
  | some p =>
    have hpx := places_at.1 (List.mem_of_getElem? hp)
    have h1 := hb p hpx
    rw [taken_at hpx] at h1
    obtain ⟨j, hj1, hj2⟩ := taken_iff.1 h1
    have := places_inj hp hj2 (Nat.le_refl _)
    omega
theorem taken_next {view source : List ByteArray} {i : Nat} {x : ByteArray} (hx : view[i]? = some x) (j : Nat) :
    takenM view source (i + 1) j = (takenM view source i j || decide ((placesTo source source.length x)[countTo view i x]? = some j)) := by
  cases hs : source[j]? with
  | none =>
    have h1 : ¬ (placesTo source source.length x)[countTo view i x]? = some j := fun h => by
      have := places_at.1 (List.mem_of_getElem? h)
      rw [hs] at this; cases this
    rw [decide_eq_false h1]
    simp [takenM, hs]
  | some s =>
    rw [taken_at hs, taken_at hs, count_succ hx]
    by_cases hsx : x = s
    · subst hsx
      rw [same_self, if_pos rfl, List.take_add_one]
      rw [Bool.eq_iff_iff]
      simp only [List.contains_iff_mem, List.mem_append, Bool.or_eq_true, decide_eq_true_eq, Option.mem_toList, Option.mem_def]
    · have h1 : ¬ (placesTo source source.length x)[countTo view i x]? = some j := fun h => by
        have := places_at.1 (List.mem_of_getElem? h)
        rw [hs] at this
        exact hsx (Option.some.inj this).symm
      rw [same_ne hsx, decide_eq_false h1]
      simp
theorem takes_eq {view source : List ByteArray} {i : Nat} {x : ByteArray} (hx : view[i]? = some x) : takes view source i = (match (placesTo source source.length x)[countTo view i x]? with | none => -1 | some p => (p : Int)) := by
  unfold takes
  simp only [hx]
  cases (placesTo source source.length x)[countTo view i x]? <;> rfl
theorem takes_free {view source : List ByteArray} {i k : Nat} {x : ByteArray} (hx : view[i]? = some x) (h : (placesTo source source.length x)[countTo view i x]? = some k) : takes view source i = (k : Int) := by
  rw [takes_eq hx, h]
theorem takes_none {view source : List ByteArray} {i : Nat} {x : ByteArray} (hx : view[i]? = some x) (h : (placesTo source source.length x)[countTo view i x]? = none) : takes view source i = -1 := by
  rw [takes_eq hx, h]

/-! ### the walk -/
def takenL (view source : List ByteArray) (i : Nat) : List Bool := (List.range source.length).map (takenM view source i)
theorem takenL_get {view source : List ByteArray} {i k : Nat} (h : k < source.length) : (takenL view source i)[k]? = some (takenM view source i k) := by
  unfold takenL
  rw [List.getElem?_map, List.getElem?_range h]; rfl
theorem takenL_len (view source : List ByteArray) (i : Nat) : (takenL view source i).length = source.length := by simp [takenL]
theorem takenL_zero (view source : List ByteArray) : takenL view source 0 = List.replicate source.length false := by
  apply List.ext_getElem?
  intro k
  by_cases hk : k < source.length
  · rw [takenL_get hk, List.getElem?_replicate, if_pos hk]
    obtain ⟨x, hx⟩ := get_some hk
    rw [taken_at hx]; simp [countTo]
  · rw [List.getElem?_eq_none (by rw [takenL_len]; omega), List.getElem?_eq_none (by simp; omega)]
theorem takenL_next {view source : List ByteArray} {i k : Nat} {x : ByteArray} (hx : view[i]? = some x) (h : (placesTo source source.length x)[countTo view i x]? = some k) : (takenL view source i).set k true = takenL view source (i + 1) := by
  apply List.ext_getElem?
  intro j
  by_cases hj : j < source.length
  · rw [takenL_get hj, List.getElem?_set, takenL_len, taken_next hx, h]
    by_cases hkj : k = j
    · subst hkj; simp [hj]
    · rw [if_neg hkj, takenL_get hj]
      simp [hkj]
  · rw [List.getElem?_eq_none (by rw [List.length_set, takenL_len]; omega), List.getElem?_eq_none (by rw [takenL_len]; omega)]
theorem takenL_same {view source : List ByteArray} {i : Nat} {x : ByteArray} (hx : view[i]? = some x) (h : (placesTo source source.length x)[countTo view i x]? = none) : takenL view source i = takenL view source (i + 1) := by
  apply List.ext_getElem?
  intro j
  by_cases hj : j < source.length
  · rw [takenL_get hj, takenL_get hj, taken_next hx, h]; simp
  · rw [List.getElem?_eq_none (by rw [takenL_len]; omega), List.getElem?_eq_none (by rw [takenL_len]; omega)]

set_option maxHeartbeats 4000000 in
theorem refalign_c (va sa : Option Addr) (vc sc : Nat) (view source : List ByteArray) (S : Nat → Prop) (H : Heap) (hS : ∀ k, S k → k < H.size) (hv : SlD tStr S H va vc view) (hs : SlD tStr S H sa sc source) (nv : view.length ≤ 4194304) (ns : source.length ≤ 4194304) :
    FnOk Try.prog 8 #[.slice va view.length vc, .slice sa source.length sc] H fun v H' => Agr (Old H) H H' ∧ H.size ≤ H'.size ∧ ∃ b, v = .slice (some ⟨b, 0, none⟩) view.length view.length ∧ H.size ≤ b ∧
      SlO tI (fun _ => False) H' H.size 3 v (alignM view source) := by
  have hal : (alignM view source).length = view.length := by simp [alignM]
  refine FnOk.of_vc Try.func8 rfl (Try.call8 _) ?_
  (conv => whnf); refine vmake1 sl31 rfl (by omega) (by omega) (by omega) (by omega) ?_
  intro tb H1 htb hs1 hb1 ha1
  rw [Int.toNat_natCast] at hb1
  (conv => whnf); refine vmake1 sl24 rfl (by omega) (by omega) (by omega) (by omega) ?_
  intro nb H2 hnb hs2 hb2 ha2
  rw [Int.toNat_natCast] at hb2
  have htaken : SlO tBool (fun _ => False) H2 H.size 4 (.slice (some ⟨tb, 0, none⟩) source.length source.length) (takenL view source 0) := by
    rw [takenL_zero]
    exact SlO.made (T := tBool) (v := false) (c := [.bool false]) (by omega) (by simpa using hb1.agr ha2 (show tb < nb by omega)) rfl (by unfold maxLen; omega)
  have hout0 : SlO tI (fun _ => False) H2 H.size 3 (.slice (some ⟨nb, 0, none⟩) view.length view.length) ((alignM view source).take 0 ++ List.replicate ((alignM view source).length - 0) 0) := by
    rw [fill_beg, hal]
    exact SlO.made (T := tI) (v := (0 : Int)) (c := [.int .i64 0]) (by omega) (by simpa using hb2) ⟨rfl, inI64 (x := 0) (by decide)⟩ (by unfold maxLen; omega)
  (conv => whnf)
  refine VLoop.mk [7] (fun i : Nat => [.int .i64 i]) (fun i H4 => i ≤ view.length ∧ Agr (fun j => j < tb) H2 H4 ∧ H4.size = H2.size ∧ SlO tBool (fun _ => False) H4 H.size 4 (.slice (some ⟨tb, 0, none⟩) source.length source.length) (takenL view source i) ∧
    SlO tI (fun _ => False) H4 H.size 3 (.slice (some ⟨nb, 0, none⟩) view.length view.length) ((alignM view source).take i ++ List.replicate ((alignM view source).length - i) 0)) (fun i _ => view.length - i) ?_ ?_
  · (conv => whnf)
    exact ⟨0, rfl, by omega, Agr.refl _ _, rfl, htaken, hout0⟩
  · rintro i H4 junk ⟨hi, ha4, hs4, htk, hout⟩
    have hA4 : Agr (Old H) H H4 := ((ha1.mono fun j hj => by unfold Old at hj; omega).trans (ha2.mono fun j hj => by unfold Old at hj; omega)).trans (ha4.mono fun j hj => by unfold Old at hj; omega)
    (conv => whnf); refine VIte.mk (fun h => ?_) (fun h => ?_) <;> simp only [decide_eq_true_eq, decide_eq_false_iff_not] at h
    · obtain ⟨x, hx⟩ := get_some (l := view) (k := i) (by omega)
      have hget : (alignM view source)[i]? = some (takes view source i) := by
        unfold alignM
        rw [List.getElem?_map, List.getElem?_range (by omega)]; rfl
      have hsz : i * tI.size = i := Nat.mul_one i
      have hsz1 : tI.size = 1 := rfl
      obtain ⟨-, -, hlo7, l7, hblk7, hlen7, -, hput7⟩ := hout.placeS (i := i) (by rw [fill_len (by omega)]; omega)
      have hlt7 : i * tI.size < l7.length := by omega
      (conv => whnf); refine ix sl24 (by omega) (by omega) ?_
      (conv => whnf); refine st1 ct3 hblk7 (by omega) rfl ?_
      intro H5 hb5 ha5 hs5
      rw [show 0 + ((i : Nat) : Int).toNat * 1 = i * tI.size by show 0 + ((i : Nat) : Int).toNat * 1 = i * 1; omega] at hb5
      have hout5 := hput7 H5 [.int .i64 (-1)] (-1) (by rw [← splice_one hlt7] at hb5; exact hb5) (fun j hj => hj.elim) ⟨rfl, by decide, by decide⟩
      have htk5 := htk.agr ha5 (fun b hb => by obtain ⟨o, n, c, e⟩ := hb; cases e; omega) (fun _ f => f.elim)
      (conv => whnf)
      refine VLoop.mk [8] (fun k : Nat => [.int .i64 k]) (fun k H6 => k ≤ source.length ∧ Agr (fun j => j < tb) H5 H6 ∧ H6.size = H5.size ∧
        ((SlO tBool (fun _ => False) H6 H.size 4 (.slice (some ⟨tb, 0, none⟩) source.length source.length) (takenL view source i) ∧
          SlO tI (fun _ => False) H6 H.size 3 (.slice (some ⟨nb, 0, none⟩) view.length view.length) (((alignM view source).take i ++ List.replicate ((alignM view source).length - i) 0).set i (-1)) ∧ ∀ j, j < k → source[j]? = some x → takenM view source i j = true) ∨
        (SlO tBool (fun _ => False) H6 H.size 4 (.slice (some ⟨tb, 0, none⟩) source.length source.length) (takenL view source (i + 1)) ∧
          SlO tI (fun _ => False) H6 H.size 3 (.slice (some ⟨nb, 0, none⟩) view.length view.length) ((alignM view source).take (i + 1) ++ List.replicate ((alignM view source).length - (i + 1)) 0) ∧ 0 ≤ takes view source i))) (fun k _ => source.length - k) ?_ ?_
      · (conv => whnf)
        exact ⟨0, rfl, by omega, Agr.refl _ _, rfl, .inl ⟨htk5, hout5, fun j hj => by omega⟩⟩
      · rintro k H6 junk6 ⟨hk, ha6, hs6, hcase⟩
        have hA6 : Agr (Old H) H H6 := (hA4.trans (ha5.mono fun j hj => by unfold Old at hj; omega)).trans (ha6.mono fun j hj => by unfold Old at hj; omega)
        have step : ∀ {H9 : Heap}, Agr (fun j => j < tb) H5 H9 → H9.size = H5.size → SlO tBool (fun _ => False) H9 H.size 4 (.slice (some ⟨tb, 0, none⟩) source.length source.length) (takenL view source (i + 1)) →
          SlO tI (fun _ => False) H9 H.size 3 (.slice (some ⟨nb, 0, none⟩) view.length view.length) ((alignM view source).take (i + 1) ++ List.replicate ((alignM view source).length - (i + 1)) 0) →
          (i + 1 ≤ view.length ∧ Agr (fun j => j < tb) H2 H9 ∧ H9.size = H2.size ∧ SlO tBool (fun _ => False) H9 H.size 4 (.slice (some ⟨tb, 0, none⟩) source.length source.length) (takenL view source (i + 1)) ∧
          SlO tI (fun _ => False) H9 H.size 3 (.slice (some ⟨nb, 0, none⟩) view.length view.length) ((alignM view source).take (i + 1) ++ List.replicate ((alignM view source).length - (i + 1)) 0)) := fun h1 h2 h3 h4 => ⟨by omega, (ha4.trans (ha5.mono fun j hj => by omega)).trans h1, by omega, h3, h4⟩
        by_cases hkn : k < source.length
        · have d1 : decide ((k : Int) < (source.length : Int)) = true := decide_eq_true (by omega)
          rcases hcase with ⟨htk6, hout6, hno⟩ | ⟨htk6, hout6, hpos⟩
          · obtain ⟨-, -, -, lo6, hbo6, hlo6, hgo6, hpo6⟩ := hout6.placeS (i := i) (by rw [List.length_set, fill_len (by omega)]; omega)
            obtain ⟨co, hco, ⟨rfl, -⟩⟩ := hgo6 (-1) (by rw [List.getElem?_set_self (by rw [fill_len (by omega)]; omega)])
            obtain ⟨-, -, -, lt6, hbt6, hlt6, hgt6, hpt6⟩ := htk6.placeS (i := k) (by rw [takenL_len]; omega)
            obtain ⟨ct, hct, rfl⟩ := hgt6 _ (takenL_get hkn)
            have hszb : k * tBool.size = k := Nat.mul_one k
            have hszb1 : tBool.size = 1 := rfl
            obtain ⟨y, hy⟩ := get_some (l := source) (k := k) hkn
            (conv => whnf); rw [d1]
            (conv => whnf); refine ix sl24 (by omega) (by omega) ?_
            (conv => whnf); refine ld1 (v := .int .i64 (-1)) ct3 (by have := hco.one; rwa [show 0 + ((i : Nat) : Int).toNat * 1 = i * tI.size by show 0 + ((i : Nat) : Int).toNat * 1 = i * 1; omega]) trivial ?_
            (conv => whnf); refine VSeq.run ?_
            (conv => whnf); refine VDraw.lex rfl (by kernel_rfl) ?_
            (conv => whnf); refine ix sl31 (by omega) (by omega) ?_
            (conv => whnf); refine ld1 (v := .bool (takenM view source i k)) ct4 (by have := hct.one; rwa [show 0 + ((k : Nat) : Int).toNat * 1 = k * tBool.size by show 0 + ((k : Nat) : Int).toNat * 1 = k * 1; omega]) trivial ?_
            have next : takenM view source i k = true ∨ y ≠ x → ∀ j, j < k + 1 → source[j]? = some x → takenM view source i j = true := by
              intro hor j hj hjx
              by_cases hjk : j = k
              · subst hjk
                rcases hor with h1 | h1
                · exact h1
                · rw [hy] at hjx; exact absurd (Option.some.inj hjx) h1
              · exact hno j (by omega) hjx
            cases htm : takenM view source i k with
            | true =>
              (conv => whnf); rw [w64 (x := (k : Int) + 1) (by omega) (by omega)]
              exact ⟨rfl, k + 1, by simp, ⟨by omega, ha6, hs6, .inl ⟨htk6, hout6, next (.inl htm)⟩⟩, by omega⟩
            | false =>
              (conv => whnf); refine ixr sl22 (hs.frame (hA6.mono hS)) hy rfl ?_
              rintro b8 o8 cs8 hSb8 hcells8 ⟨rfl, -⟩
              (conv => whnf); refine ld1 ct9 hcells8.one trivial ?_
              (conv => whnf); refine ixr sl22 (hv.frame (hA6.mono hS)) hx rfl ?_
              rintro b9 o9 cs9 hSb9 hcells9 ⟨rfl, -⟩
              (conv => whnf); refine ld1 ct9 hcells9.one trivial ?_
              (conv => whnf); refine VIte.mk (fun he => ?_) (fun he => ?_)
              · have hyx : y = x := (text_eq y x).1 he
                subst hyx
                have hfree := first_free hy htm (fun j hj hjx => hno j hj hjx)
                (conv => whnf); refine ix sl31 (by omega) (by omega) ?_
                (conv => whnf); refine st1 ct4 hbt6 (by omega) rfl ?_
                intro H7 hb7 ha7 hs7
                rw [show 0 + ((k : Nat) : Int).toNat * 1 = k * tBool.size by show 0 + ((k : Nat) : Int).toNat * 1 = k * 1; omega] at hb7
                have htk7 := hpt6 H7 [.bool true] true (by rw [← splice_one (show k * tBool.size < lt6.length by omega)] at hb7; exact hb7) (fun j hj => hj.elim) rfl
                rw [takenL_next hx hfree] at htk7
                have hbo7 := hbo6.agr ha7 (show nb ≠ tb by omega)
                (conv => whnf); refine ix sl24 (by omega) (by omega) ?_
                (conv => whnf); refine st1 ct3 hbo7 (by omega) rfl ?_
                intro H8 hb8 ha8 hs8
                rw [show 0 + ((i : Nat) : Int).toNat * 1 = i * tI.size by show 0 + ((i : Nat) : Int).toNat * 1 = i * 1; omega] at hb8
                have hout8 := hpo6 H8 [.int .i64 (k : Int)] (k : Int) (by rw [← splice_one (show i * tI.size < lo6.length by omega)] at hb8; exact hb8) (fun j hj => hj.elim) ⟨rfl, inI64 (by omega)⟩
                rw [List.set_set, ← takes_free hx hfree, fill_set hget] at hout8
                have htk8 := htk7.agr ha8 (fun b hb => by obtain ⟨o, n, c, e⟩ := hb; cases e; omega) (fun _ f => f.elim)
                (conv => whnf); rw [w64 (x := (k : Int) + 1) (by omega) (by omega)]
                exact ⟨rfl, k + 1, by simp, ⟨by omega, (ha6.trans (ha7.mono fun j hj => by omega)).trans (ha8.mono fun j hj => by omega), by omega, .inr ⟨htk8, hout8, by rw [takes_free hx hfree]; omega⟩⟩, by omega⟩
              · have hyx : y ≠ x := fun h => by have := (text_eq y x).2 h; rw [he] at this; cases this
                (conv => whnf); rw [w64 (x := (k : Int) + 1) (by omega) (by omega)]
                exact ⟨rfl, k + 1, by simp, ⟨by omega, ha6, hs6, .inl ⟨htk6, hout6, next (.inr hyx)⟩⟩, by omega⟩
          · have hg8 : ((alignM view source).take (i + 1) ++ List.replicate ((alignM view source).length - (i + 1)) 0)[i]? = some (takes view source i) := by
              rw [List.getElem?_append_left (by simp; omega), List.getElem?_take, if_pos (by omega), hget]
            obtain ⟨-, -, -, lo6, hbo6, hlo6, hgo6, hpo6⟩ := hout6.placeS (i := i) (by rw [fill_len (by omega)]; omega)
            obtain ⟨co, hco, ⟨rfl, -⟩⟩ := hgo6 _ hg8
            have d2 : decide (takes view source i < 0) = false := decide_eq_false (by omega)
            (conv => whnf); rw [d1]
            (conv => whnf); refine ix sl24 (by omega) (by omega) ?_
            (conv => whnf); refine ld1 (v := .int .i64 (takes view source i)) ct3 (by have := hco.one; rwa [show 0 + ((i : Nat) : Int).toNat * 1 = i * tI.size by show 0 + ((i : Nat) : Int).toNat * 1 = i * 1; omega]) trivial ?_
            (conv => whnf); rw [d2]
            (conv => whnf); rw [w64 (x := (i : Int) + 1) (by omega) (by omega)]
            exact ⟨rfl, i + 1, by simp, step ha6 hs6 htk6 hout6, by omega⟩
        · have d1 : decide ((k : Int) < (source.length : Int)) = false := decide_eq_false (by omega)
          (conv => whnf); rw [d1]
          (conv => whnf); rw [w64 (x := (i : Int) + 1) (by omega) (by omega)]
          rcases hcase with ⟨htk6, hout6, hno⟩ | ⟨htk6, hout6, hpos⟩
          · have hnone := none_free (view := view) (source := source) (i := i) (x := x) fun j hj => hno j (by have := (List.getElem?_eq_some_iff.1 hj).1; omega) hj
            rw [takenL_same hx hnone] at htk6
            rw [← takes_none hx hnone, fill_set hget] at hout6
            exact ⟨rfl, i + 1, by simp, step ha6 hs6 htk6 hout6, by omega⟩
          · exact ⟨rfl, i + 1, by simp, step ha6 hs6 htk6 hout6, by omega⟩
    · obtain rfl : i = view.length := by omega
      (conv => whnf)
      have hfe := fill_end (l := alignM view source) (z := (0 : Int))
      rw [hal] at hfe hout
      rw [hfe] at hout
      exact ⟨hA4, by omega, nb, rfl, by omega, hout⟩

end Go.Proofs.Ytfdlhakfmbdamaa
