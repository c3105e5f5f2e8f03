/- keys.Align: what it computes. -/
import Derived.Test.YtfdlhakfmbdamaaVMore
import Derived.Test.YtfdlhakfmbdamaaVFacts
set_option linter.unusedVariables false
set_option linter.unusedSimpArgs false
set_option maxRecDepth 100000
namespace Go.Proofs.Ytfdlhakfmbdamaa
open Go.VC

theorem get_some {α : Type} {l : List α} {k : Nat} (h : k < l.length) : ∃ x, l[k]? = some x := ⟨l[k], List.getElem?_eq_getElem h⟩
theorem take_succ_snoc {α : Type} {l : List α} {k : Nat} {x : α} (h : l[k]? = some x) : l.take (k + 1) = l.take k ++ [x] := by
  rw [List.take_add_one, h]; rfl
abbrev tI : Ty Int := tInt .i64
/-- One text. -/
def same (a b : ByteArray) : Bool := decide (a.data.toList = b.data.toList)
theorem same_eq {a b : ByteArray} : same a b = true ↔ a = b := by
  unfold same
  rw [decide_eq_true_eq]
  exact ⟨text_inj, fun h => by rw [h]⟩
theorem same_self (a : ByteArray) : same a a = true := same_eq.2 rfl
theorem same_ne {a b : ByteArray} (h : a ≠ b) : same a b = false := by
  cases hs : same a b with
  | false => rfl
  | true => exact absurd (same_eq.1 hs) h
theorem text_same (a b : ByteArray) : (a.toList == b.toList) = same a b := text_beq a b
/-- The places below i that hold k. -/
def placesTo (source : List ByteArray) (i : Nat) (k : ByteArray) : List Nat := (List.range i).filter fun j => (source[j]?).any fun x => same x k
def countTo (view : List ByteArray) (i : Nat) (k : ByteArray) : Nat := ((view.take i).filter fun x => same x k).length
/-- What the i-th key of the view takes. -/
def takes (view source : List ByteArray) (i : Nat) : Int :=
  match view[i]? with
  | none => 0
  | some k => match (placesTo source source.length k)[countTo view i k]? with
    | none => -1
    | some p => (p : Int)
def alignM (view source : List ByteArray) : List Int := (List.range view.length).map (takes view source)
theorem places_succ {source : List ByteArray} {i : Nat} {x : ByteArray} (h : source[i]? = some x) (k : ByteArray) : placesTo source (i + 1) k = if same x k then placesTo source i k ++ [i] else placesTo source i k := by
  unfold placesTo
  rw [List.range_succ, List.filter_append]
  cases hs : same x k <;> simp [h, hs]
theorem count_succ {view : List ByteArray} {i : Nat} {x : ByteArray} (h : view[i]? = some x) (k : ByteArray) : countTo view (i + 1) k = countTo view i k + if same x k then 1 else 0 := by
  unfold countTo
  rw [take_succ_snoc h, List.filter_append]
  cases hs : same x k <;> simp [hs]
theorem places_lt {source : List ByteArray} {i : Nat} {k : ByteArray} : ∀ p ∈ placesTo source i k, p < i := by
  intro p hp
  unfold placesTo at hp
  exact List.mem_range.1 (List.mem_filter.1 hp).1
def tStrs : Ty (List ByteArray) := tSl tStr
def asInts (l : List Nat) : List Int := l.map fun (n : Nat) => (n : Int)
theorem mapQ : MapT Try.prog 32 9 33 .string (.slice none 0 0) := ⟨rfl, rfl, rfl⟩

set_option maxHeartbeats 4000000 in
theorem align_c (va sa : Option Addr) (vc sc : Nat) (view source : List ByteArray) (S : Nat → Prop) (H : Heap) (hS : ∀ k, S k → k < H.size) (hv : SlD tStr S H va vc view) (hs : SlD tStr S H sa sc source) (nv : view.length ≤ 4194304) (ns : source.length ≤ 4194304) :
    FnOk Try.prog 10 #[.slice va view.length vc, .slice sa source.length sc] H fun v H' => Agr (Old H) H H' ∧ H.size ≤ H'.size ∧ ∃ b, v = .slice (some ⟨b, 0, none⟩) view.length view.length ∧ H.size ≤ b ∧
      SlO tI (fun _ => False) H' H.size 3 v (alignM view source) := by
  refine FnOk.of_vc Try.func10 rfl (Try.call10 _) ?_
  (conv => whnf); refine mmake (enc := Value.string) ?_
  intro mb H1 hmb hs1 hm1 ha1
  (conv => whnf)
  refine VLoop.mk [15] (fun i : Nat => [.int .i64 i]) (fun i H2 => i ≤ source.length ∧ Agr (fun j => j < mb) H1 H2 ∧ H1.size ≤ H2.size ∧ ∃ m, Qs Value.string tI H2 (mb + 1) 3 mb m (fun k => asInts (placesTo source i k))) (fun i _ => source.length - i) ?_ ?_
  · (conv => whnf)
    exact ⟨0, rfl, by omega, Agr.refl _ _, by omega, _, (Qs.new hm1 (by omega)).ext fun k => rfl⟩
  · rintro i H2 junk ⟨hi, ha2, hs2, m, hq⟩
    have hA2 : Agr (Old H) H H2 := (ha1.mono fun j hj => by unfold Old at hj; omega).trans (ha2.mono fun j hj => by unfold Old at hj; omega)
    (conv => whnf); refine VIte.mk (fun h => ?_) (fun h => ?_) <;> simp only [decide_eq_true_eq, decide_eq_false_iff_not] at h
    · obtain ⟨x, hx⟩ := get_some (l := source) (k := i) (by omega)
      (conv => whnf); refine ixr sl22 (hs.frame (hA2.mono hS)) hx rfl ?_
      rintro b3 o3 cs3 hSb3 hcells3 ⟨rfl, hxl⟩
      (conv => whnf); refine ld1 ct9 hcells3.one trivial ?_
      (conv => whnf); refine mlook (a := x) mapQ keyS hq.map trivial ?_
      have hown := hq.own x
      have hlen : (asInts (placesTo source i x)).length ≤ i := by
        unfold asInts placesTo
        rw [List.length_map]
        exact Nat.le_trans (List.length_filter_le _ _) (by simp)
      (conv => whnf); refine vbuild1 sl33 [.int .i64 (i : Int)] rfl rfl (by decide) (by decide) ?_
      intro q4 H4 hq4 hs4 hb4 ha4
      have hm2 := hq.map.lt
      have hq' := hq.agr ha4 (by omega) (fun b _ hb => by omega)
      (conv => whnf); refine vappendO (T := tI) (S := fun _ => False) (ys := [(i : Int)]) (ds := [.int .i64 (i : Int)]) (lo := mb + 1) (xs := asInts (placesTo source i x)) sl33 (hq'.own x) (by omega) (fun k hk => hk.elim)
        (hb4.cells (fun j v hv => by simpa using hv)) (Ty.reps_one ⟨rfl, inI64 (by omega)⟩) rfl (by intro u hu; cases List.mem_singleton.1 hu; rfl) (by simp only [maxLen, List.length_singleton]; omega) (by simp only [List.length_singleton]; omega) ?_
      intro v5 H5 hown5 ha5 hs5 hfresh5
      have hmb4 : mb < H4.size ∧ ¬ slB (slAt m x) mb := ⟨by omega, fun hb => by have := ((hq'.own x).lt hb).1; omega⟩
      (conv => whnf); refine mput (a := x) mapQ keyS (hq'.map.agr ha5 hmb4) ?_
      intro H6 hm6 ha6 hs6
      have hq6 := hq'.push hown5 ha5 hfresh5 hm6 ha6
      (conv => whnf); rw [w64 (x := (i : Int) + 1) (by omega) (by omega)]
      refine ⟨rfl, i + 1, by simp, ⟨by omega, ?_, by omega, _, hq6.ext fun k => ?_⟩, by omega⟩
      · exact ((ha2.trans (ha4.mono fun j hj => by omega)).trans (ha5.mono fun j hj => ⟨by omega, fun hb => by have := ((hq'.own x).lt hb).1; omega⟩)).trans (ha6.mono fun j hj => by omega)
      · rw [places_succ hx]
        by_cases hk : k = x
        · subst hk
          rw [upd_self, same_self, if_pos rfl]
          simp [asInts]
        · rw [upd_ne hk, same_ne (Ne.symm hk)]; rfl
    · obtain rfl : i = source.length := by omega
      have hm2 := hq.map.lt
      (conv => whnf); refine vmake1 sl24 rfl (by omega) (by omega) (by omega) (by omega) ?_
      intro nb H3 hnb hs3 hb3 ha3
      rw [Int.toNat_natCast] at hb3
      (conv => whnf)
      refine VLoop.mk [34] (fun i : Nat => [.int .i64 i]) (fun i H4 => i ≤ view.length ∧ Agr (fun j => j < H3.size ∧ j ≠ nb ∧ j ≠ mb) H3 H4 ∧ H3.size = H4.size ∧ (∃ m, MapF Value.string H4 mb m ∧
        ∀ k, ∃ a cap, slAt m k = .slice a ((asInts (placesTo source source.length k)).drop (countTo view i k)).length cap ∧ SlD tI (fun j => mb < j ∧ j < nb) H4 a cap ((asInts (placesTo source source.length k)).drop (countTo view i k))) ∧
        SlO tI (fun _ => False) H4 H.size 3 (.slice (some ⟨nb, 0, none⟩) view.length view.length) ((alignM view source).take i ++ List.replicate ((alignM view source).length - i) 0)) (fun i _ => view.length - i) ?_ ?_
      · (conv => whnf)
        have hal : (alignM view source).length = view.length := by simp [alignM]
        refine ⟨0, rfl, by omega, Agr.refl _ _, rfl, ⟨m, hq.map.agr ha3 (by omega), fun k => ?_⟩, ?_⟩
        · obtain ⟨a, cap, h1, h2⟩ := hq.view k
          rw [show countTo view 0 k = 0 by simp [countTo], List.drop_zero]
          exact ⟨a, cap, h1, (h2.frame (ha3.mono fun j hj => by omega)).mono fun j hj => by omega⟩
        · rw [fill_beg, hal]
          exact SlO.made (T := tI) (v := (0 : Int)) (c := [.int .i64 0]) (by omega) (by simpa using hb3) ⟨rfl, inI64 (x := 0) (by decide)⟩ (by unfold maxLen; omega)
      · rintro i H4 junk ⟨hi, ha4, hs4, ⟨m4, hm4, hv4⟩, hout⟩
        have hal : (alignM view source).length = view.length := by simp [alignM]
        have hA4 : Agr (Old H) H H4 := (hA2.trans (ha3.mono fun j hj => by have := old_lt hA2 hj; omega)).trans (ha4.mono fun j hj => by have := old_lt hA2 hj; unfold Old at hj; omega)
        (conv => whnf); refine VIte.mk (fun h => ?_) (fun h => ?_) <;> simp only [decide_eq_true_eq, decide_eq_false_iff_not] at h
        · obtain ⟨x, hx⟩ := get_some (l := view) (k := i) (by omega)
          have htk : takes view source i = (match (placesTo source source.length x)[countTo view i x]? with | none => -1 | some p => (p : Int)) := by unfold takes; rw [hx]
          have hget : (alignM view source)[i]? = some (takes view source i) := by
            unfold alignM
            rw [List.getElem?_map, List.getElem?_range (by omega)]; rfl
          (conv => whnf); refine VSeq.run ?_
          (conv => whnf); refine ixr sl22 (hv.frame (hA4.mono hS)) hx rfl ?_
          rintro b5 o5 cs5 hSb5 hcells5 ⟨rfl, hxl⟩
          (conv => whnf); refine ld1 ct9 hcells5.one trivial ?_
          (conv => whnf); refine mlook (a := x) mapQ keyS hm4 trivial ?_
          obtain ⟨qa, qc, e1, hqd⟩ := hv4 x
          rw [show (m4 x).getD (.slice none 0 0) = slAt m4 x from rfl, e1]
          have hother : ∀ k, k ≠ x → countTo view (i + 1) k = countTo view i k := fun k hk => by rw [count_succ hx, same_ne (Ne.symm hk)]; rfl
          have hself : countTo view (i + 1) x = countTo view i x + 1 := by rw [count_succ hx, same_self]; rfl
          have hql : ((asInts (placesTo source source.length x)).drop (countTo view i x)).length = (placesTo source source.length x).length - countTo view i x := by simp [asInts]
          have hpl : (placesTo source source.length x).length ≤ source.length := by
            unfold placesTo
            exact Nat.le_trans (List.length_filter_le _ _) (by simp)
          have key : ∀ {H8 : Heap} {m8 : ByteArray → Option Value}, MapF Value.string H8 mb m8 → (∀ k, k ≠ x → slAt m8 k = slAt m4 k) → (∃ a cap, slAt m8 x = .slice a ((asInts (placesTo source source.length x)).drop (countTo view (i + 1) x)).length cap ∧ SlD tI (fun j => mb < j ∧ j < nb) H8 a cap ((asInts (placesTo source source.length x)).drop (countTo view (i + 1) x))) →
              Agr (fun j => mb < j ∧ j < nb) H4 H8 → ∃ m, MapF Value.string H8 mb m ∧ ∀ k, ∃ a cap, slAt m k = .slice a ((asInts (placesTo source source.length k)).drop (countTo view (i + 1) k)).length cap ∧ SlD tI (fun j => mb < j ∧ j < nb) H8 a cap ((asInts (placesTo source source.length k)).drop (countTo view (i + 1) k)) := by
            intro H8 m8 h1 h2 h3 h4
            refine ⟨m8, h1, fun k => ?_⟩
            by_cases hk : k = x
            · subst hk; exact h3
            · rw [h2 k hk, hother k hk]
              obtain ⟨a, cap, h5, h6⟩ := hv4 k
              exact ⟨a, cap, h5, h6.frame h4⟩
          have hsz : i * tI.size = i := Nat.mul_one i
          have hsz1 : tI.size = 1 := rfl
          obtain ⟨-, -, hlo7, l7, hblk7, hlen7, -, hput7⟩ := hout.placeS (i := i) (by rw [fill_len (by omega)]; omega)
          have hlt7 : i * tI.size < l7.length := by omega
          (conv => whnf); refine VIte.mk (fun h0 => ?_) (fun h0 => ?_)
          · have h0' : (placesTo source source.length x).length ≤ countTo view i x := by
              have : (((asInts (placesTo source source.length x)).drop (countTo view i x)).length : Int) = 0 := by simpa using h0
              omega
            rw [List.getElem?_eq_none h0'] at htk
            replace htk : takes view source i = -1 := htk
            (conv => whnf); refine ix sl24 (by omega) (by omega) ?_
            (conv => whnf); refine st1 ct3 hblk7 (by omega) rfl ?_
            intro H8 hb8 ha8 hs8
            rw [show 0 + ((i : Nat) : Int).toNat * 1 = i * tI.size by show 0 + ((i : Nat) : Int).toNat * 1 = i * 1; omega] at hb8
            have hout8 := hput7 H8 [.int .i64 (-1)] (-1) (by rw [← splice_one hlt7] at hb8; exact hb8) (fun j hj => hj.elim) ⟨rfl, by decide, by decide⟩
            rw [← htk, fill_set hget] at hout8
            (conv => whnf); rw [w64 (x := (i : Int) + 1) (by omega) (by omega)]
            refine ⟨rfl, i + 1, by simp, ⟨by omega, ha4.trans (ha8.mono fun j hj => by omega), by omega, key (hm4.agr ha8 (by omega)) (fun k _ => rfl) ⟨qa, qc, ?_, ?_⟩ (ha8.mono fun j hj => by omega), hout8⟩, by omega⟩
            · rw [e1, List.drop_eq_nil_of_le (by simp [asInts]; omega), List.drop_eq_nil_of_le (by simp [asInts]; omega)]
            · rw [List.drop_eq_nil_of_le (by simp [asInts]; omega)]
              rw [List.drop_eq_nil_of_le (by simp [asInts]; omega)] at hqd
              exact hqd.frame (ha8.mono fun j hj => by omega)
          · have h0' : countTo view i x < (placesTo source source.length x).length := by
              have : ¬ (((asInts (placesTo source source.length x)).drop (countTo view i x)).length : Int) = 0 := by simpa using h0
              omega
            obtain ⟨p, hp⟩ := get_some h0'
            have hpl' := places_lt p (List.mem_of_getElem? hp)
            rw [hp] at htk
            replace htk : takes view source i = (p : Int) := htk
            have hq0 : ((asInts (placesTo source source.length x)).drop (countTo view i x))[0]? = some (p : Int) := by
              rw [List.getElem?_drop, Nat.add_zero]
              simp [asInts, hp]
            (conv => whnf); refine ixr sl33 hqd hq0 rfl ?_
            rintro b8 o8 cs8 hSb8 hcells8 ⟨rfl, -⟩
            (conv => whnf); refine ld1 ct3 hcells8.one trivial ?_
            (conv => whnf); refine ix sl24 (by omega) (by omega) ?_
            (conv => whnf); refine st1 ct3 hblk7 (by omega) rfl ?_
            intro H8 hb8 ha8 hs8
            rw [show 0 + ((i : Nat) : Int).toNat * 1 = i * tI.size by show 0 + ((i : Nat) : Int).toNat * 1 = i * 1; omega] at hb8
            have hout8 := hput7 H8 [.int .i64 (p : Int)] (p : Int) (by rw [← splice_one hlt7] at hb8; exact hb8) (fun j hj => hj.elim) ⟨rfl, inI64 (by omega)⟩
            rw [← htk, fill_set hget] at hout8
            have hm8 := hm4.agr ha8 (show mb ≠ nb by omega)
            have hdrop : (asInts (placesTo source source.length x)).drop (countTo view (i + 1) x) = ((asInts (placesTo source source.length x)).drop (countTo view i x)).drop 1 := by
              rw [hself, List.drop_drop]
            (conv => whnf); refine VIte.mk (fun h1 => ?_) (fun h1 => ?_)
            · have h1' : ((asInts (placesTo source source.length x)).drop (countTo view i x)).length = 1 := by
                have : (((asInts (placesTo source source.length x)).drop (countTo view i x)).length : Int) = 1 := by simpa using h1
                omega
              have hnil : ((asInts (placesTo source source.length x)).drop (countTo view i x)).drop 1 = [] := List.drop_eq_nil_of_le (by omega)
              (conv => whnf); refine mdel (a := x) mapQ keyS hm8 rfl ?_
              intro H9 hm9 ha9 hs9
              have hout9 := hout8.agr ha9 (fun b hb => by obtain ⟨o, n, c, e⟩ := hb; cases e; omega) (fun _ f => f.elim)
              (conv => whnf); rw [w64 (x := (i : Int) + 1) (by omega) (by omega)]
              refine ⟨rfl, i + 1, by simp, ⟨by omega, (ha4.trans (ha8.mono fun j hj => by omega)).trans (ha9.mono fun j hj => by omega), by omega, key hm9 (fun k hk => slAt_ne hk) ⟨none, 0, ?_, ?_⟩ ((ha8.mono fun j hj => by omega).trans (ha9.mono fun j hj => by omega)), hout9⟩, by omega⟩
              · rw [hdrop, hnil]
                simp [slAt, put_self]
              · rw [hdrop, hnil]
                exact ⟨rfl, rfl⟩
            · (conv => whnf); refine vcutL (l := 1) sl33 (hqd.frame (ha8.mono fun j hj => by omega)) rfl (by omega) fun a9 hq9 => ?_
              (conv => whnf); refine mput (a := x) mapQ keyS hm8 ?_
              intro H9 hm9 ha9 hs9
              have hout9 := hout8.agr ha9 (fun b hb => by obtain ⟨o, n, c, e⟩ := hb; cases e; omega) (fun _ f => f.elim)
              (conv => whnf); rw [w64 (x := (i : Int) + 1) (by omega) (by omega)]
              refine ⟨rfl, i + 1, by simp, ⟨by omega, (ha4.trans (ha8.mono fun j hj => by omega)).trans (ha9.mono fun j hj => by omega), by omega, key hm9 (fun k hk => slAt_ne hk) ⟨a9, qc - 1, ?_, ?_⟩ ((ha8.mono fun j hj => by omega).trans (ha9.mono fun j hj => by omega)), hout9⟩, by omega⟩
              · rw [hdrop, slAt_put]
              · rw [hdrop]
                exact hq9.frame (ha9.mono fun j hj => by omega)
        · obtain rfl : i = view.length := by omega
          (conv => whnf)
          have hfe := fill_end (l := alignM view source) (z := (0 : Int))
          rw [hal] at hfe hout
          rw [hfe] at hout
          exact ⟨hA4, by have := old_size hA2; omega, nb, rfl, by have := old_size hA2; omega, hout⟩

end Go.Proofs.Ytfdlhakfmbdamaa
