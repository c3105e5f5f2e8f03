/- What the alignment takes: plain law for KeysMatched and KeysSelf; appending a list to an own slice, as a piece. -/
import Derived.Test.YtfdlhakfmbdamaaPSpares
set_option linter.unusedVariables false
set_option linter.unusedSimpArgs false
namespace Go.VC
section
variable {α : Type} {T : Ty α} {e : TypeId} {a : Option Addr} {n cap : Nat} {xs : List α} {B : Nat → Prop} {H0 H : Heap} {ps : List Pc}
theorem appD {P : Program} {t ty cap2 by_ : Nat} {z : Value} {ys : List α} {a2 : Option Addr} {S : Nat → Prop} {K : Value → Heap → Prop} (st : StB B H0 H ps) (i : Nat) (ht : SlT P t e T.size by_ z) (hone : T.Ones) (hfree : T.Free) (hp : ps[i]? = some (pS T e a n cap xs))
    (hS : ∀ k, S k → B k) (hy : SlD T S H a2 cap2 ys) (h63 : xs.length + ys.length ≤ 4194304) (hby : by_ ≤ 1024)
    (k : ∀ a' cap' H', StB B H0 H' (ps.set i (pS T e a' (xs.length + ys.length) cap' (xs ++ ys))) → K (.slice a' (xs.length + ys.length) cap') H') :
    VEff P (Builtin.append_ #[t, t] ty [.slice a n cap, .slice a2 ys.length cap2].toArray) H K := by
  have h0 := (st.at_ i hp).1
  refine vappendD (T := T) (S := S) (lo := 0) ht hone (h0.free hfree) (Nat.zero_le _) (fun k hk => ⟨st.up (hS k hk), fun hb => (st.in_ i hp (.inl hb)).1 (hS k hk)⟩) hy (by unfold maxLen; omega) (by have := Nat.mul_le_mul h63 hby; omega) ?_
  intro v' H' hown hagr hsz hfr
  replace hown : SlO T none_ H' 0 e v' (xs ++ ys) := hown.free hfree
  obtain ⟨a', cap', rfl⟩ := hown.hull
  rw [List.length_append] at hown hfr ⊢
  refine k a' cap' H' (st.upd i hp (hagr.mono fun k hk => ⟨hk.1, fun hb => hk.2 (.inl hb)⟩) _ ⟨hown, fun k hk => hk.elim⟩ (fun k hk => ?_) (fun k hk => ?_) hsz)
  · rcases hk with hk | hk
    · rcases hfr k hk with h | h
      · exact .inl (.inl h)
      · exact .inr h
    · exact hk.elim
  · rcases hk with hk | hk
    · exact (hown.lt hk).2
    · exact hk.elim
end
end Go.VC
namespace Go.Proofs.Ytfdlhakfmbdamaa
open Go.VC
section
variable {view source : List ByteArray} {i k : Nat} {x : ByteArray}
theorem takes_cases (hx : view[i]? = some x) : (takes view source i = -1 ∧ (placesTo source source.length x)[countTo view i x]? = none) ∨ ∃ p : Nat, takes view source i = (p : Int) ∧ source[p]? = some x ∧ (placesTo source source.length x)[countTo view i x]? = some p := by
  cases hp : (placesTo source source.length x)[countTo view i x]? with
  | none => exact .inl ⟨takes_none hx hp, rfl⟩
  | some p => exact .inr ⟨p, takes_free hx hp, places_at.1 (List.mem_of_getElem? hp), rfl⟩
theorem fresh {p : Nat} (hx : view[i]? = some x) (hp : takes view source i = (p : Int)) : takenM view source i p = false := by
  rcases takes_cases (source := source) hx with ⟨h, -⟩ | ⟨q, h, hs, hq⟩
  · rw [h] at hp; omega
  · obtain rfl : q = p := by rw [h] at hp; omega
    rw [taken_at hs]
    apply Bool.eq_false_iff.2
    intro hc
    obtain ⟨j, hj, hjp⟩ := taken_iff.1 hc
    have := places_inj hq hjp (Nat.le_refl _)
    omega
theorem takes_inj {j p : Nat} (hi : i < view.length) (hj : j < view.length) (h1 : takes view source i = (p : Int)) (h2 : takes view source j = (p : Int)) : i = j := by
  have key : ∀ a b, a < b → b < view.length → takes view source a = (p : Int) → takes view source b = (p : Int) → False := fun a b hab hb ha hbp => by
    obtain ⟨y, hy⟩ := get_some hb
    have := (taken_takes b (by omega)).2 ⟨a, hab, ha⟩
    rw [fresh hy hbp] at this
    cases this
  rcases Nat.lt_trichotomy i j with h | h | h
  · exact (key i j h hj h1 h2).elim
  · exact h
  · exact (key j i h hi h2 h1).elim
theorem early (hx : view[i]? = some x) (hk : source[k]? = some x) (h : takes view source i < 0 ∨ (k : Int) < takes view source i) : takenM view source i k = true := by
  have hkl := (List.getElem?_eq_some_iff.1 hk).1
  have hidx := places_idx hk source.length hkl (Nat.le_refl _)
  rw [taken_at hk]
  refine taken_iff.2 ⟨_, ?_, hidx⟩
  rcases takes_cases (source := source) hx with ⟨-, hn⟩ | ⟨p, hp, -, hq⟩
  · have h1 := (List.getElem?_eq_some_iff.1 hidx).1
    rw [List.getElem?_eq_none_iff] at hn
    omega
  · have hkp : k < p := by omega
    have h1 := places_inj hidx hq (by omega)
    rcases Nat.lt_or_eq_of_le h1 with h2 | h2
    · exact h2
    · rw [h2, hq] at hidx
      cases hidx
      omega
/-- What stands in `by` when the alignment's first i have been looked at. -/
structure ByOk (view source : List ByteArray) (i : Nat) (bs : List Int) : Prop where
  len : bs.length = source.length
  at_ : ∀ k, k < source.length → (bs[k]? = some 0 ∧ takenM view source i k = false) ∨ ∃ j : Nat, j < i ∧ bs[k]? = some ((j : Int) + 1) ∧ takes view source j = (k : Int)
theorem ByOk.start : ByOk view source 0 (List.replicate source.length 0) := by
  refine ⟨by simp, fun k hk => .inl ⟨by rw [List.getElem?_replicate, if_pos hk], ?_⟩⟩
  obtain ⟨s, hs⟩ := get_some hk
  rw [taken_at hs]
  simp [countTo]
theorem ByOk.miss {bs : List Int} (h : ByOk view source i bs) (hx : view[i]? = some x) (hm : takes view source i < 0) : ByOk view source (i + 1) bs := by
  refine ⟨h.len, fun k hk => ?_⟩
  rcases h.at_ k hk with ⟨h1, h2⟩ | ⟨j, h1, h2, h3⟩
  · refine .inl ⟨h1, ?_⟩
    rcases takes_cases (source := source) hx with ⟨-, hn⟩ | ⟨p, hp, -, -⟩
    · rw [taken_next hx, h2, hn]; simp
    · omega
  · exact .inr ⟨j, by omega, h2, h3⟩
theorem ByOk.hit {bs : List Int} {p : Nat} (h : ByOk view source i bs) (hx : view[i]? = some x) (hp : takes view source i = (p : Int)) : p < source.length ∧ source[p]? = some x ∧ bs[p]? = some 0 ∧ ByOk view source (i + 1) (bs.set p ((i : Int) + 1)) := by
  have hil := (List.getElem?_eq_some_iff.1 hx).1
  rcases takes_cases (source := source) hx with ⟨h1, -⟩ | ⟨q, h1, hs, hq⟩
  · omega
  · obtain rfl : q = p := by omega
    have hpl := (List.getElem?_eq_some_iff.1 hs).1
    refine ⟨hpl, hs, ?_, by rw [List.length_set]; exact h.len, fun k hk => ?_⟩
    · rcases h.at_ q hpl with ⟨h2, -⟩ | ⟨j, h2, -, h4⟩
      · exact h2
      · have := takes_inj hil (by omega) hp h4
        omega
    · by_cases hkq : q = k
      · subst hkq
        exact .inr ⟨i, by omega, by rw [List.getElem?_set_self (by rw [h.len]; exact hk)], hp⟩
      · rw [List.getElem?_set_ne hkq]
        rcases h.at_ k hk with ⟨h2, h3⟩ | ⟨j, h2, h3, h4⟩
        · refine .inl ⟨h2, ?_⟩
          rw [taken_next hx, h3, hq]
          simpa using hkq
        · exact .inr ⟨j, by omega, h3, h4⟩
theorem ByOk.fine {bs : List Int} (h : ByOk view source view.length bs) (hi : i < view.length) (hk : k < source.length) (ht : takenM view source i k = true) : ∃ j : Nat, j < i ∧ bs[k]? = some ((j : Int) + 1) := by
  obtain ⟨j, hj, hjk⟩ := (taken_takes i (by omega)).1 ht
  rcases h.at_ k hk with ⟨-, h2⟩ | ⟨j', h1, h2, h3⟩
  · rw [(taken_takes _ (Nat.le_refl _)).2 ⟨j, by omega, hjk⟩] at h2; cases h2
  · obtain rfl := takes_inj (by omega) h1 hjk h3
    exact ⟨j, hj, h2⟩
theorem ByOk.spare {bs : List Int} (h : ByOk view source view.length bs) (hk : k < source.length) : ∃ b : Int, bs[k]? = some b ∧ (b == 0) = spB view source k := by
  rw [spB_taken hk]
  rcases h.at_ k hk with ⟨h1, h2⟩ | ⟨j, h1, h2, h3⟩
  · exact ⟨0, h1, by rw [h2]; rfl⟩
  · refine ⟨_, h2, ?_⟩
    rw [(taken_takes _ (Nat.le_refl _)).2 ⟨j, h1, h3⟩]
    exact beq_eq_false_iff_ne.2 (by omega)
theorem spareTo_at (hs : spB view source k = true) : ∀ m, k < m → (spareTo view source m)[(spareTo view source k).length]? = some k
  | 0, h => by omega
  | m + 1, h => by
    rw [spareTo_succ]
    rcases Nat.lt_or_eq_of_le (Nat.le_of_lt_succ h) with h1 | rfl
    · have ih := spareTo_at hs m h1
      split
      · rw [List.getElem?_append_left (List.getElem?_eq_some_iff.1 ih).1]; exact ih
      · exact ih
    · rw [hs, if_pos rfl, List.getElem?_append_right (Nat.le_refl _), Nat.sub_self]; rfl
/-! ### a list against itself -/
theorem count_app (l : List ByteArray) (m : ByteArray) {i : Nat} (hi : i ≤ l.length) (k : ByteArray) : countTo (l ++ [m]) i k = countTo l i k := by
  unfold countTo
  rw [List.take_append_of_le_length hi]
theorem takes_self {l : List ByteArray} {i : Nat} (hi : i < l.length) : takes l l i = (i : Int) := by
  obtain ⟨x, hx⟩ := get_some hi
  exact takes_free hx (places_idx hx _ hi (Nat.le_refl _))
theorem takes_more {l : List ByteArray} (m : ByteArray) {i : Nat} (hi : i < l.length) : takes (l ++ [m]) l i = (i : Int) := by
  obtain ⟨x, hx⟩ := get_some hi
  refine takes_free (x := x) (by rw [List.getElem?_append_left hi]; exact hx) ?_
  rw [count_app l m (by omega)]
  exact places_idx hx _ hi (Nat.le_refl _)
theorem takes_last (l : List ByteArray) (m : ByteArray) : takes (l ++ [m]) l l.length = -1 := by
  refine takes_none (x := m) (by simp) ?_
  rw [count_app l m (Nat.le_refl _), ← count_places l m l.length (Nat.le_refl _)]
  exact List.getElem?_eq_none (Nat.le_refl _)
theorem spare_self (l : List ByteArray) : spareN l l = [] := by
  unfold spareN
  rw [List.filter_eq_nil_iff]
  intro i hi
  have hil := List.mem_range.1 hi
  obtain ⟨x, hx⟩ := get_some hil
  have h1 := (List.getElem?_eq_some_iff.1 (places_idx hx _ hil (Nat.le_refl _))).1
  rw [count_places l x l.length (Nat.le_refl _)] at h1
  rw [spB_at hx]
  simp only [decide_eq_true_eq]
  omega
end
end Go.Proofs.Ytfdlhakfmbdamaa
