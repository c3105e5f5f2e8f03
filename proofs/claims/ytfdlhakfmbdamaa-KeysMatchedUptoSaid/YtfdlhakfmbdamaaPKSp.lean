/- The spare places: plain law. -/
import Derived.Test.YtfdlhakfmbdamaaPRefAlign
set_option linter.unusedVariables false
set_option linter.unusedSimpArgs false
namespace Go.Proofs.Ytfdlhakfmbdamaa
open Go.VC
/-- The place i of the source is spare: as many of its key stand ahead of it as the view has. -/
def spB (view source : List ByteArray) (i : Nat) : Bool := (source[i]?).any fun x => decide (countTo view view.length x ≤ countTo source i x)
def spareN (view source : List ByteArray) : List Nat := (List.range source.length).filter (spB view source)
/-- Those below i that hold k. -/
def restTo (view source : List ByteArray) (i : Nat) (k : ByteArray) : List Nat := (List.range i).filter fun j => spB view source j && (source[j]?).any fun x => same x k
theorem spB_at {view source : List ByteArray} {i : Nat} {x : ByteArray} (h : source[i]? = some x) : spB view source i = decide (countTo view view.length x ≤ countTo source i x) := by
  unfold spB
  rw [h]; rfl
theorem rest_succ {view source : List ByteArray} {i : Nat} {x : ByteArray} (h : source[i]? = some x) (k : ByteArray) : restTo view source (i + 1) k = if spB view source i && same x k then restTo view source i k ++ [i] else restTo view source i k := by
  unfold restTo
  rw [List.range_succ, List.filter_append]
  cases h1 : spB view source i <;> cases h2 : same x k <;> simp [h, h1, h2]
theorem rest_len (view source : List ByteArray) (i : Nat) (k : ByteArray) : (restTo view source i k).length ≤ i := by
  unfold restTo
  exact Nat.le_trans (List.length_filter_le _ _) (by simp)
theorem rest_mem {view source : List ByteArray} {i : Nat} {k : ByteArray} {j : Nat} : j ∈ restTo view source i k ↔ j < i ∧ spB view source j = true ∧ source[j]? = some k := by
  unfold restTo
  rw [List.mem_filter, List.mem_range, Bool.and_eq_true]
  refine and_congr Iff.rfl (and_congr Iff.rfl ?_)
  cases hs : source[j]? with
  | none => simp
  | some x =>
    rw [Option.any_some, same_eq]
    exact ⟨fun h => by rw [h], fun h => by cases h; rfl⟩
theorem rest_nodup (view source : List ByteArray) (i : Nat) (k : ByteArray) : (restTo view source i k).Nodup := by
  unfold restTo
  exact List.Pairwise.filter _ List.nodup_range
theorem spare_mem {view source : List ByteArray} {j : Nat} : j ∈ spareN view source ↔ j < source.length ∧ spB view source j = true := by
  unfold spareN
  rw [List.mem_filter, List.mem_range]
theorem flat_nodup (view source : List ByteArray) (i : Nat) : ∀ (ds : List ByteArray), ds.Nodup → (ds.flatMap (restTo view source i)).Nodup
  | [], _ => List.Pairwise.nil
  | k :: ds, h => by
    rw [List.flatMap_cons, List.nodup_append]
    obtain ⟨h1, h2⟩ := List.nodup_cons.1 h
    refine ⟨rest_nodup _ _ _ _, flat_nodup view source i ds h2, fun a ha b hb e => ?_⟩
    subst e
    obtain ⟨k', hk', hb⟩ := List.mem_flatMap.1 hb
    have e1 := (rest_mem.1 ha).2.2
    rw [(rest_mem.1 hb).2.2] at e1
    cases e1
    exact h1 hk'
theorem flat_spare {view source : List ByteArray} {ds : List ByteArray} (hn : ds.Nodup) (hall : ∀ k, restTo view source source.length k ≠ [] → k ∈ ds) : (ds.flatMap (restTo view source source.length)).Perm (spareN view source) := by
  refine (List.perm_ext_iff_of_nodup (flat_nodup _ _ _ _ hn) (by unfold spareN; exact List.Pairwise.filter _ List.nodup_range)).2 fun j => ?_
  rw [List.mem_flatMap, spare_mem]
  constructor
  · rintro ⟨k, -, hj⟩
    obtain ⟨h1, h2, -⟩ := rest_mem.1 hj
    exact ⟨h1, h2⟩
  · rintro ⟨h1, h2⟩
    obtain ⟨x, hx⟩ := get_some h1
    have hm : j ∈ restTo view source source.length x := rest_mem.2 ⟨h1, h2, hx⟩
    exact ⟨x, hall x (fun e => by rw [e] at hm; cases hm), hm⟩
theorem sort_spare {view source : List ByteArray} {l : List Nat} (h : l.Perm (spareN view source)) : ((asInts l).mergeSort fun x y => decide (x ≤ y)) = asInts (spareN view source) := by
  refine List.Perm.eq_of_pairwise (le := fun x y : Int => x ≤ y) (fun a b _ _ h1 h2 => Int.le_antisymm h1 h2) ?_ ?_ ((List.mergeSort_perm _ _).trans (h.map _))
  · refine (List.pairwise_mergeSort (fun a b c h1 h2 => ?_) (fun a b => ?_) _).imp fun h => of_decide_eq_true h
    · exact decide_eq_true (Int.le_trans (of_decide_eq_true h1) (of_decide_eq_true h2))
    · rw [Bool.or_eq_true, decide_eq_true_eq, decide_eq_true_eq]
      exact Int.le_total a b
  · unfold asInts
    rw [List.pairwise_map]
    unfold spareN
    exact (List.Pairwise.filter _ List.pairwise_lt_range).imp fun h => by omega
theorem spare_len (view source : List ByteArray) : (spareN view source).length ≤ source.length := by
  unfold spareN
  exact Nat.le_trans (List.length_filter_le _ _) (by simp)
/-! ### the document's way -/
theorem count_places (source : List ByteArray) (k : ByteArray) : ∀ i, i ≤ source.length → (placesTo source i k).length = countTo source i k
  | 0, _ => by simp [placesTo, countTo]
  | i + 1, h => by
    obtain ⟨x, hx⟩ := get_some (l := source) (k := i) (by omega)
    rw [places_succ hx, count_succ hx]
    have := count_places source k i (by omega)
    cases same x k
    · simpa using this
    · simp [this]
theorem places_idx {source : List ByteArray} {k : Nat} {s : ByteArray} (h : source[k]? = some s) : ∀ n, k < n → n ≤ source.length → (placesTo source n s)[countTo source k s]? = some k
  | 0, h1, _ => by omega
  | n + 1, h1, h2 => by
    obtain ⟨x, hx⟩ := get_some (l := source) (k := n) (by omega)
    rw [places_succ hx]
    rcases Nat.lt_or_eq_of_le (Nat.le_of_lt_succ h1) with h3 | rfl
    · have ih := places_idx h n h3 (by omega)
      cases same x s
      · simpa using ih
      · rw [if_pos rfl, List.getElem?_append_left (List.getElem?_eq_some_iff.1 ih).1]; exact ih
    · rw [hx] at h; cases h
      rw [same_self, if_pos rfl, ← count_places source _ k (by omega), List.getElem?_append_right (Nat.le_refl _), Nat.sub_self]; rfl
theorem spB_taken {view source : List ByteArray} {k : Nat} (hk : k < source.length) : spB view source k = !takenM view source view.length k := by
  obtain ⟨s, hs⟩ := get_some hk
  rw [spB_at hs, taken_at hs]
  have hidx := places_idx hs source.length hk (Nat.le_refl _)
  cases ht : ((placesTo source source.length s).take (countTo view view.length s)).contains k with
  | true =>
    obtain ⟨j, hj, hjk⟩ := taken_iff.1 ht
    have e1 := places_inj hidx hjk (Nat.le_refl _)
    exact decide_eq_false (by omega)
  | false =>
    refine decide_eq_true ?_
    apply Classical.byContradiction
    intro hn
    rw [taken_iff.2 ⟨_, by omega, hidx⟩] at ht
    cases ht
theorem taken_takes {view source : List ByteArray} {k : Nat} : ∀ i, i ≤ view.length → (takenM view source i k = true ↔ ∃ j, j < i ∧ takes view source j = (k : Int))
  | 0, _ => by
    constructor
    · intro h
      unfold takenM at h
      cases hs : source[k]? with
      | none => rw [hs] at h; cases h
      | some s => rw [hs] at h; simp [countTo] at h
    · rintro ⟨j, hj, -⟩; omega
  | i + 1, h => by
    obtain ⟨x, hx⟩ := get_some (l := view) (k := i) (by omega)
    rw [taken_next hx, Bool.or_eq_true, taken_takes i (by omega), decide_eq_true_eq]
    constructor
    · rintro (⟨j, hj, e⟩ | h1)
      · exact ⟨j, by omega, e⟩
      · exact ⟨i, by omega, takes_free hx h1⟩
    · rintro ⟨j, hj, e⟩
      rcases Nat.lt_or_eq_of_le (Nat.le_of_lt_succ hj) with h1 | rfl
      · exact .inl ⟨j, h1, e⟩
      · refine .inr ?_
        rw [takes_eq hx] at e
        cases hp : (placesTo source source.length x)[countTo view j x]? with
        | none =>
          rw [hp] at e
          have e' : (-1 : Int) = (k : Int) := e
          omega
        | some p =>
          rw [hp] at e
          have e' : (p : Int) = (k : Int) := e
          rw [show p = k by omega]
/-- Place k stands in the alignment's first i. -/
def hitB (view source : List ByteArray) (i k : Nat) : Bool := ((alignM view source).take i).all fun a => !(a == (k : Int))
theorem hit_spare {view source : List ByteArray} {k : Nat} (hk : k < source.length) : hitB view source view.length k = spB view source k := by
  have hal : (alignM view source).length = view.length := by simp [alignM]
  rw [spB_taken hk]
  unfold hitB
  rw [← hal, List.take_length, Bool.eq_iff_iff, List.all_eq_true, Bool.not_eq_true']
  constructor
  · intro h
    apply Bool.eq_false_iff.2
    intro ht
    obtain ⟨j, hj, e⟩ := (taken_takes _ (Nat.le_of_eq hal)).1 ht
    have hm : takes view source j ∈ alignM view source := by
      unfold alignM
      exact List.mem_map.2 ⟨j, List.mem_range.2 (by omega), rfl⟩
    have := h _ hm
    rw [e] at this
    simp at this
  · intro h a ha
    unfold alignM at ha
    obtain ⟨j, hj, rfl⟩ := List.mem_map.1 ha
    rw [Bool.not_eq_true']
    apply beq_eq_false_iff_ne.2
    intro e
    rw [(taken_takes _ (Nat.le_of_eq hal)).2 ⟨j, by rw [hal]; exact List.mem_range.1 hj, e⟩] at h
    cases h
theorem hit_succ {view source : List ByteArray} {i k : Nat} {x : Int} (h : (alignM view source)[i]? = some x) : hitB view source (i + 1) k = (hitB view source i k && !(x == (k : Int))) := by
  unfold hitB
  rw [take_succ_snoc h, List.all_append]
  simp
/-- The spare places below k. -/
def spareTo (view source : List ByteArray) (k : Nat) : List Nat := (List.range k).filter (spB view source)
theorem spareTo_succ (view source : List ByteArray) (k : Nat) : spareTo view source (k + 1) = if spB view source k then spareTo view source k ++ [k] else spareTo view source k := by
  unfold spareTo
  rw [List.range_succ, List.filter_append]
  cases h : spB view source k <;> simp [h]
end Go.Proofs.Ytfdlhakfmbdamaa
