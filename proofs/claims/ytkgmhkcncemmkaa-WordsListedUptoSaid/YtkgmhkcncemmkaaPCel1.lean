/- The coarsest parting by the automaton alone: the plain run. -/
import Derived.Test.YtkgmhkcncemmkaaPSameW
set_option linter.unusedVariables false
set_option linter.unusedSimpArgs false
set_option maxRecDepth 100000
namespace Go.Proofs.Ytkgmhkcncemmkaa
open Go.VC

/-- The least bytes of the parts so far, the place of each byte so far. -/
def gRun (sim : Nat → Nat → Bool) : Nat → List Nat × List Nat
  | 0 => ([], [])
  | b + 1 => match (gRun sim b).1.findIdx? fun g => sim b g with
    | some k => ((gRun sim b).1, (gRun sim b).2 ++ [k])
    | none => ((gRun sim b).1 ++ [b], (gRun sim b).2 ++ [(gRun sim b).1.length])
structure GrOk (sim : Nat → Nat → Bool) (b : Nat) (f ps : List Nat) : Prop where
  plen : ps.length = b
  flen : f.length ≤ b
  lt : ∀ p ∈ ps, p < f.length
  first : ∀ (k g : Nat), f[k]? = some g → g < b ∧ ps[g]? = some k
  sig : ∀ (i p g : Nat), ps[i]? = some p → f[p]? = some g → sim i g = true ∧ g ≤ i
theorem gRun_ok {sim : Nat → Nat → Bool} (hr : ∀ a, sim a a = true) : ∀ b, GrOk sim b (gRun sim b).1 (gRun sim b).2
  | 0 => ⟨rfl, Nat.le_refl _, (fun p h => by cases h), (fun k g h => by cases h), (fun i p g h => by cases h)⟩
  | b + 1 => by
    have ih := gRun_ok hr b
    unfold gRun
    split
    · rename_i k hk
      rw [List.findIdx?_eq_some_iff_getElem] at hk
      obtain ⟨hlt, hsig, _⟩ := hk
      refine ⟨by simp [ih.plen], by have := ih.flen; simp only; omega, fun p hp => ?_, fun k' g hg => ?_, fun i p g hi hg => ?_⟩
      · rcases List.mem_append.1 hp with h | h
        · exact ih.lt p h
        · rw [List.mem_singleton] at h; subst h; exact hlt
      · obtain ⟨h1, h2⟩ := ih.first k' g hg
        exact ⟨by omega, by simp only; rw [List.getElem?_append_left (by rw [ih.plen]; exact h1)]; exact h2⟩
      · simp only at hi hg
        by_cases hib : i < b
        · rw [List.getElem?_append_left (by rw [ih.plen]; exact hib)] at hi
          exact ih.sig i p g hi hg
        · rw [List.getElem?_append_right (by rw [ih.plen]; omega), ih.plen] at hi
          have hi0 : i - b = 0 := by
            have := (List.getElem?_eq_some_iff.1 hi).1
            simp only [List.length_singleton] at this
            omega
          rw [hi0, List.getElem?_cons_zero] at hi
          cases hi
          rw [List.getElem?_eq_getElem hlt] at hg
          cases hg
          have hib' : i = b := by omega
          subst hib'
          exact ⟨hsig, by have := (ih.first _ _ (List.getElem?_eq_getElem hlt)).1; omega⟩
    · rename_i hk
      refine ⟨by simp [ih.plen], by have := ih.flen; simp; omega, fun p hp => ?_, fun k' g hg => ?_, fun i p g hi hg => ?_⟩
      · simp only [List.length_append, List.length_singleton]
        rcases List.mem_append.1 hp with h | h
        · have := ih.lt p h; omega
        · rw [List.mem_singleton] at h; subst h; omega
      · simp only at hg ⊢
        by_cases hkl : k' < (gRun sim b).1.length
        · rw [List.getElem?_append_left hkl] at hg
          obtain ⟨h1, h2⟩ := ih.first k' g hg
          exact ⟨by omega, by rw [List.getElem?_append_left (by rw [ih.plen]; exact h1)]; exact h2⟩
        · rw [List.getElem?_append_right (by omega)] at hg
          have h0 := (List.getElem?_eq_some_iff.1 hg).1
          simp only [List.length_singleton] at h0
          rw [show k' - (gRun sim b).1.length = 0 by omega, List.getElem?_cons_zero] at hg
          cases hg
          exact ⟨by omega, by rw [List.getElem?_append_right (by rw [ih.plen]; omega), ih.plen, Nat.sub_self, List.getElem?_cons_zero]; congr 1; omega⟩
      · simp only at hi hg
        by_cases hib : i < b
        · rw [List.getElem?_append_left (by rw [ih.plen]; exact hib)] at hi
          have hp := ih.lt p (List.mem_of_getElem? hi)
          rw [List.getElem?_append_left hp] at hg
          exact ih.sig i p g hi hg
        · rw [List.getElem?_append_right (by rw [ih.plen]; omega), ih.plen] at hi
          have hi0 : i - b = 0 := by
            have := (List.getElem?_eq_some_iff.1 hi).1
            simp only [List.length_singleton] at this
            omega
          rw [hi0, List.getElem?_cons_zero] at hi
          cases hi
          rw [List.getElem?_append_right (Nat.le_refl _), Nat.sub_self, List.getElem?_cons_zero] at hg
          cases hg
          have hib' : i = b := by omega
          subst hib'
          exact ⟨hr _, Nat.le_refl _⟩


theorem gRun_some {sim : Nat → Nat → Bool} {b k : Nat} (h : (gRun sim b).1.findIdx? (fun g => sim b g) = some k) : gRun sim (b + 1) = ((gRun sim b).1, (gRun sim b).2 ++ [k]) := by
  rw [gRun, h]
theorem gRun_none {sim : Nat → Nat → Bool} {b : Nat} (h : (gRun sim b).1.findIdx? (fun g => sim b g) = none) : gRun sim (b + 1) = ((gRun sim b).1 ++ [b], (gRun sim b).2 ++ [(gRun sim b).1.length]) := by
  rw [gRun, h]

/-! ### the same run as merge's -/
/-- What merge's sets hold. -/
theorem mRun_sets {next : List (List Int)} {cells : List (BitVec 256)} (hc : ∀ b, b < 256 → cellOf cells b < cells.length) : ∀ b, b ≤ 256 → ∀ (k : Nat) (x : BitVec 256), (mRun next cells (fun b => spanS b b) b).sets[k]? = some x → ∀ i, i < 256 → x.getLsbD i = atSet (mRun next cells (fun b => spanS b b) b).cell k i
  | 0, _ => fun k x h => by simp [mRun] at h
  | b + 1, hb => fun k x h i hi => by
    have ih := mRun_sets (next := next) hc b (by omega)
    have ho := mRun_ok (next := next) (sp := fun b => spanS b b) hc b (by omega)
    generalize hm : mRun next cells (fun b => spanS b b) b = st at *
    rw [mRun, hm] at h ⊢
    unfold mStep at h ⊢
    simp only at h ⊢
    generalize hr : mNew next st.cols st.sets (cellOf cells b) = r at *
    have hnew := mNew_ok (next := next) (f := cellOf cells b) ho.len ho.le ho.cols (hc b (by omega))
    rw [hr] at hnew
    have hp : r.2.2 < r.2.1.length := by omega
    -- the sets before the byte is put in
    have hold : ∀ (k : Nat) (y : BitVec 256), r.2.1[k]? = some y → y.getLsbD i = atSet st.cell k i := by
      intro k y hy
      unfold mNew at hr
      cases hf : mFind next st.cols (cellOf cells b) with
      | some j =>
        rw [hf] at hr
        subst hr
        exact ih k y hy i hi
      | none =>
        rw [hf] at hr
        subst hr
        simp only at hy
        by_cases hk : k < st.sets.length
        · rw [List.getElem?_append_left hk] at hy
          exact ih k y hy i hi
        · rw [List.getElem?_append_right (by omega)] at hy
          have h0 := (List.getElem?_eq_some_iff.1 hy).1
          simp only [List.length_singleton] at h0
          rw [show k - st.sets.length = 0 by omega, List.getElem?_cons_zero] at hy
          cases hy
          have : atSet st.cell k i = false := by
            unfold atSet
            cases hc' : st.cell[i]? with
            | none => rfl
            | some p =>
              have := ho.places p (List.mem_of_getElem? hc')
              have := ho.len
              simp; omega
          rw [this]; simp
    have hat : ∀ k, atSet (st.cell ++ [r.2.2]) k i = ((decide (i = b) && decide (k = r.2.2)) || atSet st.cell k i) := by
      intro k
      unfold atSet
      have hcl := ho.cell
      rcases Nat.lt_trichotomy i b with h | h | h
      · rw [List.getElem?_append_left (by omega), decide_eq_false (by omega)]; simp
      · subst h
        rw [List.getElem?_append_right (by omega), hcl, Nat.sub_self, List.getElem?_cons_zero, List.getElem?_eq_none (by omega)]
        by_cases hk : k = r.2.2 <;> simp [hk]
        exact fun h => hk h.symm
      · rw [List.getElem?_eq_none (by simp; omega), List.getElem?_eq_none (by omega), decide_eq_false (by omega)]; simp
    rw [hat]
    by_cases hk : k = r.2.2
    · subst hk
      rw [List.getElem?_set_self hp] at h
      cases h
      rw [BitVec.getLsbD_or, List.getD_eq_getElem?_getD, List.getElem?_eq_getElem hp, Option.getD_some, hold _ _ (List.getElem?_eq_getElem hp), spanS_bit b b i hi]
      have : (decide (b ≤ i) && decide (i ≤ b)) = decide (i = b) := by
        by_cases h : i = b
        · subst h; simp
        · rw [decide_eq_false h]
          rcases Nat.lt_or_ge i b with h1 | h1
          · rw [decide_eq_false (by omega)]; rfl
          · rw [decide_eq_false (show ¬ i ≤ b by omega)]; simp
      rw [this]
      simp [Bool.or_comm]
    · rw [List.getElem?_set_ne (Ne.symm hk)] at h
      rw [decide_eq_false hk, hold k x h]; simp
def simT (next : List (List Int)) (cells : List (BitVec 256)) (b g : Nat) : Bool := next.all fun row => row.getD (cellOf cells b) 0 == row.getD (cellOf cells g) 0
theorem alike_sim {cells : List (BitVec 256)} {next : List (List Int)} {fl : Nat} (hs : soundB cells next fl = true) {b g : Nat} (hb : b < 256) (hg : g < 256) : alikeB next (cellOf cells g) (cellOf cells b) = simT next cells b g := by
  obtain ⟨_, _, _, hrows⟩ := soundB_rows hs
  have h1 := (soundB_cells hs hb).1
  have h2 := (soundB_cells hs hg).1
  have key : ∀ row ∈ next, (row[cellOf cells g]? == row[cellOf cells b]?) = (row.getD (cellOf cells b) 0 == row.getD (cellOf cells g) 0) := by
    intro row hr
    have hl := (hrows row hr).1
    rw [List.getD_eq_getElem?_getD, List.getD_eq_getElem?_getD, List.getElem?_eq_getElem (by omega), List.getElem?_eq_getElem (by omega)]
    simp only [Option.getD_some]
    rw [Bool.eq_iff_iff]
    simp only [beq_iff_eq, Option.some.injEq]
    exact eq_comm
  unfold alikeB simT
  have hall : (next.all fun row => row[cellOf cells g]? == row[cellOf cells b]?) = next.all fun row => row.getD (cellOf cells b) 0 == row.getD (cellOf cells g) 0 := by
    rw [Bool.eq_iff_iff, List.all_eq_true, List.all_eq_true]
    constructor
    · intro h row hr; rw [← key row hr]; exact h row hr
    · intro h row hr; rw [key row hr]; exact h row hr
  rw [hall]
  by_cases he : cellOf cells g = cellOf cells b
  · rw [he]; simp
  · have : (cellOf cells g == cellOf cells b) = false := by simpa using he
    rw [this]; rfl
theorem simT_refl (next : List (List Int)) (cells : List (BitVec 256)) (a : Nat) : simT next cells a a = true := by simp [simT]
theorem findIdx_map {α β : Type} (f : α → β) (p : β → Bool) : ∀ l : List α, (l.map f).findIdx? p = l.findIdx? fun a => p (f a)
  | [] => rfl
  | a :: l => by
    rw [List.map_cons, List.findIdx?_cons, List.findIdx?_cons, findIdx_map f p l]
theorem findIdx_congr {α : Type} {p q : α → Bool} : ∀ {l : List α}, (∀ a ∈ l, p a = q a) → l.findIdx? p = l.findIdx? q
  | [], _ => rfl
  | a :: l, h => by
    rw [List.findIdx?_cons, List.findIdx?_cons, h a List.mem_cons_self, findIdx_congr fun x hx => h x (List.mem_cons_of_mem _ hx)]
theorem mRun_g {cells : List (BitVec 256)} {next : List (List Int)} {fl : Nat} (hs : soundB cells next fl = true) {sp : Nat → BitVec 256} : ∀ b, b ≤ 256 → (mRun next cells sp b).cols = (gRun (simT next cells) b).1.map (cellOf cells) ∧ (mRun next cells sp b).cell = (gRun (simT next cells) b).2
  | 0, _ => by simp [mRun, gRun]
  | b + 1, hb => by
    obtain ⟨h1, h2⟩ := mRun_g hs (sp := sp) b (by omega)
    have hok := gRun_ok (simT_refl next cells) b
    have hf : mFind next (mRun next cells sp b).cols (cellOf cells b) = (gRun (simT next cells) b).1.findIdx? fun g => simT next cells b g := by
      unfold mFind
      rw [h1, findIdx_map]
      exact findIdx_congr fun g hg => by
        obtain ⟨k, hk⟩ := List.getElem?_of_mem hg
        exact alike_sim hs (by omega) (by have := (hok.first k g hk).1; omega)
    unfold mRun mStep mNew
    rw [hf]
    cases hfi : (gRun (simT next cells) b).1.findIdx? fun g => simT next cells b g with
    | some k =>
      rw [gRun_some hfi]
      simp only
      exact ⟨h1, by rw [h2]⟩
    | none =>
      rw [gRun_none hfi]
      simp only
      exact ⟨by rw [h1, List.map_append]; rfl, by rw [h2, h1, List.length_map]⟩
attribute [local irreducible] mRun gRun
/-- What dfa.Cells tells of a table's automaton, by bytes. -/
theorem sets_of_g {cells : List (BitVec 256)} {next : List (List Int)} {final : List Bool} (hs : soundB cells next final.length = true) : (madeM cells next final).sets.length = (gRun (simT next cells) 256).1.length ∧
    ∀ (k : Nat) (x : BitVec 256), (madeM cells next final).sets[k]? = some x → ∀ i, i < 256 → x.getLsbD i = atSet (gRun (simT next cells) 256).2 k i := by
  have hc := fun b hb => (soundB_cells hs (b := b) hb).1
  obtain ⟨h1, h2⟩ := mRun_g hs (sp := fun b => spanS b b) 256 (Nat.le_refl _)
  have ho := mRun_ok (next := next) (sp := fun b => spanS b b) hc 256 (Nat.le_refl _)
  refine ⟨?_, fun k x hx i hi => ?_⟩
  · simp only [madeM]
    rw [← ho.len, h1, List.length_map]
  · rw [← h2]
    exact mRun_sets (next := next) hc 256 (Nat.le_refl _) k x hx i hi

end Go.Proofs.Ytkgmhkcncemmkaa
