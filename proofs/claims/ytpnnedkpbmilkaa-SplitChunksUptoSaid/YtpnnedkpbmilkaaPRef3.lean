/- The document's Atoms. -/
import Derived.Test.YtpnnedkpbmilkaaPRef2
set_option linter.unusedVariables false
set_option linter.unusedSimpArgs false
set_option maxRecDepth 100000
namespace Go.Proofs.Ytpnnedkpbmilkaa
open Go.VC
attribute [local irreducible] mRun

/-! ### sets as functions -/
def funL (f : Nat → Bool) : List Value := (List.range 256).map fun b => .bool (f b)
theorem funL_len (f : Nat → Bool) : (funL f).length = 256 := by simp [funL]
theorem funL_get (f : Nat → Bool) {b : Nat} (h : b < 256) : (funL f)[b]? = some (.bool (f b)) := by
  unfold funL
  rw [List.getElem?_map, List.getElem?_range h]; rfl
theorem funL_ext {f g : Nat → Bool} (h : ∀ b, b < 256 → f b = g b) : funL f = funL g := by
  unfold funL
  exact List.map_congr_left fun b hb => by rw [h b (List.mem_range.1 hb)]
theorem funL_set (f : Nat → Bool) {k : Nat} (h : k < 256) : (funL f).set k (.bool true) = funL fun b => decide (b = k) || f b := by
  apply List.ext_getElem?
  intro i
  by_cases hi : i < 256
  · rw [funL_get _ hi, List.getElem?_set, funL_len]
    by_cases hik : k = i
    · subst hik; simp [h]
    · rw [if_neg hik, funL_get _ hi, decide_eq_false (Ne.symm hik)]; rfl
  · rw [List.getElem?_eq_none (by simp [funL_len]; omega), List.getElem?_eq_none (by simp [funL_len]; omega)]
theorem funL_ones (f : Nat → Bool) : (funL f).all (·.oneCell') = true := by simp [funL, Value.oneCell']
theorem funL_zero : funL (fun _ => false) = List.replicate 256 (.bool false) := by
  unfold funL
  rw [List.map_const', List.length_range]
def tF : Ty (Nat → Bool) where
  size := 256
  rep _ _ cs f := cs = funL f
  len h := by rw [h]; exact funL_len _
  frame h _ := h
  mono h _ := h
theorem tF_free : tF.Free := fun S S' H H' cs x h => h
theorem tF_ones : tF.Ones := by
  rintro S H cs x rfl u hu
  exact List.all_eq_true.1 (funL_ones x) u hu
theorem slF_ : SlT Try.prog 48 98 tF.size 256 (Try.t98.zero.getD undef) := sl48

/-! ### the plain run -/
def sigEq (cells : List (BitVec 256)) (a b : Nat) : Bool := cells.all fun c => c.getLsbD a == c.getLsbD b
/-- The least bytes of the atoms so far, the place of each byte so far. -/
def atRun (cells : List (BitVec 256)) : Nat → List Nat × List Nat
  | 0 => ([], [])
  | b + 1 => match (atRun cells b).1.findIdx? fun g => sigEq cells b g with
    | some k => ((atRun cells b).1, (atRun cells b).2 ++ [k])
    | none => ((atRun cells b).1 ++ [b], (atRun cells b).2 ++ [(atRun cells b).1.length])
def atSet (ps : List Nat) (k : Nat) (b : Nat) : Bool := ps[b]? == some k
def atSets (ps : List Nat) (n : Nat) : List (Nat → Bool) := (List.range n).map (atSet ps)
structure AtOk (cells : List (BitVec 256)) (b : Nat) (f ps : List Nat) : Prop where
  plen : ps.length = b
  flen : f.length ≤ b
  lt : ∀ p ∈ ps, p < f.length
  first : ∀ (k g : Nat), f[k]? = some g → g < b ∧ ps[g]? = some k
  sig : ∀ (i p g : Nat), ps[i]? = some p → f[p]? = some g → sigEq cells i g = true ∧ g ≤ i
theorem sigEq_refl (cells : List (BitVec 256)) (a : Nat) : sigEq cells a a = true := by simp [sigEq]
theorem atRun_ok (cells : List (BitVec 256)) : ∀ b, AtOk cells b (atRun cells b).1 (atRun cells b).2
  | 0 => ⟨rfl, Nat.le_refl _, (fun p h => by cases h), (fun k g h => by cases h), (fun i p g h => by cases h)⟩
  | b + 1 => by
    have ih := atRun_ok cells b
    unfold atRun
    split
    · rename_i k hk
      rw [List.findIdx?_eq_some_iff_getElem] at hk
      obtain ⟨hlt, hsig, _⟩ := hk
      refine ⟨by simp [ih.plen], by have := ih.flen; simp only; omega, fun p hp => ?_, fun k' g hg => ?_, fun i p g hi hg => ?_⟩
      · rcases List.mem_append.1 hp with h | h
        · exact ih.lt p h
        · rw [List.mem_singleton] at h; subst h; exact hlt
      · obtain ⟨h1, h2⟩ := ih.first k' g hg
        exact ⟨by omega, by simp only; rw [List.getElem?_append_left (by rw [ih.plen]; exact h1)]; exact h2⟩
      · simp only at hi hg
        by_cases hib : i < b
        · rw [List.getElem?_append_left (by rw [ih.plen]; exact hib)] at hi
          exact ih.sig i p g hi hg
        · rw [List.getElem?_append_right (by rw [ih.plen]; omega), ih.plen] at hi
          have hi0 : i - b = 0 := by
            have := (List.getElem?_eq_some_iff.1 hi).1
            simp only [List.length_singleton] at this
            omega
          rw [hi0, List.getElem?_cons_zero] at hi
          cases hi
          rw [List.getElem?_eq_getElem hlt] at hg
          cases hg
          have hib' : i = b := by omega
          subst hib'
          exact ⟨hsig, by have := (ih.first _ _ (List.getElem?_eq_getElem hlt)).1; omega⟩
    · rename_i hk
      refine ⟨by simp [ih.plen], by have := ih.flen; simp; omega, fun p hp => ?_, fun k' g hg => ?_, fun i p g hi hg => ?_⟩
      · simp only [List.length_append, List.length_singleton]
        rcases List.mem_append.1 hp with h | h
        · have := ih.lt p h; omega
        · rw [List.mem_singleton] at h; subst h; omega
      · simp only at hg ⊢
        by_cases hkl : k' < (atRun cells b).1.length
        · rw [List.getElem?_append_left hkl] at hg
          obtain ⟨h1, h2⟩ := ih.first k' g hg
          exact ⟨by omega, by rw [List.getElem?_append_left (by rw [ih.plen]; exact h1)]; exact h2⟩
        · rw [List.getElem?_append_right (by omega)] at hg
          have h0 := (List.getElem?_eq_some_iff.1 hg).1
          simp only [List.length_singleton] at h0
          rw [show k' - (atRun cells b).1.length = 0 by omega, List.getElem?_cons_zero] at hg
          cases hg
          exact ⟨by omega, by rw [List.getElem?_append_right (by rw [ih.plen]; omega), ih.plen, Nat.sub_self, List.getElem?_cons_zero]; congr 1; omega⟩
      · simp only at hi hg
        by_cases hib : i < b
        · rw [List.getElem?_append_left (by rw [ih.plen]; exact hib)] at hi
          have hp := ih.lt p (List.mem_of_getElem? hi)
          rw [List.getElem?_append_left hp] at hg
          exact ih.sig i p g hi hg
        · rw [List.getElem?_append_right (by rw [ih.plen]; omega), ih.plen] at hi
          have hi0 : i - b = 0 := by
            have := (List.getElem?_eq_some_iff.1 hi).1
            simp only [List.length_singleton] at this
            omega
          rw [hi0, List.getElem?_cons_zero] at hi
          cases hi
          rw [List.getElem?_append_right (Nat.le_refl _), Nat.sub_self, List.getElem?_cons_zero] at hg
          cases hg
          have hib' : i = b := by omega
          subst hib'
          exact ⟨sigEq_refl _ _, Nat.le_refl _⟩

def asI (l : List Nat) : List Int := l.map fun (n : Nat) => (n : Int)
theorem asI_get {l : List Nat} {i n : Nat} (h : l[i]? = some n) : (asI l)[i]? = some (n : Int) := by unfold asI; rw [List.getElem?_map, h]; rfl
theorem asI_len (l : List Nat) : (asI l).length = l.length := by simp [asI]
theorem atSets_len (ps : List Nat) (n : Nat) : (atSets ps n).length = n := by simp [atSets]
theorem atSets_get {ps : List Nat} {n k : Nat} (h : k < n) : (atSets ps n)[k]? = some (atSet ps k) := by unfold atSets; rw [List.getElem?_map, List.getElem?_range h]; rfl
/-- One byte more has its place. -/
theorem atSets_put {ps : List Nat} {n k : Nat} (hk : k < n) : (atSets ps n).set k (fun b => decide (b = ps.length) || atSet ps k b) = atSets (ps ++ [k]) n := by
  apply List.ext_getElem?
  intro i
  by_cases hi : i < n
  · rw [List.getElem?_set, atSets_len, atSets_get hi, atSets_get hi]
    have key : ∀ j, atSet (ps ++ [k]) j = fun b => (decide (b = ps.length) && decide (j = k)) || atSet ps j b := by
      intro j
      funext b
      unfold atSet
      rcases Nat.lt_trichotomy b ps.length with h | h | h
      · rw [List.getElem?_append_left h, decide_eq_false (by omega)]; simp
      · subst h
        rw [List.getElem?_append_right (Nat.le_refl _), Nat.sub_self, List.getElem?_cons_zero, List.getElem?_eq_none (Nat.le_refl _)]
        simp [eq_comm]
        by_cases h : k = j <;> simp [h]
      · rw [List.getElem?_eq_none (by simp; omega), List.getElem?_eq_none (by omega), decide_eq_false (by omega)]; simp
    rw [key]
    by_cases hik : k = i
    · subst hik; simp [hi]
    · rw [if_neg hik]
      have : (decide (i = k)) = false := decide_eq_false (Ne.symm hik)
      simp [this]
  · rw [List.getElem?_eq_none (by simp [atSets_len]; omega), List.getElem?_eq_none (by simp [atSets_len]; omega)]
theorem atSets_more (ps : List Nat) (n : Nat) (h : ∀ p ∈ ps, p < n) : atSets ps (n + 1) = atSets ps n ++ [fun _ => false] := by
  unfold atSets
  rw [List.range_succ, List.map_append]
  congr 1
  simp only [List.map_cons, List.map_nil, List.cons.injEq, and_true]
  funext b
  unfold atSet
  cases hb : ps[b]? with
  | none => rfl
  | some p => have := h p (List.mem_of_getElem? hb); simp; omega

end Go.Proofs.Ytpnnedkpbmilkaa
