/- louperef08.sum, Paths; the counts in plain Lean. -/
import Derived.Test.YtkgmhkcncemmkaaPWrd4
import Derived.Test.YtkgmhkcncemmkaaPWrd2
import Derived.Test.YtkgmhkcncemmkaaVMore
set_option linter.unusedVariables false
set_option linter.unusedSimpArgs false
set_option maxRecDepth 100000
namespace Go.Proofs.Ytkgmhkcncemmkaa
open Go.VC
attribute [local irreducible] mRun gRun atRun

/-- How many words of n bytes lead from q to a final state. -/
def wN (o : Option AM) : Nat → Int → Nat
  | 0, q => if finM o q then 1 else 0
  | n + 1, q => ((List.range 256).map fun b => wN o n (stepM o q b)).sum
theorem min_times (x k : Nat) : min (min x TM * k) TM = min (x * k) TM := by
  unfold TM
  by_cases h : x ≤ 9223372036854775808
  · rw [Nat.min_eq_left h]
  · rw [Nat.min_eq_right (a := x) (by omega)]
    cases k with
    | zero => simp
    | succ k =>
      have h1 : 9223372036854775808 ≤ 9223372036854775808 * (k + 1) := by omega
      have h2 : 9223372036854775808 * (k + 1) ≤ x * (k + 1) := Nat.mul_le_mul_right _ (by omega)
      omega
theorem cap_fold (f : BitVec 256 → Nat) : ∀ (l : List (BitVec 256)) (a : Nat), a ≤ TM → l.foldl (fun acc c => min (acc + min (f c) TM) TM) a = min (a + (l.map f).sum) TM
  | [], a, h => by simp [Nat.min_eq_left h]
  | c :: l, a, h => by
    rw [List.foldl_cons, cap_fold f l _ (Nat.min_le_right _ _), List.map_cons, List.sum_cons]
    unfold TM at *
    omega
theorem sum_swap {α β : Type} (F : α → β → Nat) (l : List α) : ∀ m : List β, (l.map fun c => (m.map fun b => F c b).sum).sum = (m.map fun b => (l.map fun c => F c b).sum).sum := by
  induction l with
  | nil => intro m; induction m with
    | nil => rfl
    | cons b m ih => simpa using ih
  | cons c l ih =>
    intro m
    rw [List.map_cons, List.sum_cons, ih m]
    clear ih
    induction m with
    | nil => rfl
    | cons b m ih => simp only [List.map_cons, List.sum_cons] at ih ⊢; omega
theorem sum_one {α : Type} (p : α → Bool) (x : Nat) : ∀ l : List α, (∃ (k : Nat) (c : α), l[k]? = some c ∧ p c = true ∧ ∀ (k' : Nat) (c' : α), l[k']? = some c' → p c' = true → k' = k) → (l.map fun c => if p c then x else 0).sum = x
  | [], ⟨k, c, h, _⟩ => by simp at h
  | a :: t, ⟨k, c, h, hp, hu⟩ => by
    rw [List.map_cons, List.sum_cons]
    cases ha : p a with
    | true =>
      have h0 := hu 0 a rfl ha
      have hz : (t.map fun c => if p c then x else 0).sum = 0 := by
        rw [List.sum_eq_zero_iff_forall_eq_nat]
        intro y hy
        obtain ⟨c', hc', rfl⟩ := List.mem_map.1 hy
        obtain ⟨j, hj⟩ := List.getElem?_of_mem hc'
        cases hpc : p c' with
        | false => rfl
        | true =>
          have := hu (j + 1) c' (by simpa using hj) hpc
          omega
      rw [hz]; simp
    | false =>
      cases k with
      | zero =>
        simp at h; subst h
        rw [ha] at hp; cases hp
      | succ k =>
        have := sum_one p x t ⟨k, c, by simpa using h, hp, fun k' c' h1 h2 => by have := hu (k' + 1) c' (by simpa using h1) h2; omega⟩
        simp [this]
theorem sum_filter {α : Type} (p : α → Bool) (x : Nat) (l : List α) : (l.filter p).length * x = (l.map fun b => if p b then x else 0).sum := by
  induction l with
  | nil => simp
  | cons a l ih =>
    rw [List.map_cons, List.sum_cons, ← ih]
    cases hp : p a with
    | true => rw [List.filter_cons_of_pos hp, List.length_cons, Nat.succ_mul]; simp; omega
    | false => rw [List.filter_cons_of_neg (by simp [hp])]; simp
theorem cell_sum {o : Option AM} {ls : List Nat} (hc : CellsOk o ls) {q : Int} (h0 : 0 ≤ q) (h1 : q < stN o) (g : Int → Nat) :
    ((cellsM o).map fun c => g (stepM o q (nextM c 0).1) * countM c).sum = ((List.range 256).map fun b => g (stepM o q b)).sum := by
  have e1 : (cellsM o).map (fun c => g (stepM o q (nextM c 0).1) * countM c) = (cellsM o).map fun c => ((List.range 256).map fun b => if c.getLsbD b then g (stepM o q b) else 0).sum := by
    apply List.map_congr_left
    intro c hcm
    obtain ⟨k, hk⟩ := List.getElem?_of_mem hcm
    obtain ⟨l, hl, _, hn, _⟩ := hc.least k c hk
    rw [hn, Nat.mul_comm]
    unfold countM
    rw [sum_filter]
    congr 1
    apply List.map_congr_left
    intro b hb
    cases hbit : c.getLsbD b with
    | false => rfl
    | true => simp only [if_true]; rw [(hc.keeps k c l b hk hl (by simpa using hb) hbit).2 q h0 h1]
  rw [e1, sum_swap]
  congr 1
  apply List.map_congr_left
  intro b hb
  exact sum_one (fun c : BitVec 256 => c.getLsbD b) (g (stepM o q b)) (cellsM o) (hc.part b (by simpa using hb))
theorem cnt_eq {o : Option AM} {ls : List Nat} (hc : CellsOk o ls) (hst : StepIn o) : ∀ (n : Nat) (q : Int), 0 ≤ q → q < stN o → cntP o n q = min (wN o n q) TM
  | 0, q, _, _ => by
    show (if finM o q then 1 else 0) = min (if finM o q then 1 else 0) TM
    cases finM o q <;> rfl
  | n + 1, q, h0, h1 => by
    have e1 : cntP o (n + 1) q = (cellsM o).foldl (fun acc c => min (acc + min (wN o n (stepM o q (nextM c 0).1) * countM c) TM) TM) 0 := by
      have hf : cellF o n q = fun acc c => min (acc + min (wN o n (stepM o q (nextM c 0).1) * countM c) TM) TM := by
        funext acc c
        have hs := hst q (nextM c 0).1 h0 h1 (nextM_lt c 0)
        unfold cellF
        rw [cnt_eq hc hst n _ hs.1 hs.2, min_times]
      rw [cntP_succ, hf]
    rw [e1, cap_fold (fun c => wN o n (stepM o q (nextM c 0).1) * countM c) _ 0 (by decide), Nat.zero_add, cell_sum hc h0 h1 (wN o n)]
    rfl

/-- The document's number: -1 where there are too many. -/
def capI (x : Nat) : Int := if x < TM then (x : Int) else -1
theorem capI_in (x : Nat) : -1 ≤ capI x ∧ capI x ≤ 9223372036854775807 := by
  unfold capI TM; split <;> omega
theorem capI_rep (x : Nat) (H : Heap) : (tInt .i64).rep none_ H [.int .i64 (capI x)] (capI x) := by
  have := capI_in x
  refine ⟨rfl, ?_, ?_⟩
  · have : IntKind.i64.min = -9223372036854775808 := by decide
    omega
  · have : IntKind.i64.max = 9223372036854775807 := by decide
    omega
theorem sum_p (x y : Nat) (H : Heap) : Pure Try.prog 56 #[.int .i64 (capI x), .int .i64 (capI y)] H (.int .i64 (capI (x + y))) := by
  refine FnOk.of_vc Try.func56 rfl (Try.call56 _) ?_
  have hx := capI_in x
  have hy := capI_in y
  by_cases h1 : x < TM
  · have e1 : capI x = (x : Int) := if_pos h1
    have d1 : decide (capI x < 0) = false := decide_eq_false (by omega)
    (conv => whnf); rw [d1]
    by_cases h2 : y < TM
    · have e2 : capI y = (y : Int) := if_pos h2
      have d2 : decide (capI y < 0) = false := decide_eq_false (by omega)
      unfold TM at h1 h2
      (conv => whnf); rw [d2]
      (conv => whnf); rw [w64 (x := (9223372036854775807 : Int) - capI y) (by omega) (by omega)]
      by_cases h3 : x + y < TM
      · have d3 : decide ((9223372036854775807 : Int) - capI y < capI x) = false := by unfold TM at h3; exact decide_eq_false (by omega)
        have e3 : capI (x + y) = capI x + capI y := by rw [e1, e2]; unfold capI; rw [if_pos h3]; omega
        have := capI_in (x + y)
        (conv => whnf); rw [d3]
        (conv => whnf); rw [w64 (x := capI x + capI y) (by omega) (by omega)]
        (conv => whnf)
        exact ⟨by rw [e3], Agr.refl _ _⟩
      · have d3 : decide ((9223372036854775807 : Int) - capI y < capI x) = true := by unfold TM at h3; exact decide_eq_true (by omega)
        (conv => whnf); rw [d3]
        (conv => whnf)
        exact ⟨by unfold capI; rw [if_neg h3], Agr.refl _ _⟩
    · have e2 : capI y = -1 := if_neg h2
      have d2 : decide (capI y < 0) = true := decide_eq_true (by omega)
      (conv => whnf); rw [d2]
      (conv => whnf)
      exact ⟨by unfold capI; rw [if_neg (by omega)], Agr.refl _ _⟩
  · have e1 : capI x = -1 := if_neg h1
    have d1 : decide (capI x < 0) = true := decide_eq_true (by omega)
    (conv => whnf); rw [d1]
    (conv => whnf)
    exact ⟨by unfold capI; rw [if_neg (by omega)], Agr.refl _ _⟩

def pathR (o : Option AM) (k : Nat) : List Int := (List.range (stN o)).map fun (q : Nat) => capI (wN o k (q : Int))
theorem pathR_len (o : Option AM) (k : Nat) : (pathR o k).length = stN o := by simp [pathR]
theorem pathR_get (o : Option AM) (k : Nat) {q : Nat} (h : q < stN o) : (pathR o k)[q]? = some (capI (wN o k (q : Int))) := by
  unfold pathR
  rw [List.getElem?_map, List.getElem?_range h]; rfl
def pathL (o : Option AM) (n m : Nat) : List (List Int) := (List.range (n + 1)).map fun k => if k < m then pathR o k else []
theorem pathL_len (o : Option AM) (n m : Nat) : (pathL o n m).length = n + 1 := by simp [pathL]
theorem pathL_get (o : Option AM) (n m : Nat) {k : Nat} (h : k < n + 1) : (pathL o n m)[k]? = some (if k < m then pathR o k else []) := by
  unfold pathL
  rw [List.getElem?_map, List.getElem?_range h]; rfl
theorem pathL_put (o : Option AM) {n m : Nat} (h : m < n + 1) : (pathL o n m).set m (pathR o m) = pathL o n (m + 1) := by
  apply List.ext_getElem?
  intro j
  by_cases hj : j < n + 1
  · rw [pathL_get o n (m + 1) hj, List.getElem?_set, pathL_len]
    by_cases hjm : m = j
    · subst hjm; rw [if_pos rfl, if_pos hj, if_pos (by omega)]
    · rw [if_neg hjm, pathL_get o n m hj]
      have : (j < m) ↔ (j < m + 1) := by omega
      simp only [this]
  · rw [List.getElem?_eq_none (by rw [List.length_set, pathL_len]; omega), List.getElem?_eq_none (by rw [pathL_len]; omega)]
theorem pathL_zero (o : Option AM) (n : Nat) : List.replicate (n + 1) ([] : List Int) = pathL o n 0 := by
  unfold pathL
  simp [List.map_const']
end Go.Proofs.Ytkgmhkcncemmkaa
