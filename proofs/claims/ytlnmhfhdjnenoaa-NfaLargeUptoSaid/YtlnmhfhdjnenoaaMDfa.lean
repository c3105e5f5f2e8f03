/- Tables and automata, in plain Lean. -/
import Derived.Test.YtlnmhfhdjnenoaaVTy
set_option linter.unusedVariables false
set_option linter.unusedSimpArgs false
namespace Go.Proofs.Ytlnmhfhdjnenoaa

/-- The union of the cells, if no two meet. -/
def disjGo (all : BitVec 256) : List (BitVec 256) → Option (BitVec 256)
  | [] => some all
  | c :: cs => if all &&& c = 0#256 then disjGo (all ||| c) cs else none
theorem disjGo_append (all : BitVec 256) (cs ds : List (BitVec 256)) : disjGo all (cs ++ ds) = (disjGo all cs).bind fun x => disjGo x ds := by
  induction cs generalizing all with
  | nil => rfl
  | cons c cs ih =>
    simp only [List.cons_append, disjGo]
    split
    · exact ih _
    · rfl
theorem disjGo_snoc {all : BitVec 256} {cs : List (BitVec 256)} {x c : BitVec 256} (h : disjGo all cs = some x) : disjGo all (cs ++ [c]) = if x &&& c = 0#256 then some (x ||| c) else none := by
  rw [disjGo_append, h]; rfl
def rowOk (n m : Nat) (row : List Int) : Bool := row.length == m && row.all fun q => decide (0 ≤ q) && decide (q < (n : Int))
def soundB (cells : List (BitVec 256)) (next : List (List Int)) (fl : Nat) : Bool :=
  match disjGo 0#256 cells with
  | none => false
  | some all => all == BitVec.allOnes 256 && decide (1 ≤ next.length) && decide (next.length ≤ 65536) && next.length == fl && next.all (rowOk next.length cells.length)

theorem take_succ_snoc {α : Type} {l : List α} {k : Nat} {x : α} (h : l[k]? = some x) : l.take (k + 1) = l.take k ++ [x] := by
  rw [List.take_add_one, h]; rfl
theorem get_some {α : Type} {l : List α} {k : Nat} (h : k < l.length) : ∃ x, l[k]? = some x := ⟨l[k], List.getElem?_eq_getElem h⟩

/-! ### merging -/
def alikeB (next : List (List Int)) (c d : Nat) : Bool := c == d || next.all fun row => row[c]? == row[d]?
def cellOf (cells : List (BitVec 256)) (b : Nat) : Nat := cells.findIdx fun c => c.getLsbD b
structure MS where
  cols : List Nat
  sets : List (BitVec 256)
  cell : List Nat
def mFind (next : List (List Int)) (cols : List Nat) (f : Nat) : Option Nat := cols.findIdx? fun c => alikeB next c f
/-- The columns, the sets and the place, once there is a column for f. -/
def mNew (next : List (List Int)) (cols : List Nat) (sets : List (BitVec 256)) (f : Nat) : List Nat × List (BitVec 256) × Nat :=
  match mFind next cols f with
  | some i => (cols, sets, i)
  | none => (cols ++ [f], sets ++ [0#256], cols.length)
def mStep (next : List (List Int)) (cells : List (BitVec 256)) (st : MS) (b : Nat) (s : BitVec 256) : MS :=
  let r := mNew next st.cols st.sets (cellOf cells b)
  ⟨r.1, r.2.1.set r.2.2 (r.2.1.getD r.2.2 0#256 ||| s), st.cell ++ [r.2.2]⟩
def mRun (next : List (List Int)) (cells : List (BitVec 256)) (sp : Nat → BitVec 256) : Nat → MS
  | 0 => ⟨[], [], []⟩
  | b + 1 => mStep next cells (mRun next cells sp b) b (sp b)

theorem disjGo_bits {all : BitVec 256} {cs : List (BitVec 256)} {x : BitVec 256} (h : disjGo all cs = some x) (b : Nat) : x.getLsbD b = (all.getLsbD b || cs.any fun c => c.getLsbD b) := by
  induction cs generalizing all with
  | nil => simp only [disjGo, Option.some.injEq] at h; subst h; simp
  | cons c cs ih =>
    simp only [disjGo] at h
    split at h
    · rw [ih h, BitVec.getLsbD_or, List.any_cons, Bool.or_assoc]
    · cases h
theorem soundB_cells {cells : List (BitVec 256)} {next : List (List Int)} {fl : Nat} (h : soundB cells next fl = true) {b : Nat} (hb : b < 256) : cellOf cells b < cells.length ∧ ∀ c, cells[cellOf cells b]? = some c → c.getLsbD b = true := by
  unfold soundB at h
  split at h
  · cases h
  · rename_i all hall
    simp only [Bool.and_eq_true, beq_iff_eq] at h
    have h1 := disjGo_bits hall b
    rw [h.1.1.1.1, BitVec.getLsbD_allOnes] at h1
    simp only [hb, decide_true, BitVec.getLsbD_zero, Bool.false_or] at h1
    have h2 : cellOf cells b < cells.length := List.findIdx_lt_length.2 (by simpa using (List.any_eq_true.1 h1.symm))
    refine ⟨h2, fun c hc => ?_⟩
    have := List.findIdx_getElem (w := h2)
    rw [List.getElem?_eq_getElem h2] at hc
    cases hc
    exact this
theorem cellOf_before {cells : List (BitVec 256)} {b k : Nat} {c : BitVec 256} (hk : k < cellOf cells b) (hc : cells[k]? = some c) : c.getLsbD b = false := by
  have := List.not_of_lt_findIdx hk
  have hlt := (List.getElem?_eq_some_iff.1 hc).1
  rw [List.getElem?_eq_getElem hlt] at hc
  cases hc
  simpa using this
theorem soundB_rows {cells : List (BitVec 256)} {next : List (List Int)} {fl : Nat} (h : soundB cells next fl = true) : 1 ≤ next.length ∧ next.length ≤ 65536 ∧ next.length = fl ∧ ∀ row ∈ next, row.length = cells.length ∧ ∀ q ∈ row, 0 ≤ q ∧ q < (next.length : Int) := by
  unfold soundB at h
  split at h
  · cases h
  · simp only [Bool.and_eq_true, beq_iff_eq, decide_eq_true_eq, List.all_eq_true, rowOk] at h
    exact ⟨h.1.1.1.2, h.1.1.2, h.1.2, fun row hr => ⟨(h.2 row hr).1, fun q hq => (h.2 row hr).2 q hq⟩⟩

structure MOk (m b : Nat) (st : MS) : Prop where
  len : st.cols.length = st.sets.length
  le : st.cols.length ≤ b
  cell : st.cell.length = b
  cols : ∀ c ∈ st.cols, c < m
  places : ∀ p ∈ st.cell, p < st.cols.length
theorem mNew_ok {next : List (List Int)} {cols : List Nat} {sets : List (BitVec 256)} {f m b : Nat} (h1 : cols.length = sets.length) (h2 : cols.length ≤ b) (h3 : ∀ c ∈ cols, c < m) (hf : f < m) :
    (mNew next cols sets f).1.length = (mNew next cols sets f).2.1.length ∧ (mNew next cols sets f).1.length ≤ b + 1 ∧ (∀ c ∈ (mNew next cols sets f).1, c < m) ∧ (mNew next cols sets f).2.2 < (mNew next cols sets f).1.length ∧ cols.length ≤ (mNew next cols sets f).1.length := by
  unfold mNew
  split
  · rename_i i hi
    have hlt : i < cols.length := by
      have := List.findIdx?_eq_some_iff_findIdx_eq.1 hi
      exact this.1
    exact ⟨h1, Nat.le_succ_of_le h2, h3, hlt, Nat.le_refl _⟩
  · refine ⟨by simp [h1], by simpa using h2, ?_, by simp, by simp⟩
    intro c hc
    rcases List.mem_append.1 hc with h | h
    · exact h3 c h
    · rw [List.mem_singleton] at h; omega
theorem mRun_ok {next : List (List Int)} {cells : List (BitVec 256)} {sp : Nat → BitVec 256} (hc : ∀ b, b < 256 → cellOf cells b < cells.length) : ∀ b, b ≤ 256 → MOk cells.length b (mRun next cells sp b)
  | 0, _ => ⟨rfl, Nat.le_refl _, rfl, (fun c h => by cases h), (fun p h => by cases h)⟩
  | b + 1, hb => by
    have ih := mRun_ok (next := next) (sp := sp) hc b (by omega)
    have h := mNew_ok (next := next) ih.len ih.le ih.cols (hc b (by omega))
    unfold mRun mStep
    refine ⟨?_, h.2.1, ?_, h.2.2.1, ?_⟩
    · simp only [List.length_set]; exact h.1
    · simp [ih.cell]
    · intro p hp
      simp only [List.mem_append, List.mem_singleton] at hp
      rcases hp with hp | rfl
      · exact Nat.lt_of_lt_of_le (ih.places p hp) h.2.2.2.2
      · exact h.2.2.2.1

end Go.Proofs.Ytlnmhfhdjnenoaa
