/- Reading arguments: what the form says of them, as typed views. -/
import Derived.ProofKit
import Derived.Test.YtfdlhakfmbdamaaDoorRows
import Derived.Test.YtfdlhakfmbdamaaDoorVMem
set_option linter.unusedVariables false
set_option linter.unusedSimpArgs false
namespace Go.VC
open Go.Proofs.YtfdlhakfmbdamaaDoor.Rows (uptoBulk uptoBulkAll)
def InW (W : World) (k : Nat) : Prop := k < W.heap.size
def Opens {H : Type} (enc : TypeId × Value → H) (P : Program) (W : World) {α : Type} (T : Ty α) (sz : α → Nat) (t : TypeId) : Prop :=
  ∀ fuel cs d ps, DataW.trod enc P W 0 (fun _ => true) true fuel t cs = some (d, ps) → ∃ x, T.rep (InW W) W.heap cs x ∧ sz x ≤ uptoBulk d
/-- How many values a list bears. -/
def szL {α : Type} (sz : α → Nat) : List α → Nat
  | [] => 1
  | x :: xs => sz x + szL sz xs
theorem szL_snoc {α : Type} (sz : α → Nat) (x : α) : ∀ xs : List α, szL sz (xs ++ [x]) = szL sz xs + sz x
  | [] => by simp [szL]; omega
  | y :: ys => by simp only [List.cons_append, szL, szL_snoc sz x ys]; omega
theorem szL_len {α : Type} {sz : α → Nat} (h : ∀ x, 1 ≤ sz x) : ∀ xs : List α, xs.length + 1 ≤ szL sz xs
  | [] => Nat.le_refl _
  | y :: ys => by have := szL_len h ys; have := h y; simp only [List.length_cons, szL]; omega
theorem szL_mem {α : Type} {sz : α → Nat} {x : α} : ∀ {xs : List α}, x ∈ xs → sz x ≤ szL sz xs
  | [], h => by cases h
  | y :: ys, h => by
    rcases List.mem_cons.1 h with rfl | h
    · simp only [szL]; omega
    · have := szL_mem (sz := sz) h; simp only [szL]; omega
theorem bulkAll_snoc {H : Type} (d : DataW H) : ∀ ds : List (DataW H), uptoBulkAll (ds ++ [d]) = uptoBulkAll ds + uptoBulk d
  | [] => by simp [uptoBulkAll]
  | y :: ys => by simp only [List.cons_append, uptoBulkAll, bulkAll_snoc d ys]; omega
section
variable {H : Type} {enc : TypeId × Value → H} {P : Program} {W : World} {t e : TypeId}
theorem mapM_all {α β : Type} {f : α → Option β} : ∀ {l : List α} {r : List β}, l.mapM f = some r → ∀ x ∈ l, ∃ y, f x = some y := by
  intro l
  induction l with
  | nil => intro r h x hx; cases hx
  | cons a l ih =>
    intro r h x hx
    rw [List.mapM_cons] at h
    cases ha : f a with
    | none => simp [ha] at h
    | some y =>
      rcases List.mem_cons.1 hx with rfl | hx
      · exact ⟨y, ha⟩
      · cases hl : l.mapM f with
        | none => simp [ha, hl] at h
        | some r' => exact ih hl x hx
theorem opens_int {k : IntKind} (ht : P.underlying t = some (.int k)) : Opens enc P W (tInt k) (fun _ => 1) t := by
  intro fuel cs d ps h
  obtain ⟨n, rfl, hd, hw⟩ := DataW.trod_int ht h
  cases hd
  simp only [Lit.wf, Bool.and_eq_true, decide_eq_true_eq] at hw
  exact ⟨n, ⟨rfl, hw⟩, by simp [uptoBulk]⟩
theorem opens_bool (ht : P.underlying t = some .bool) : Opens enc P W tBool (fun _ => 1) t := by
  intro fuel cs d ps h
  obtain ⟨b, rfl, hd⟩ := DataW.trod_bool ht h
  cases hd
  exact ⟨b, rfl, by simp [uptoBulk]⟩
theorem opens_str (ht : P.underlying t = some .string) : Opens enc P W tStr (fun s => s.size + 1) t := by
  intro fuel cs d ps h
  obtain ⟨s, rfl, hd, hs⟩ := DataW.trod_string ht h
  cases hd
  exact ⟨s, ⟨rfl, hs⟩, by simp [uptoBulk, Array.length_toList]⟩
theorem slice_cell {base : Nat} {v x : Value} (ht : P.underlying t = some (.slice e)) (hok : Value.okWide P W .any base t v) (h : v.cells.toList = [x]) : v = x := by
  simp only [Value.okWide, ht] at hok
  cases v with
  | agg cs => simp [Cell.okWide, Cell.ok, ht] at hok
  | _ => simpa [Value.cells] using h
theorem cells_get {a : Addr} {n : Nat} {cs : List Value} (h : W.cells? 0 a n = some cs) (hn : 0 < n) : cs.length = n ∧ a.spot = none ∧ a.block < W.heap.size ∧ Cells W.heap a.block a.off cs := by
  unfold World.cells? at h
  rw [if_pos (Nat.zero_le _)] at h
  have hl := mapM_some_length h
  rw [List.length_range] at hl
  have hg : ∀ j, j < n → W.cell? (a.add j) = cs[j]? := fun j hj => mapM_some_get h j j (by simp [hj])
  obtain ⟨v0, hv0⟩ : ∃ v, cs[0]? = some v := ⟨cs[0]'(by omega), List.getElem?_eq_getElem (by omega)⟩
  have h0 := hg 0 hn
  rw [hv0] at h0
  have hsp : a.spot = none := by
    cases hs : a.spot with
    | none => rfl
    | some x =>
      unfold World.cell? at h0
      split at h0
      · simp [Addr.add, hs] at h0
      · cases h0
  refine ⟨hl, hsp, ?_, fun j v hv => ?_⟩
  · unfold World.cell? at h0
    split at h0
    · rename_i he
      exact (Array.getElem?_eq_some_iff.1 he).1
    · cases h0
  · have hj := (List.getElem?_eq_some_iff.1 hv).1
    have := hg j (by omega)
    rw [hv] at this
    rw [← cell_w]
    obtain ⟨b, o, sp⟩ := a
    simp only at hsp
    subst hsp
    rw [Addr.add_mid] at this
    exact this
theorem opens_slice {α : Type} {T : Ty α} {sz : α → Nat} (ht : P.underlying t = some (.slice e)) (hc : P.cellsOf e = T.size) (h0 : 0 < T.size) (he : Opens enc P W T sz e) : Opens enc P W (tSl T) (szL sz) t := by
  intro fuel cs d ps h
  rcases DataW.trod_slice ht h with ⟨rfl, hd⟩ | ⟨a, len, cap, elems, rest, n, rfl, rfl, hd, -, hl, hm, hel, hget, hsp, -⟩
  · cases hd
    exact ⟨[], ⟨none, 0, rfl, rfl, rfl⟩, by simp [szL, uptoBulk]⟩
  · cases hd
    obtain ⟨hrl, hrest⟩ := hsp rfl
    rw [hc] at hget hrest
    by_cases hcap : cap = 0
    · obtain rfl : len = 0 := by omega
      exact ⟨[], ⟨some a, cap, rfl, by simp, hm, .inl hcap⟩, by simp [szL, uptoBulk]⟩
    · have hsb : a.spot = none ∧ a.block < W.heap.size := by
        have key : ∀ y, (W.cells? 0 (a.add (0 * T.size)) T.size).bind (DataW.trod enc P W 0 (fun _ => true) true n e) = some y → a.spot = none ∧ a.block < W.heap.size := by
          intro y hy
          obtain ⟨c, hc1, hc2⟩ := Option.bind_eq_some_iff.1 hy
          obtain ⟨g1, g2, g3, g4⟩ := cells_get hc1 h0
          rw [Nat.zero_mul] at g2 g3
          unfold Addr.add at g2 g3
          split at g2 <;> simp_all
        by_cases hil : 0 < len
        · exact key _ ((hget 0 hil).trans (List.getElem?_eq_getElem (by omega)))
        · have := hrest 0 (by omega)
          rw [show len + 0 = 0 by omega] at this
          exact key _ (this.trans (List.getElem?_eq_getElem (by omega)))
      obtain ⟨b, o, sp⟩ := a
      obtain ⟨rfl, hb⟩ := hsb
      have build : ∀ m, m ≤ len → ∃ ec xs, xs.length = m ∧ Cells W.heap b o ec ∧ T.reps (InW W) W.heap ec xs ∧ szL sz xs ≤ uptoBulkAll ((elems.take m).map (·.1)) + 1 := by
        intro m
        induction m with
        | zero => exact fun _ => ⟨[], [], rfl, (fun j v hv => by simp at hv), rfl, by simp [szL]⟩
        | succ m ih =>
          intro hm'
          obtain ⟨ec, xs, h1, h2, h3, hz⟩ := ih (by omega)
          have hy : elems[m]? = some (elems[m]'(by omega)) := List.getElem?_eq_getElem (by omega)
          obtain ⟨c, h4, hc2⟩ := Option.bind_eq_some_iff.1 ((hget m (by omega)).trans hy)
          obtain ⟨x, h5, hzx⟩ := he n c _ _ hc2
          obtain ⟨g1, g2, g3, g4⟩ := cells_get h4 h0
          rw [Addr.add_mid] at g4
          have hel := Ty.reps_len h3
          refine ⟨ec ++ c, xs ++ [x], by simp [h1], fun j v hv => ?_, Ty.reps_snoc h3 h5, ?_⟩
          · by_cases hj : j < ec.length
            · rw [List.getElem?_append_left hj] at hv
              exact h2 j v hv
            · rw [List.getElem?_append_right (by omega)] at hv
              have := g4 _ v hv
              simp only at this
              rw [show o + m * T.size + (j - ec.length) = o + j by rw [hel, h1] at *; omega] at this
              exact this
          · rw [szL_snoc, List.take_add_one, hy, Option.toList_some, List.map_append, List.map_singleton, bulkAll_snoc]
            refine Nat.le_trans (Nat.add_le_add hz hzx) ?_
            rw [Nat.add_right_comm]
            exact Nat.le_refl _
      obtain ⟨ec, xs, h1, h2, h3, hz⟩ := build len (Nat.le_refl _)
      rw [List.take_of_length_le (by omega)] at hz
      refine ⟨xs, ⟨_, cap, by rw [h1], SlD.intro hb (by omega) hm h2 h3⟩, ?_⟩
      simp only [uptoBulk]
      omega
end

end Go.VC
