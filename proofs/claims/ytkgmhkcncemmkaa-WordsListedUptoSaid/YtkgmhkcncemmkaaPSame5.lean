/- Both automata of a table step alike. -/
import Derived.Test.YtkgmhkcncemmkaaPRefB
set_option linter.unusedVariables false
set_option linter.unusedSimpArgs false
set_option maxRecDepth 100000
namespace Go.Proofs.Ytkgmhkcncemmkaa
open Go.VC

/-! ### merging, once more -/
structure MOk2 (next : List (List Int)) (cells : List (BitVec 256)) (b : Nat) (st : MS) : Prop where
  at_ : ∀ (i p : Nat), st.cell[i]? = some p → ∃ c, st.cols[p]? = some c ∧ alikeB next c (cellOf cells i) = true
  some_ : ∀ p, p < st.cols.length → ∃ i, i < b ∧ st.cell[i]? = some p
theorem alikeB_refl (next : List (List Int)) (c : Nat) : alikeB next c c = true := by simp [alikeB]
theorem mRun_ok2 {next : List (List Int)} {cells : List (BitVec 256)} {sp : Nat → BitVec 256} (hc : ∀ b, b < 256 → cellOf cells b < cells.length) : ∀ b, b ≤ 256 → MOk2 next cells b (mRun next cells sp b)
  | 0, _ => ⟨(fun i p h => by simp [mRun] at h), (fun p h => by simp [mRun] at h)⟩
  | b + 1, hb => by
    have ih := mRun_ok2 (next := next) (sp := sp) hc b (by omega)
    have ho := mRun_ok (next := next) (sp := sp) hc b (by omega)
    unfold mRun mStep mNew
    cases hf : mFind next (mRun next cells sp b).cols (cellOf cells b) with
    | some k =>
      unfold mFind at hf
      obtain ⟨hk, hal, _⟩ := List.findIdx?_eq_some_iff_getElem.1 hf
      refine ⟨fun i p h => ?_, fun p hp => ?_⟩
      · simp only at h ⊢
        by_cases hib : i < b
        · rw [List.getElem?_append_left (by rw [ho.cell]; exact hib)] at h
          exact ih.at_ i p h
        · rw [List.getElem?_append_right (by rw [ho.cell]; omega), ho.cell] at h
          have h0 := (List.getElem?_eq_some_iff.1 h).1
          simp only [List.length_singleton] at h0
          rw [show i - b = 0 by omega, List.getElem?_cons_zero] at h
          cases h
          rw [show i = b by omega]
          exact ⟨_, List.getElem?_eq_getElem hk, hal⟩
      · simp only at hp ⊢
        obtain ⟨i, h1, h2⟩ := ih.some_ p hp
        exact ⟨i, by omega, by rw [List.getElem?_append_left (by rw [ho.cell]; exact h1)]; exact h2⟩
    | none =>
      refine ⟨fun i p h => ?_, fun p hp => ?_⟩
      · simp only at h ⊢
        by_cases hib : i < b
        · rw [List.getElem?_append_left (by rw [ho.cell]; exact hib)] at h
          obtain ⟨c, h1, h2⟩ := ih.at_ i p h
          exact ⟨c, by rw [List.getElem?_append_left (List.getElem?_eq_some_iff.1 h1).1]; exact h1, h2⟩
        · rw [List.getElem?_append_right (by rw [ho.cell]; omega), ho.cell] at h
          have h0 := (List.getElem?_eq_some_iff.1 h).1
          simp only [List.length_singleton] at h0
          rw [show i - b = 0 by omega, List.getElem?_cons_zero] at h
          cases h
          rw [show i = b by omega]
          exact ⟨cellOf cells b, by simp, alikeB_refl _ _⟩
      · simp only [List.length_append, List.length_singleton] at hp ⊢
        by_cases hpl : p < (mRun next cells sp b).cols.length
        · obtain ⟨i, h1, h2⟩ := ih.some_ p hpl
          exact ⟨i, by omega, by rw [List.getElem?_append_left (by rw [ho.cell]; exact h1)]; exact h2⟩
        · exact ⟨b, by omega, by rw [List.getElem?_append_right (by rw [ho.cell]; omega), ho.cell, Nat.sub_self, List.getElem?_cons_zero]; congr 1; omega⟩
attribute [local irreducible] mRun atRun
theorem alikeB_row {next : List (List Int)} {c d : Nat} {row : List Int} (h : alikeB next c d = true) (hr : row ∈ next) : row[c]? = row[d]? := by
  unfold alikeB at h
  simp only [Bool.or_eq_true, beq_iff_eq, List.all_eq_true] at h
  rcases h with h | h
  · rw [h]
  · exact h row hr
theorem sig_cell {cells : List (BitVec 256)} {a b : Nat} (h : sigEq cells a b = true) : cellOf cells a = cellOf cells b := by
  unfold cellOf
  unfold sigEq at h
  rw [List.all_eq_true] at h
  induction cells with
  | nil => rfl
  | cons c cs ih =>
    have h1 : c.getLsbD a = c.getLsbD b := by simpa using h c List.mem_cons_self
    rw [List.findIdx_cons, List.findIdx_cons, h1, ih fun x hx => h x (List.mem_cons_of_mem _ hx)]

theorem madeD_step {cells : List (BitVec 256)} {next : List (List Int)} {final : List Bool} {q b : Nat} {row : List Int} (hq : next[q]? = some row) (hb : b < 256) : stepD (madeD cells next final) (q : Int) b = row.getD (cellOf cells b) 0 := by
  have hok := atRun_ok cells 256
  obtain ⟨p, hp⟩ := get_some (l := (atRun cells 256).2) (k := b) (by rw [hok.plen]; exact hb)
  have hpl := hok.lt p (List.mem_of_getElem? hp)
  obtain ⟨g, hg⟩ := get_some hpl
  have hsig := (hok.sig b p g hp hg).1
  refine stepD_at (row := rowR cells (atRun cells 256).1 row) (c := p) (by simp only [madeD]; rw [List.getElem?_map, hq]; rfl) (by simp only [madeD]; exact asI_get hp) ?_
  unfold rowR
  rw [List.getElem?_map, hg]
  simp only [Option.map_some, sig_cell hsig]

/-! ### one step -/
section
variable {cells : List (BitVec 256)} {next : List (List Int)} {final : List Bool} (hs : soundB cells next final.length = true)
include hs
theorem madeM_row {q b : Nat} {row : List Int} (hq : next[q]? = some row) (hb : b < 256) : ∃ rA p, (madeM cells next final).next[q]? = some rA ∧ (madeM cells next final).cell[b]? = some p ∧ rA[p]? = some (row.getD (cellOf cells b) 0) := by
  have hc := fun b hb => (soundB_cells hs (b := b) hb).1
  have ho := mRun_ok (next := next) (sp := fun b => spanS b b) hc 256 (Nat.le_refl _)
  have h2 := mRun_ok2 (next := next) (sp := fun b => spanS b b) hc 256 (Nat.le_refl _)
  obtain ⟨p, hp⟩ := get_some (l := (mRun next cells (fun b => spanS b b) 256).cell) (k := b) (by rw [ho.cell]; exact hb)
  obtain ⟨c, hcol, hal⟩ := h2.at_ b p hp
  refine ⟨rowOf (mRun next cells (fun b => spanS b b) 256).cols row, p, by simp only [madeM]; rw [List.getElem?_map, hq]; rfl, hp, ?_⟩
  unfold rowOf
  rw [List.getElem?_map, hcol]
  simp only [Option.map_some, Option.some.injEq]
  rw [List.getD_eq_getElem?_getD, List.getD_eq_getElem?_getD, alikeB_row hal (List.mem_of_getElem? hq)]
theorem madeM_step {q b : Nat} {row : List Int} (hq : next[q]? = some row) (hb : b < 256) : stepM (some (madeM cells next final)) (q : Int) b = row.getD (cellOf cells b) 0 := by
  obtain ⟨rA, p, h1, h2, h3⟩ := madeM_row hs hq hb
  have := (List.getElem?_eq_some_iff.1 h1).1
  unfold stepM
  rw [if_neg (by simp [stN]; omega)]
  simp only [Int.toNat_natCast, h1, List.getD_eq_getElem?_getD, h2, Option.getD_some, h3]
theorem madeD_ok : (madeD cells next final).Ok := by
  obtain ⟨n1, n2, n3, hrows⟩ := soundB_rows hs
  have hok := atRun_ok cells 256
  refine ⟨by simpa [madeD] using n1, by simpa [madeD] using n2, by simp [madeD, n3], by simp [madeD, asI_len, hok.plen], fun row hr => ?_⟩
  simp only [madeD, List.mem_map] at hr
  obtain ⟨r, hr, rfl⟩ := hr
  obtain ⟨h1, h2⟩ := hrows r hr
  have hfl := hok.flen
  refine ⟨by rw [rowR_len]; exact hfl, fun c hc => ?_, fun t ht => ?_⟩
  · simp only [madeD, asI, List.mem_map] at hc
    obtain ⟨p, hp, rfl⟩ := hc
    have := hok.lt p hp
    rw [rowR_len]; omega
  · unfold rowR at ht
    obtain ⟨g, hg, rfl⟩ := List.mem_map.1 ht
    obtain ⟨i, hi⟩ := List.getElem?_of_mem hg
    have hc := (soundB_cells hs (hok.first i g hi).1).1
    simp only [madeD, List.length_map]
    rw [List.getD_eq_getElem?_getD, List.getElem?_eq_getElem (by omega), Option.getD_some]
    exact h2 _ (List.getElem_mem _)
end
theorem LiveT.sub {n1 n2 : List (List Int)} {final : List Bool} (h : ∀ (q : Nat) row (t : Nat), n1[q]? = some row → (t : Int) ∈ row → ∃ row', n2[q]? = some row' ∧ (t : Int) ∈ row') {q : Nat} (hl : LiveT n1 final q) : LiveT n2 final q := by
  induction hl with
  | fin hf => exact .fin hf
  | step hr ht _ ih =>
    obtain ⟨row', h1, h2⟩ := h _ _ _ hr ht
    exact .step h1 h2 ih
theorem made_live {cells : List (BitVec 256)} {next : List (List Int)} {final : List Bool} (hs : soundB cells next final.length = true) (q : Nat) : LiveT (madeM cells next final).next final q ↔ LiveT (madeD cells next final).next final q := by
  have hok := atRun_ok cells 256
  have hM := madeM_ok hs
  have hc := fun b hb => (soundB_cells hs (b := b) hb).1
  have h2 := mRun_ok2 (next := next) (sp := fun b => spanS b b) hc 256 (Nat.le_refl _)
  constructor
  · refine LiveT.sub fun q rA t hr ht => ?_
    have hq : q < next.length := by have := (List.getElem?_eq_some_iff.1 hr).1; simpa [madeM] using this
    obtain ⟨row, hrow⟩ := get_some hq
    obtain ⟨p, hp⟩ := List.getElem?_of_mem ht
    have hrl := (hM.rows rA (List.mem_of_getElem? hr)).1
    have hpl : p < (mRun next cells (fun b => spanS b b) 256).cols.length := by
      have h3 := (List.getElem?_eq_some_iff.1 hp).1
      have ho := mRun_ok (next := next) (sp := fun b => spanS b b) hc 256 (Nat.le_refl _)
      rw [hrl] at h3
      rw [ho.len]; exact h3
    obtain ⟨b, hb, hcell⟩ := h2.some_ p hpl
    have e1 := madeM_step hs hrow hb
    obtain ⟨rA', p', g1, g2, g3⟩ := madeM_row hs hrow hb
    rw [hr] at g1; cases g1
    have : p' = p := by
      have : (madeM cells next final).cell[b]? = some p := hcell
      rw [this] at g2; exact (Option.some.inj g2).symm
    subst this
    rw [hp] at g3
    have e2 := madeD_step (cells := cells) (final := final) hrow hb
    obtain ⟨row', c, t', k1, k2, k3, _, _, _, k4⟩ := (madeD_ok hs).at (q := q) (b := b) (by simpa [madeD] using hq) hb
    rw [stepD_at k1 k2 k3] at e2
    refine ⟨row', k1, ?_⟩
    rw [Option.some.inj g3, ← e2]; exact k4
  · refine LiveT.sub fun q rD t hr ht => ?_
    have hq : q < next.length := by have := (List.getElem?_eq_some_iff.1 hr).1; simpa [madeD] using this
    obtain ⟨row, hrow⟩ := get_some hq
    have hrD : rD = rowR cells (atRun cells 256).1 row := by
      simp only [madeD] at hr
      rw [List.getElem?_map, hrow] at hr
      exact (Option.some.inj hr).symm
    subst hrD
    unfold rowR at ht
    obtain ⟨g, hg, hgt⟩ := List.mem_map.1 ht
    obtain ⟨i, hi⟩ := List.getElem?_of_mem hg
    have hg256 := (hok.first i g hi).1
    obtain ⟨rA, p, g1, g2, g3⟩ := madeM_row hs hrow hg256
    exact ⟨rA, g1, by rw [← hgt]; exact List.mem_of_getElem? g3⟩

/-! ### both -/
section
variable (cells : List (BitVec 256)) (next : List (List Int)) (final : List Bool)
theorem dfaOf_ok : (dfaOf cells next final).Ok := by
  unfold dfaOf
  split
  · rename_i h; exact madeD_ok h
  · refine ⟨by decide, by decide, rfl, by simp [noneD], fun row hr => ?_⟩
    simp only [noneD, List.mem_singleton] at hr
    subst hr
    refine ⟨by decide, fun c hc => ?_, fun t ht => ?_⟩
    · simp only [noneD] at hc
      rw [List.eq_of_mem_replicate hc]; decide
    · rw [List.mem_singleton.1 ht]; decide
theorem both_n : (stN (autoOf cells next final) : Nat) = (dfaOf cells next final).next.length := by
  unfold autoOf dfaOf
  split
  · simp [stN, madeM, madeD]
  · rfl
theorem both_step (q : Int) {b : Nat} (hb : b < 256) : stepM (autoOf cells next final) q b = stepD (dfaOf cells next final) q b := by
  have hn := both_n cells next final
  by_cases hq : q < 0 ∨ ((dfaOf cells next final).next.length : Int) ≤ q
  · unfold stepM stepD
    rw [if_pos hq, if_pos (by rw [hn]; exact hq)]
  · obtain ⟨n, rfl⟩ := Int.eq_ofNat_of_zero_le (show 0 ≤ q by omega)
    unfold autoOf dfaOf at *
    split
    · rename_i hs
      rw [if_pos hs] at hq
      obtain ⟨row, hrow⟩ := get_some (l := next) (k := n) (by simp only [madeD, List.length_map] at hq; omega)
      rw [madeM_step hs hrow hb, madeD_step (cells := cells) (final := final) hrow hb]
    · rename_i hs
      rw [if_neg hs] at hq
      have hn0 : n = 0 := by
        have : noneD.next.length = 1 := rfl
        omega
      subst hn0
      rw [stepD_at (row := [0]) (c := 0) (t := 0) rfl (by simp only [noneD]; rw [List.getElem?_replicate, if_pos hb]; rfl) rfl]
      rfl
theorem both_final (q : Int) : finM (autoOf cells next final) q = finD (dfaOf cells next final) q := by
  unfold autoOf dfaOf
  split
  · rfl
  · unfold finM finD
    by_cases h : q.toNat = 0
    · rw [h]; simp [noneD]
    · have : noneD.final[q.toNat]? = none := List.getElem?_eq_none (by show 1 ≤ _; omega)
      rw [this]; simp
theorem both_run (s : ByteArray) : ∀ k, runM (autoOf cells next final) s k = runD (dfaOf cells next final) s k := by
  intro k
  unfold runM runD
  generalize (0 : Int) = q0
  induction s.data.toList.take k generalizing q0 with
  | nil => rfl
  | cons b l ih =>
    simp only [List.foldl_cons]
    rw [both_step cells next final q0 (UInt8.toNat_lt b)]
    exact ih _
theorem both_accepts (s : ByteArray) : acceptsM (autoOf cells next final) s = acceptsD (dfaOf cells next final) s := by
  unfold acceptsM acceptsD
  rw [both_run, both_final]
open Classical in
theorem both_alive (q : Int) : aliveM (autoOf cells next final) q = aliveD (dfaOf cells next final) q := by
  unfold autoOf dfaOf
  split
  · rename_i hs
    unfold aliveM aliveD
    exact decide_eq_decide.2 (made_live hs q.toNat)
  · unfold aliveM aliveD
    have : ∀ q, ¬ LiveT noneD.next noneD.final q := fun q hl => by
      induction hl with
      | @fin q hf =>
        have : q < 1 := (List.getElem?_eq_some_iff.1 hf).1
        have : q = 0 := by omega
        subst this
        simp [noneD] at hf
      | step _ _ _ ih => exact ih
    exact (decide_eq_false (this _)).symm
theorem both_live (s : ByteArray) : liveM (autoOf cells next final) s = liveD (dfaOf cells next final) s := by
  unfold liveD
  have hf : (fun i => !aliveD (dfaOf cells next final) (runD (dfaOf cells next final) s (i + 1))) = fun i => !aliveM (autoOf cells next final) (runM (autoOf cells next final) s (i + 1)) := by
    funext i
    rw [both_run, both_alive]
  rw [hf, ← both_alive]
  unfold liveM
  cases h0 : aliveM (autoOf cells next final) 0 with
  | true =>
    simp only [if_true]
    cases (List.range s.size).find? fun i => !aliveM (autoOf cells next final) (runM (autoOf cells next final) s (i + 1)) <;> rfl
  | false =>
    simp only [Bool.false_eq_true, if_false]
    cases hfi : (List.range s.size).find? fun i => !aliveM (autoOf cells next final) (runM (autoOf cells next final) s (i + 1)) with
    | none => rfl
    | some i =>
      obtain ⟨h1, h2, h3⟩ := List.find?_range_eq_some.1 hfi
      simp only
      rcases Nat.eq_zero_or_pos i with hi | hi
      · omega
      · have h4 := h3 0 hi
        simp only [Bool.not_eq_true', Bool.not_false, Bool.not_not] at h4
        obtain ⟨b, hb⟩ := get_byte (s := s) (k := 0) (by simp at h2; omega)
        rw [runM_succ hb] at h4
        have hr0 : runM (autoOf cells next final) s 0 = 0 := rfl
        rw [hr0] at h4
        cases ho : autoOf cells next final with
        | none => rw [ho] at h4; simp [aliveM] at h4
        | some A =>
          have hok := autoOf_ok A ho
          rw [ho] at h4 h0
          have := alive_step hok (Int.le_refl 0) (by have := hok.n1; omega) (UInt8.toNat_lt b) (by simpa using h4)
          rw [this] at h0; cases h0
end

end Go.Proofs.Ytkgmhkcncemmkaa
