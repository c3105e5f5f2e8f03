/- Parts of the proof: PCel1, PCOk, PReps, PNode, PGr, PFst, PBu2, VSplit, PBu3, PShw1, PShw2, PShw3, PShw4, PShw5, PShw6, PNfa1, VMapI, PNfa2, VHeldG, PSort, VRange, VPush, PKeyS, PNfa3, PNfa4, PDet1, PNum, PTab0, VBook, PDet2, PDTb, PDBk, PDet3, PDet4, PDSt, PDet5, PDFi, PDAd, PDet6, PDet7, PAmbC, PCatI, PCel2, PBoth, PGam0, PMeg, PDDt, PAtEq, PDLw -/
import Derived.Test.YthomdogheamfpaaDoorKN3
import Derived.Test.YthomdogheamfpaaDoorKN2
import Derived.Sort.OwnSortedInts
import Derived.Shelf.Sort.Plain
import Derived.Shelf.Slices.In.SortNone
import Derived.TacticsIn
import Derived.RangeFuncRecord
import Derived.Test.YthomdogheamfpaaDoorKN1
/- The coarsest parting by the automaton alone: the plain run. -/
set_option linter.unusedVariables false
set_option linter.unusedSimpArgs false
set_option maxRecDepth 100000
namespace Go.Proofs.YthomdogheamfpaaDoor
open Go.VC

/-- The least bytes of the parts so far, the place of each byte so far. -/
def gRun (sim : Nat → Nat → Bool) : Nat → List Nat × List Nat
  | 0 => ([], [])
  | b + 1 => match (gRun sim b).1.findIdx? fun g => sim b g with
    | some k => ((gRun sim b).1, (gRun sim b).2 ++ [k])
    | none => ((gRun sim b).1 ++ [b], (gRun sim b).2 ++ [(gRun sim b).1.length])
structure GrOk (sim : Nat → Nat → Bool) (b : Nat) (f ps : List Nat) : Prop where
  plen : ps.length = b
  flen : f.length ≤ b
  lt : ∀ p ∈ ps, p < f.length
  first : ∀ (k g : Nat), f[k]? = some g → g < b ∧ ps[g]? = some k
  sig : ∀ (i p g : Nat), ps[i]? = some p → f[p]? = some g → sim i g = true ∧ g ≤ i
theorem gRun_ok {sim : Nat → Nat → Bool} (hr : ∀ a, sim a a = true) : ∀ b, GrOk sim b (gRun sim b).1 (gRun sim b).2
  | 0 => ⟨rfl, Nat.le_refl _, (fun p h => by cases h), (fun k g h => by cases h), (fun i p g h => by cases h)⟩
  | b + 1 => by
    have ih := gRun_ok hr b
    unfold gRun
    split
    · rename_i k hk
      rw [List.findIdx?_eq_some_iff_getElem] at hk
      obtain ⟨hlt, hsig, _⟩ := hk
      refine ⟨by simp [ih.plen], by have := ih.flen; simp only; omega, fun p hp => ?_, fun k' g hg => ?_, fun i p g hi hg => ?_⟩
      · rcases List.mem_append.1 hp with h | h
        · exact ih.lt p h
        · rw [List.mem_singleton] at h; subst h; exact hlt
      · obtain ⟨h1, h2⟩ := ih.first k' g hg
        exact ⟨by omega, by simp only; rw [List.getElem?_append_left (by rw [ih.plen]; exact h1)]; exact h2⟩
      · simp only at hi hg
        by_cases hib : i < b
        · rw [List.getElem?_append_left (by rw [ih.plen]; exact hib)] at hi
          exact ih.sig i p g hi hg
        · rw [List.getElem?_append_right (by rw [ih.plen]; omega), ih.plen] at hi
          have hi0 : i - b = 0 := by
            have := (List.getElem?_eq_some_iff.1 hi).1
            simp only [List.length_singleton] at this
            omega
          rw [hi0, List.getElem?_cons_zero] at hi
          cases hi
          rw [List.getElem?_eq_getElem hlt] at hg
          cases hg
          have hib' : i = b := by omega
          subst hib'
          exact ⟨hsig, by have := (ih.first _ _ (List.getElem?_eq_getElem hlt)).1; omega⟩
    · rename_i hk
      refine ⟨by simp [ih.plen], by have := ih.flen; simp; omega, fun p hp => ?_, fun k' g hg => ?_, fun i p g hi hg => ?_⟩
      · simp only [List.length_append, List.length_singleton]
        rcases List.mem_append.1 hp with h | h
        · have := ih.lt p h; omega
        · rw [List.mem_singleton] at h; subst h; omega
      · simp only at hg ⊢
        by_cases hkl : k' < (gRun sim b).1.length
        · rw [List.getElem?_append_left hkl] at hg
          obtain ⟨h1, h2⟩ := ih.first k' g hg
          exact ⟨by omega, by rw [List.getElem?_append_left (by rw [ih.plen]; exact h1)]; exact h2⟩
        · rw [List.getElem?_append_right (by omega)] at hg
          have h0 := (List.getElem?_eq_some_iff.1 hg).1
          simp only [List.length_singleton] at h0
          rw [show k' - (gRun sim b).1.length = 0 by omega, List.getElem?_cons_zero] at hg
          cases hg
          exact ⟨by omega, by rw [List.getElem?_append_right (by rw [ih.plen]; omega), ih.plen, Nat.sub_self, List.getElem?_cons_zero]; congr 1; omega⟩
      · simp only at hi hg
        by_cases hib : i < b
        · rw [List.getElem?_append_left (by rw [ih.plen]; exact hib)] at hi
          have hp := ih.lt p (List.mem_of_getElem? hi)
          rw [List.getElem?_append_left hp] at hg
          exact ih.sig i p g hi hg
        · rw [List.getElem?_append_right (by rw [ih.plen]; omega), ih.plen] at hi
          have hi0 : i - b = 0 := by
            have := (List.getElem?_eq_some_iff.1 hi).1
            simp only [List.length_singleton] at this
            omega
          rw [hi0, List.getElem?_cons_zero] at hi
          cases hi
          rw [List.getElem?_append_right (Nat.le_refl _), Nat.sub_self, List.getElem?_cons_zero] at hg
          cases hg
          have hib' : i = b := by omega
          subst hib'
          exact ⟨hr _, Nat.le_refl _⟩


theorem gRun_some {sim : Nat → Nat → Bool} {b k : Nat} (h : (gRun sim b).1.findIdx? (fun g => sim b g) = some k) : gRun sim (b + 1) = ((gRun sim b).1, (gRun sim b).2 ++ [k]) := by
  rw [gRun, h]
theorem gRun_none {sim : Nat → Nat → Bool} {b : Nat} (h : (gRun sim b).1.findIdx? (fun g => sim b g) = none) : gRun sim (b + 1) = ((gRun sim b).1 ++ [b], (gRun sim b).2 ++ [(gRun sim b).1.length]) := by
  rw [gRun, h]

/-! ### the same run as merge's -/
/-- What merge's sets hold. -/
theorem mRun_sets {next : List (List Int)} {cells : List (BitVec 256)} (hc : ∀ b, b < 256 → cellOf cells b < cells.length) : ∀ b, b ≤ 256 → ∀ (k : Nat) (x : BitVec 256), (mRun next cells (fun b => spanS b b) b).sets[k]? = some x → ∀ i, i < 256 → x.getLsbD i = atSet (mRun next cells (fun b => spanS b b) b).cell k i
  | 0, _ => fun k x h => by simp [mRun] at h
  | b + 1, hb => fun k x h i hi => by
    have ih := mRun_sets (next := next) hc b (by omega)
    have ho := mRun_ok (next := next) (sp := fun b => spanS b b) hc b (by omega)
    generalize hm : mRun next cells (fun b => spanS b b) b = st at *
    rw [mRun, hm] at h ⊢
    unfold mStep at h ⊢
    simp only at h ⊢
    generalize hr : mNew next st.cols st.sets (cellOf cells b) = r at *
    have hnew := mNew_ok (next := next) (f := cellOf cells b) ho.len ho.le ho.cols (hc b (by omega))
    rw [hr] at hnew
    have hp : r.2.2 < r.2.1.length := by omega
    -- the sets before the byte is put in
    have hold : ∀ (k : Nat) (y : BitVec 256), r.2.1[k]? = some y → y.getLsbD i = atSet st.cell k i := by
      intro k y hy
      unfold mNew at hr
      cases hf : mFind next st.cols (cellOf cells b) with
      | some j =>
        rw [hf] at hr
        subst hr
        exact ih k y hy i hi
      | none =>
        rw [hf] at hr
        subst hr
        simp only at hy
        by_cases hk : k < st.sets.length
        · rw [List.getElem?_append_left hk] at hy
          exact ih k y hy i hi
        · rw [List.getElem?_append_right (by omega)] at hy
          have h0 := (List.getElem?_eq_some_iff.1 hy).1
          simp only [List.length_singleton] at h0
          rw [show k - st.sets.length = 0 by omega, List.getElem?_cons_zero] at hy
          cases hy
          have : atSet st.cell k i = false := by
            unfold atSet
            cases hc' : st.cell[i]? with
            | none => rfl
            | some p =>
              have := ho.places p (List.mem_of_getElem? hc')
              have := ho.len
              simp; omega
          rw [this]; simp
    have hat : ∀ k, atSet (st.cell ++ [r.2.2]) k i = ((decide (i = b) && decide (k = r.2.2)) || atSet st.cell k i) := by
      intro k
      unfold atSet
      have hcl := ho.cell
      rcases Nat.lt_trichotomy i b with h | h | h
      · rw [List.getElem?_append_left (by omega), decide_eq_false (by omega)]; simp
      · subst h
        rw [List.getElem?_append_right (by omega), hcl, Nat.sub_self, List.getElem?_cons_zero, List.getElem?_eq_none (by omega)]
        by_cases hk : k = r.2.2 <;> simp [hk]
        exact fun h => hk h.symm
      · rw [List.getElem?_eq_none (by simp; omega), List.getElem?_eq_none (by omega), decide_eq_false (by omega)]; simp
    rw [hat]
    by_cases hk : k = r.2.2
    · subst hk
      rw [List.getElem?_set_self hp] at h
      cases h
      rw [BitVec.getLsbD_or, List.getD_eq_getElem?_getD, List.getElem?_eq_getElem hp, Option.getD_some, hold _ _ (List.getElem?_eq_getElem hp), spanS_bit b b i hi]
      have : (decide (b ≤ i) && decide (i ≤ b)) = decide (i = b) := by
        by_cases h : i = b
        · subst h; simp
        · rw [decide_eq_false h]
          rcases Nat.lt_or_ge i b with h1 | h1
          · rw [decide_eq_false (by omega)]; rfl
          · rw [decide_eq_false (show ¬ i ≤ b by omega)]; simp
      rw [this]
      simp [Bool.or_comm]
    · rw [List.getElem?_set_ne (Ne.symm hk)] at h
      rw [decide_eq_false hk, hold k x h]; simp
def simT (next : List (List Int)) (cells : List (BitVec 256)) (b g : Nat) : Bool := next.all fun row => row.getD (cellOf cells b) 0 == row.getD (cellOf cells g) 0
theorem alike_sim {cells : List (BitVec 256)} {next : List (List Int)} {fl : Nat} (hs : soundB cells next fl = true) {b g : Nat} (hb : b < 256) (hg : g < 256) : alikeB next (cellOf cells g) (cellOf cells b) = simT next cells b g := by
  obtain ⟨_, _, _, hrows⟩ := soundB_rows hs
  have h1 := (soundB_cells hs hb).1
  have h2 := (soundB_cells hs hg).1
  have key : ∀ row ∈ next, (row[cellOf cells g]? == row[cellOf cells b]?) = (row.getD (cellOf cells b) 0 == row.getD (cellOf cells g) 0) := by
    intro row hr
    have hl := (hrows row hr).1
    rw [List.getD_eq_getElem?_getD, List.getD_eq_getElem?_getD, List.getElem?_eq_getElem (by omega), List.getElem?_eq_getElem (by omega)]
    simp only [Option.getD_some]
    rw [Bool.eq_iff_iff]
    simp only [beq_iff_eq, Option.some.injEq]
    exact eq_comm
  unfold alikeB simT
  have hall : (next.all fun row => row[cellOf cells g]? == row[cellOf cells b]?) = next.all fun row => row.getD (cellOf cells b) 0 == row.getD (cellOf cells g) 0 := by
    rw [Bool.eq_iff_iff, List.all_eq_true, List.all_eq_true]
    constructor
    · intro h row hr; rw [← key row hr]; exact h row hr
    · intro h row hr; rw [key row hr]; exact h row hr
  rw [hall]
  by_cases he : cellOf cells g = cellOf cells b
  · rw [he]; simp
  · have : (cellOf cells g == cellOf cells b) = false := by simpa using he
    rw [this]; rfl
theorem simT_refl (next : List (List Int)) (cells : List (BitVec 256)) (a : Nat) : simT next cells a a = true := by simp [simT]
theorem findIdx_map {α β : Type} (f : α → β) (p : β → Bool) : ∀ l : List α, (l.map f).findIdx? p = l.findIdx? fun a => p (f a)
  | [] => rfl
  | a :: l => by
    rw [List.map_cons, List.findIdx?_cons, List.findIdx?_cons, findIdx_map f p l]
theorem findIdx_congr {α : Type} {p q : α → Bool} : ∀ {l : List α}, (∀ a ∈ l, p a = q a) → l.findIdx? p = l.findIdx? q
  | [], _ => rfl
  | a :: l, h => by
    rw [List.findIdx?_cons, List.findIdx?_cons, h a List.mem_cons_self, findIdx_congr fun x hx => h x (List.mem_cons_of_mem _ hx)]
theorem mRun_g {cells : List (BitVec 256)} {next : List (List Int)} {fl : Nat} (hs : soundB cells next fl = true) {sp : Nat → BitVec 256} : ∀ b, b ≤ 256 → (mRun next cells sp b).cols = (gRun (simT next cells) b).1.map (cellOf cells) ∧ (mRun next cells sp b).cell = (gRun (simT next cells) b).2
  | 0, _ => by simp [mRun, gRun]
  | b + 1, hb => by
    obtain ⟨h1, h2⟩ := mRun_g hs (sp := sp) b (by omega)
    have hok := gRun_ok (simT_refl next cells) b
    have hf : mFind next (mRun next cells sp b).cols (cellOf cells b) = (gRun (simT next cells) b).1.findIdx? fun g => simT next cells b g := by
      unfold mFind
      rw [h1, findIdx_map]
      exact findIdx_congr fun g hg => by
        obtain ⟨k, hk⟩ := List.getElem?_of_mem hg
        exact alike_sim hs (by omega) (by have := (hok.first k g hk).1; omega)
    unfold mRun mStep mNew
    rw [hf]
    cases hfi : (gRun (simT next cells) b).1.findIdx? fun g => simT next cells b g with
    | some k =>
      rw [gRun_some hfi]
      simp only
      exact ⟨h1, by rw [h2]⟩
    | none =>
      rw [gRun_none hfi]
      simp only
      exact ⟨by rw [h1, List.map_append]; rfl, by rw [h2, h1, List.length_map]⟩
attribute [local irreducible] mRun gRun
/-- What dfa.Cells tells of a table's automaton, by bytes. -/
theorem sets_of_g {cells : List (BitVec 256)} {next : List (List Int)} {final : List Bool} (hs : soundB cells next final.length = true) : (madeM cells next final).sets.length = (gRun (simT next cells) 256).1.length ∧
    ∀ (k : Nat) (x : BitVec 256), (madeM cells next final).sets[k]? = some x → ∀ i, i < 256 → x.getLsbD i = atSet (gRun (simT next cells) 256).2 k i := by
  have hc := fun b hb => (soundB_cells hs (b := b) hb).1
  obtain ⟨h1, h2⟩ := mRun_g hs (sp := fun b => spanS b b) 256 (Nat.le_refl _)
  have ho := mRun_ok (next := next) (sp := fun b => spanS b b) hc 256 (Nat.le_refl _)
  refine ⟨?_, fun k x hx i hi => ?_⟩
  · simp only [madeM]
    rw [← ho.len, h1, List.length_map]
  · rw [← h2]
    exact mRun_sets (next := next) hc 256 (Nat.le_refl _) k x hx i hi

end Go.Proofs.YthomdogheamfpaaDoor
/- The cells of a made automaton: a parting of the bytes, in the order of their least ones, that every step keeps to. -/
set_option linter.unusedVariables false
set_option linter.unusedSimpArgs false
set_option maxRecDepth 100000
namespace Go.Proofs.YthomdogheamfpaaDoor
open Go.VC
attribute [local irreducible] mRun gRun

structure CellsOk (o : Option AM) (ls : List Nat) : Prop where
  len : ls.length = (cellsM o).length
  up : ls.Pairwise (· < ·)
  least : ∀ (k : Nat) (c : BitVec 256), (cellsM o)[k]? = some c → ∃ l, ls[k]? = some l ∧ l < 256 ∧ (nextM c 0).1 = l ∧ c.getLsbD l = true
  keeps : ∀ (k : Nat) (c : BitVec 256) (l b : Nat), (cellsM o)[k]? = some c → ls[k]? = some l → b < 256 → c.getLsbD b = true → l ≤ b ∧ ∀ q : Int, 0 ≤ q → q < stN o → stepM o q b = stepM o q l
  cols : ∀ A, o = some A → ∀ k, k < A.sets.length → ∃ b, b < 256 ∧ A.cell[b]? = some k
  part : ∀ b, b < 256 → ∃ (k : Nat) (c : BitVec 256), (cellsM o)[k]? = some c ∧ c.getLsbD b = true ∧ ∀ (k' : Nat) (c' : BitVec 256), (cellsM o)[k']? = some c' → c'.getLsbD b = true → k' = k

theorem gRun_up {sim : Nat → Nat → Bool} (hr : ∀ a, sim a a = true) : ∀ b, (gRun sim b).1.Pairwise (· < ·)
  | 0 => by rw [gRun]; exact List.Pairwise.nil
  | b + 1 => by
    have ih := gRun_up hr b
    cases hf : (gRun sim b).1.findIdx? (fun g => sim b g) with
    | some k => rw [gRun_some hf]; exact ih
    | none =>
      rw [gRun_none hf]
      refine List.pairwise_append.2 ⟨ih, List.pairwise_singleton _ _, fun a ha c hc => ?_⟩
      rw [List.mem_singleton] at hc
      subst hc
      obtain ⟨k, hk⟩ := List.getElem?_of_mem ha
      exact ((gRun_ok hr c).first k a hk).1
theorem nextM_eq {c : BitVec 256} {l : Nat} (hl : l < 256) (h1 : c.getLsbD l = true) (h2 : ∀ b, b < l → c.getLsbD b = false) : (nextM c 0).1 = l := by
  have hf : ((List.range 256).find? fun b => decide (0 ≤ b) && c.getLsbD b) = some l := by
    rw [List.find?_range_eq_some]
    exact ⟨by simp [h1], by simpa using hl, fun j hj => by simp [h2 j hj]⟩
  unfold nextM
  rw [hf]
theorem cells_ok (cells : List (BitVec 256)) (next : List (List Int)) (final : List Bool) : ∃ ls, CellsOk (autoOf cells next final) ls := by
  unfold autoOf
  cases hs : soundB cells next final.length with
  | false =>
    refine ⟨[0], rfl, List.pairwise_singleton _ _, fun k c hc => ?_, fun k c l b hc hl hb hcb => ?_, fun A hb => ?_, fun b hb => ?_⟩
    · have hk : k = 0 := by have := (List.getElem?_eq_some_iff.1 hc).1; simpa [cellsM] using this
      subst hk
      have : c = BitVec.allOnes 256 := by simpa [cellsM] using hc.symm
      subst this
      exact ⟨0, rfl, by decide, nextM_eq (by decide) (by decide) (fun b hb => by omega), by decide⟩
    · have hk : k = 0 := by have := (List.getElem?_eq_some_iff.1 hc).1; simpa [cellsM] using this
      subst hk
      have : l = 0 := by simpa using hl.symm
      subst this
      refine ⟨Nat.zero_le _, fun q h0 h1 => ?_⟩
      simp only [Bool.false_eq_true, if_false] at h1 ⊢
      simp only [stN] at h1
      obtain rfl : q = 0 := by omega
      rfl
    · cases hb
    · refine ⟨0, BitVec.allOnes 256, rfl, ?_, fun k' c' h _ => ?_⟩
      · rw [BitVec.getLsbD_allOnes]; simp [hb]
      · have := (List.getElem?_eq_some_iff.1 h).1
        simpa [cellsM] using this
  | true =>
    simp only [if_true]
    obtain ⟨h1, h2⟩ := sets_of_g hs
    have hg := gRun_ok (simT_refl next cells) 256
    refine ⟨(gRun (simT next cells) 256).1, h1.symm, gRun_up (simT_refl next cells) 256, fun k c hc => ?_, fun k c l b hc hl hb hcb => ?_, fun A hA k hk => ?_, fun b hb => ?_⟩
    · have hk : k < (gRun (simT next cells) 256).1.length := by rw [← h1]; exact (List.getElem?_eq_some_iff.1 hc).1
      obtain ⟨g, hgk⟩ := get_some hk
      obtain ⟨g1, g2⟩ := hg.first k g hgk
      have hbit := h2 k c hc
      refine ⟨g, hgk, g1, nextM_eq g1 (by rw [hbit g g1]; simp [atSet, g2]) (fun b hb => ?_), by rw [hbit g g1]; simp [atSet, g2]⟩
      rw [hbit b (by omega)]
      unfold atSet
      rw [beq_eq_false_iff_ne]
      intro hp
      have := (hg.sig b k g hp hgk).2
      omega
    · rw [h2 k c hc b hb] at hcb
      have hp : (gRun (simT next cells) 256).2[b]? = some k := by simpa [atSet] using hcb
      obtain ⟨s1, s2⟩ := hg.sig b k l hp hl
      refine ⟨s2, fun q q0 q1 => ?_⟩
      obtain ⟨n, rfl⟩ := Int.eq_ofNat_of_zero_le q0
      have hl256 := (hg.first k l hl).1
      have hq : n < next.length := by simp only [stN, madeM, List.length_map] at q1; omega
      obtain ⟨row, hrow⟩ := get_some hq
      rw [madeM_step hs hrow hb, madeM_step hs hrow hl256]
      unfold simT at s1
      have := List.all_eq_true.1 s1 row (List.mem_of_getElem? hrow)
      simpa using this
    · cases hA
      obtain ⟨g, hgk⟩ := get_some (l := (gRun (simT next cells) 256).1) (k := k) (by rw [← h1]; exact hk)
      obtain ⟨g1, g2⟩ := hg.first k g hgk
      refine ⟨g, g1, ?_⟩
      have hm := (mRun_g hs (sp := fun b => spanS b b) 256 (Nat.le_refl _)).2
      simp only [madeM]
      rw [hm]; exact g2
    · obtain ⟨p, hp⟩ := get_some (l := (gRun (simT next cells) 256).2) (k := b) (by rw [hg.plen]; exact hb)
      have hpl := hg.lt p (List.mem_of_getElem? hp)
      obtain ⟨c, hc⟩ := get_some (l := (madeM cells next final).sets) (k := p) (by rw [h1]; exact hpl)
      refine ⟨p, c, hc, by rw [h2 p c hc b hb]; simp [atSet, hp], fun k' c' hc' hb' => ?_⟩
      rw [h2 k' c' hc' b hb] at hb'
      have : (gRun (simT next cells) 256).2[b]? = some k' := by simpa [atSet] using hb'
      rw [hp] at this
      exact (Option.some.inj this).symm
end Go.Proofs.YthomdogheamfpaaDoor
/- ambig.reps: the walk. -/
set_option linter.unusedVariables false
set_option linter.unusedSimpArgs false
set_option maxRecDepth 100000
namespace Go.VC
section
variable {α : Type} {T : Ty α} {e : TypeId} {a : Option Addr} {n cap : Nat} {xs : List α} {B : Nat → Prop} {H0 H : Heap} {ps : List Pc}
/-- One own slice appended to another. -/
theorem appSS {P : Program} {t ty by_ : Nat} {z : Value} {a2 : Option Addr} {n2 cap2 : Nat} {e2 : TypeId} {ys : List α} {K : Value → Heap → Prop} (st : StB B H0 H ps) (i j : Nat) (ht : SlT P t e T.size by_ z) (hp : ps[i]? = some (pS T e a n cap xs)) (hq : ps[j]? = some (pS T e2 a2 n2 cap2 ys))
    (hne : 0 < ys.length) (h1 : T.Ones) (h63 : xs.length + ys.length ≤ 4194304) (hby : by_ ≤ 1024)
    (k : ∀ a' cap' H', StB B H0 H' (ps.set i (pS T e a' (xs.length + ys.length) cap' (xs ++ ys))) → Agr (fun k => k < H.size ∧ ¬ slB (.slice a n cap) k) H H' → K (.slice a' (xs.length + ys.length) cap') H') :
    VEff P (Builtin.append_ #[t, t] ty [.slice a n cap, .slice a2 n2 cap2].toArray) H K := by
  obtain ⟨cs, ⟨h0, h2⟩, h3⟩ := (st.at_ j hq).1
  have hn2 := st.len j hq
  rcases h2 with ⟨h2, h4⟩ | ⟨b, c, l, h2, h4, h5, h6, h7, h8, h9⟩
  · omega
  · injection h2 with g1 g2 g3
    subst g1; subst g3
    refine appO st i ht hp (q := b) (o := 0) (ds := cs) (h5.cells fun j v hv => ?_) h3 hn2 (h1.reps h3) h63 hby k
    rw [← h9] at hv
    rw [Nat.zero_add]
    rw [List.getElem?_take] at hv
    split at hv
    · exact hv
    · cases hv
end
end Go.VC
namespace Go.Proofs.YthomdogheamfpaaDoor
open Go.VC
attribute [local irreducible] mRun gRun atRun
theorem cells_pos {o : Option AM} {ls : List Nat} (h : CellsOk o ls) : 0 < (cellsM o).length := by
  obtain ⟨k, c, hk, -⟩ := h.part 0 (by decide)
  exact Nat.lt_of_le_of_lt (Nat.zero_le k) (List.getElem?_eq_some_iff.1 hk).1
theorem cells_le {S : Nat → Prop} {H : Heap} {v : Value} {o : Option AM} (h : AutoV S H v o) : (cellsM o).length ≤ 256 := by
  cases o with
  | none => decide
  | some A => obtain ⟨_, _, _, hok, _⟩ := h; exact hok.sl
end Go.Proofs.YthomdogheamfpaaDoor
/- The nodes of ambig's graph: as keys of maps, in memory. -/
set_option linter.unusedVariables false
set_option linter.unusedSimpArgs false
set_option maxRecDepth 100000
namespace Go.Proofs.YthomdogheamfpaaDoor
open Go.VC

/-- A node: its stage, where its readers are. -/
structure Nd where
  s : Int
  x : Int
  y : Int
deriving DecidableEq
def Nd.Ok (n : Nd) : Prop := inK .i64 n.s ∧ inK .i64 n.x ∧ inK .i64 n.y
end Go.Proofs.YthomdogheamfpaaDoor
/- Graphs of nodes with ends: the least word that leads to an end; plain law. -/
set_option linter.unusedVariables false
set_option linter.unusedSimpArgs false
namespace Go.Proofs.YthomdogheamfpaaDoor

structure Gr where
  next : Nd → Nat → List Nd
  ends : Nd → Bool
/-- The word w leads from n to an end. -/
def Leads (g : Gr) : List Nat → Nd → Prop
  | [], n => g.ends n = true
  | b :: w, n => ∃ t, t ∈ g.next n b ∧ Leads g w t
/-- .. from some node of P. -/
def LeadsP (g : Gr) (P : Nd → Prop) (w : List Nat) : Prop := ∃ n, P n ∧ Leads g w n
/-- Words of one length: no later in order. -/
def lexL : List Nat → List Nat → Prop
  | a :: s, b :: t => a < b ∨ (a = b ∧ lexL s t)
  | _, _ => True
theorem lexL_anti : ∀ {s t : List Nat}, s.length = t.length → lexL s t → lexL t s → s = t
  | [], [], _, _, _ => rfl
  | [], _ :: _, h, _, _ => by simp at h
  | _ :: _, [], h, _, _ => by simp at h
  | a :: s, b :: t, h, h1, h2 => by
    simp only [List.length_cons, Nat.add_right_cancel_iff] at h
    rcases h1 with h1 | ⟨h1, h3⟩ <;> rcases h2 with h2 | ⟨h2, h4⟩
    · omega
    · omega
    · omega
    · rw [h1, lexL_anti h h3 h4]
def bytes_ (w : List Nat) : Prop := ∀ b ∈ w, b < 256
/-- Of the words of k bytes that lead from P to an end w is the first. -/
def FirstOf (g : Gr) (P : Nd → Prop) (k : Nat) (w : List Nat) : Prop := w.length = k ∧ bytes_ w ∧ LeadsP g P w ∧ ∀ u, u.length = k → bytes_ u → LeadsP g P u → lexL w u
/-- The first word of all: the shortest ones come first. -/
def FirstW (g : Gr) (P : Nd → Prop) (w : List Nat) : Prop := FirstOf g P w.length w ∧ ∀ u, bytes_ u → LeadsP g P u → w.length ≤ u.length
theorem FirstW.uniq {g : Gr} {P : Nd → Prop} {w v : List Nat} (h : FirstW g P w) (k : FirstW g P v) : w = v := by
  obtain ⟨⟨h1, h2, h3, h4⟩, h5⟩ := h
  obtain ⟨⟨k1, k2, k3, k4⟩, k5⟩ := k
  have e : w.length = v.length := Nat.le_antisymm (h5 v k2 k3) (k5 w h2 h3)
  exact lexL_anti e (h4 v e.symm k2 k3) (k4 w e h2 h3)
/-- Where bytes step as the least ones of their kind do, words over these tell all. -/
theorem leads_reps {g : Gr} {by_ : List Nat} (hby : ∀ c, c < 256 → ∃ r ∈ by_, r ≤ c ∧ ∀ n, g.next n r = g.next n c) : ∀ {w : List Nat} {n : Nd}, bytes_ w → Leads g w n → ∃ v, v.length = w.length ∧ (∀ b ∈ v, b ∈ by_) ∧ Leads g v n
  | [], n, _, h => ⟨[], rfl, (fun b hb => by cases hb), h⟩
  | c :: w, n, hb, ⟨t, ht, hw⟩ => by
    obtain ⟨v, h1, h2, h3⟩ := leads_reps hby (fun d hd => hb d (List.mem_cons_of_mem _ hd)) hw
    obtain ⟨r, hr, -, hs⟩ := hby c (hb c List.mem_cons_self)
    exact ⟨r :: v, by simp [h1], fun d hd => by
      rcases List.mem_cons.1 hd with rfl | hd
      · exact hr
      · exact h2 d hd, t, by rw [hs]; exact ht, h3⟩
end Go.Proofs.YthomdogheamfpaaDoor

/- Graphs of nodes: how far it is to an end; plain law. -/
set_option linter.unusedVariables false
set_option linter.unusedSimpArgs false
namespace Go.Proofs.YthomdogheamfpaaDoor

/-- What can be reached from a by the bytes of by_. -/
inductive Reach (g : Gr) (by_ : List Nat) (a : Nd) : Nd → Prop
  | refl : Reach g by_ a a
  | step {n t : Nd} {b : Nat} (h : Reach g by_ a n) (hb : b ∈ by_) (ht : t ∈ g.next n b) : Reach g by_ a t
/-- The distances to an end, of all that can be reached. -/
structure DistOk (g : Gr) (by_ : List Nat) (a : Nd) (left : Nd → Option Nat) : Prop where
  ends : ∀ n, Reach g by_ a n → g.ends n = true → left n = some 0
  pred : ∀ n k, left n = some k → ∀ p b, Reach g by_ a p → b ∈ by_ → n ∈ g.next p b → ∃ j, j ≤ k + 1 ∧ left p = some j
  word : ∀ n k, left n = some k → Reach g by_ a n ∧ ∃ w, w.length = k ∧ (∀ b ∈ w, b ∈ by_) ∧ Leads g w n
section
variable {g : Gr} {by_ : List Nat} {a : Nd} {left : Nd → Option Nat}
variable (hby : ∀ c, c < 256 → ∃ r ∈ by_, r ≤ c ∧ ∀ n, g.next n r = g.next n c)
include hby
end
end Go.Proofs.YthomdogheamfpaaDoor

/- Distances to an end by a queue, from the ends back; plain law. -/
set_option linter.unusedVariables false
set_option linter.unusedSimpArgs false
namespace Go.Proofs.YthomdogheamfpaaDoor
open Go.VC
/-- What leads to n. -/
def PredsOk (g : Gr) (by_ : List Nat) (a n : Nd) (left : Nd → Option Nat) (k : Nat) : Prop := ∀ p b, Reach g by_ a p → b ∈ by_ → n ∈ g.next p b → ∃ j, j ≤ k + 1 ∧ left p = some j
/-- The queue, no element out; k is the least distance that it may still hold. -/
structure BInv (g : Gr) (by_ : List Nat) (a : Nd) (left : Nd → Option Nat) (todo : List Nd) (k : Nat) : Prop where
  ends : ∀ n, Reach g by_ a n → g.ends n = true → left n = some 0
  word : ∀ n j, left n = some j → Reach g by_ a n ∧ ∃ w, w.length = j ∧ (∀ b ∈ w, b ∈ by_) ∧ Leads g w n
  q : ∀ n ∈ todo, ∃ j, left n = some j ∧ k ≤ j
  up : ∀ n j, left n = some j → j ≤ k + 1
  sorted : todo.Pairwise fun n p => ∀ i j, left n = some i → left p = some j → i ≤ j
  done : ∀ n j, left n = some j → n ∉ todo → PredsOk g by_ a n left j
/-- .. element n, at distance k, is out; those that lead to it are gone through: what holds of d is done. -/
structure BMid (g : Gr) (by_ : List Nat) (a : Nd) (left : Nd → Option Nat) (todo : List Nd) (n : Nd) (k : Nat) (d : Nd → Prop) : Prop where
  ends : ∀ n, Reach g by_ a n → g.ends n = true → left n = some 0
  word : ∀ n j, left n = some j → Reach g by_ a n ∧ ∃ w, w.length = j ∧ (∀ b ∈ w, b ∈ by_) ∧ Leads g w n
  here : left n = some k
  q : ∀ n ∈ todo, ∃ j, left n = some j ∧ k ≤ j
  up : ∀ n j, left n = some j → j ≤ k + 1
  sorted : todo.Pairwise fun n p => ∀ i j, left n = some i → left p = some j → i ≤ j
  done : ∀ m j, left m = some j → m ∉ todo → m ≠ n → PredsOk g by_ a m left j
  now : ∀ p, d p → ∃ j, j ≤ k + 1 ∧ left p = some j
section
variable {g : Gr} {by_ : List Nat} {a n p : Nd} {left : Nd → Option Nat} {todo : List Nd} {k : Nat} {d : Nd → Prop}
end
end Go.Proofs.YthomdogheamfpaaDoor

/- All that can be reached, in the order in which it is found, and what leads to it; plain law. -/
set_option linter.unusedVariables false
set_option linter.unusedSimpArgs false
namespace Go.Proofs.YthomdogheamfpaaDoor
/-- The nodes found so far; bk t p: p is listed as one that leads to t; what holds of d has been gone through. -/
structure RInv (g : Gr) (by_ : List Nat) (a : Nd) (order : List Nd) (bk : Nd → Nd → Prop) (d : Nd → Nat → Nd → Prop) : Prop where
  first : order[0]? = some a
  nodup : order.Nodup
  reach : ∀ n ∈ order, Reach g by_ a n
  back : ∀ t p, bk t p → Reach g by_ a p ∧ ∃ b, b ∈ by_ ∧ t ∈ g.next p b
  done : ∀ n b t, d n b t → t ∈ order ∧ bk t n
section
variable {g : Gr} {by_ : List Nat} {a n t : Nd} {b : Nat} {order : List Nd} {bk bk' : Nd → Nd → Prop} {d : Nd → Nat → Nd → Prop}
end
end Go.Proofs.YthomdogheamfpaaDoor

/- Rows of nodes, each with the least word of one length that leads to it; plain law. -/
set_option linter.unusedVariables false
set_option linter.unusedSimpArgs false
namespace Go.Proofs.YthomdogheamfpaaDoor

/-! ### the order -/
theorem lexL_refl : ∀ u : List Nat, lexL u u
  | [] => by unfold lexL; trivial
  | a :: u => by unfold lexL; exact .inr ⟨rfl, lexL_refl u⟩
theorem lexL_trans : ∀ {u v w : List Nat}, u.length = v.length → v.length = w.length → lexL u v → lexL v w → lexL u w
  | [], _, _, _, _, _, _ => by unfold lexL; trivial
  | a :: u, [], _, h, _, _, _ => by simp at h
  | a :: u, b :: v, [], _, h, _, _ => by simp at h
  | a :: u, b :: v, c :: w, h1, h2, h3, h4 => by
    simp only [List.length_cons, Nat.add_right_cancel_iff] at h1 h2
    unfold lexL at h3 h4 ⊢
    rcases h3 with h3 | ⟨rfl, h3⟩ <;> rcases h4 with h4 | ⟨rfl, h4⟩
    · exact .inl (Nat.lt_trans h3 h4)
    · exact .inl h3
    · exact .inl h4
    · exact .inr ⟨rfl, lexL_trans h1 h2 h3 h4⟩
theorem lexL_snoc : ∀ {u v : List Nat} (b : Nat), u.length = v.length → lexL u v → lexL (u ++ [b]) (v ++ [b])
  | [], [], b, _, _ => lexL_refl _
  | [], _ :: _, _, h, _ => by simp at h
  | _ :: _, [], _, h, _ => by simp at h
  | a :: u, c :: v, b, h, h1 => by
    unfold lexL at h1
    show lexL (a :: (u ++ [b])) (c :: (v ++ [b]))
    unfold lexL
    rcases h1 with h1 | ⟨rfl, h1⟩
    · exact .inl h1
    · exact .inr ⟨rfl, lexL_snoc b (by simpa using h) h1⟩

/-! ### ways -/
/-- w leads from n to t. -/
def To (g : Gr) : List Nat → Nd → Nd → Prop
  | [], n, t => n = t
  | b :: w, n, t => ∃ m, m ∈ g.next n b ∧ To g w m t
theorem to_snoc {g : Gr} {b : Nat} {t : Nd} : ∀ {w : List Nat} {n : Nd}, To g (w ++ [b]) n t ↔ ∃ m, To g w n m ∧ t ∈ g.next m b
  | [], n => by
    constructor
    · rintro ⟨m, hm, h⟩
      obtain rfl : m = t := h
      exact ⟨n, rfl, hm⟩
    · rintro ⟨m, h, ht⟩
      obtain rfl : n = m := h
      exact ⟨t, ht, rfl⟩
  | c :: w, n => by
    constructor
    · rintro ⟨m, hm, h⟩
      obtain ⟨p, h1, h2⟩ := to_snoc.1 h
      exact ⟨p, ⟨m, hm, h1⟩, h2⟩
    · rintro ⟨p, ⟨m, hm, h1⟩, h2⟩
      exact ⟨m, hm, to_snoc.2 ⟨p, h1, h2⟩⟩
theorem leads_to {g : Gr} : ∀ {w : List Nat} {n : Nd}, Leads g w n ↔ ∃ t, To g w n t ∧ g.ends t = true
  | [], n => ⟨fun h => ⟨n, rfl, h⟩, fun ⟨t, h, k⟩ => by obtain rfl : n = t := h; exact k⟩
  | b :: w, n => by
    constructor
    · rintro ⟨m, hm, h⟩
      obtain ⟨t, h1, h2⟩ := leads_to.1 h
      exact ⟨t, ⟨m, hm, h1⟩, h2⟩
    · rintro ⟨t, ⟨m, hm, h1⟩, h2⟩
      exact ⟨m, hm, leads_to.2 ⟨t, h1, h2⟩⟩
theorem to_reach {g : Gr} {by_ : List Nat} {a t : Nd} : ∀ {w : List Nat} {n : Nd}, Reach g by_ a n → (∀ b ∈ w, b ∈ by_) → To g w n t → Reach g by_ a t
  | [], n, hr, _, h => by obtain rfl : n = t := h; exact hr
  | b :: w, n, hr, hb, ⟨m, hm, h⟩ => to_reach (hr.step (hb b List.mem_cons_self) hm) (fun c hc => hb c (List.mem_cons_of_mem _ hc)) h
/-- Over the least bytes of their kinds a word is no later. -/
theorem leads_less {g : Gr} {by_ : List Nat} (hby : ∀ c, c < 256 → ∃ r ∈ by_, r ≤ c ∧ ∀ n, g.next n r = g.next n c) : ∀ {w : List Nat} {n : Nd}, bytes_ w → Leads g w n → ∃ v, v.length = w.length ∧ (∀ b ∈ v, b ∈ by_) ∧ Leads g v n ∧ lexL v w
  | [], n, _, h => ⟨[], rfl, (fun b hb => by cases hb), h, lexL_refl _⟩
  | c :: w, n, hb, ⟨t, ht, hw⟩ => by
    obtain ⟨v, h1, h2, h3, h4⟩ := leads_less hby (fun d hd => hb d (List.mem_cons_of_mem _ hd)) hw
    obtain ⟨r, hr, hrc, hs⟩ := hby c (hb c List.mem_cons_self)
    refine ⟨r :: v, by simp [h1], fun d hd => ?_, ⟨t, by rw [hs]; exact ht, h3⟩, ?_⟩
    · rcases List.mem_cons.1 hd with rfl | hd
      · exact hr
      · exact h2 d hd
    · unfold lexL
      rcases Nat.lt_or_eq_of_le hrc with h | h
      · exact .inl h
      · exact .inr ⟨h, h4⟩

/-! ### rows -/
abbrev NW := Nd × List Nat
structure RowOk (g : Gr) (by_ : List Nat) (a : Nd) (L : Nat) (F : List NW) : Prop where
  nd : (F.map (·.1)).Nodup
  ok : ∀ x ∈ F, x.2.length = L ∧ (∀ b ∈ x.2, b ∈ by_) ∧ To g x.2 a x.1
  all : ∀ w t, w.length = L → (∀ b ∈ w, b ∈ by_) → To g w a t → ∃ x ∈ F, x.1 = t ∧ lexL x.2 w
/-- The row of words of one byte more, while it is made: what holds of d has been put in. -/
structure RowMid (g : Gr) (by_ : List Nat) (a : Nd) (L : Nat) (F : List NW) (d : Nd → List Nat → Prop) : Prop where
  nd : (F.map (·.1)).Nodup
  ok : ∀ x ∈ F, x.2.length = L ∧ (∀ b ∈ x.2, b ∈ by_) ∧ To g x.2 a x.1
  all : ∀ t w, d t w → w.length = L → ∃ x ∈ F, x.1 = t ∧ lexL x.2 w
section
variable {g : Gr} {by_ : List Nat} {a n t : Nd} {L : Nat} {F F' : List NW} {d d' : Nd → List Nat → Prop} {w : List Nat} {r : Bool}
variable (hby : ∀ c, c < 256 → ∃ r ∈ by_, r ≤ c ∧ ∀ n, g.next n r = g.next n c)
include hby
end
end Go.Proofs.YthomdogheamfpaaDoor

/- The graphs of Meets, Cat and Iter, and what their words say; plain law. -/
set_option linter.unusedVariables false
set_option linter.unusedSimpArgs false
namespace Go.Proofs.YthomdogheamfpaaDoor
open Go.VC
/-- Where a word leads. -/
def runL (o : Option AM) (w : List Nat) (q : Int) : Int := w.foldl (fun q b => stepM o q b) q
theorem runL_cons (o : Option AM) (c : Nat) (w : List Nat) (q : Int) : runL o (c :: w) q = runL o w (stepM o q c) := rfl
def accL (o : Option AM) (w : List Nat) : Bool := finM o (runL o w 0)
def root : Nd := ⟨0, 0, 0⟩

section
variable {a b : Option AM}
end
section
variable {a : Option AM}
end
end Go.Proofs.YthomdogheamfpaaDoor
/- ambig's graphs in memory; maps of slices that begin with nil ones. -/
set_option linter.unusedVariables false
set_option linter.unusedSimpArgs false
set_option maxRecDepth 100000
namespace Go.VC
section
variable {α β : Type} {Ok : α → Prop} {enc : α → Value} {T : Ty β} {e : TypeId} {b : Nat} {m : α → Option Value} {B : Nat → Prop} {H0 H H' : Heap} {ps : List Pc}
end
end Go.VC
namespace Go.Proofs.YthomdogheamfpaaDoor
open Go.VC
/-- What is asked of a graph: its bytes, its nodes, their numbers. -/
structure GraphOk (g : Gr) (by_ : List Nat) (M C : Nat) : Prop where
  byl : ∀ b ∈ by_, b < 256
  nb : by_.length ≤ 256
  ok : ∀ n, Reach g by_ root n → n.Ok
  card : ∀ l : List Nd, l.Nodup → (∀ n ∈ l, Reach g by_ root n) → l.length ≤ M
  occ : ∀ n b t, Reach g by_ root n → b ∈ by_ → (g.next n b).count t ≤ C
  c0 : 1 ≤ C
  big : C * (256 * M) ≤ 5864062014805
end Go.Proofs.YthomdogheamfpaaDoor

/- ambig's reach: the walk. -/
set_option linter.unusedVariables false
set_option linter.unusedSimpArgs false
set_option maxRecDepth 100000
namespace Go.Proofs.YthomdogheamfpaaDoor
open Go.VC
end Go.Proofs.YthomdogheamfpaaDoor

/- ambig's first, once the distances are known: byte by byte; plain law. -/
set_option linter.unusedVariables false
set_option linter.unusedSimpArgs false
namespace Go.VC
end Go.VC
namespace Go.Proofs.YthomdogheamfpaaDoor
open Go.VC
/-- What is left of the word that is asked for: r bytes, from one of P on. -/
structure Pre (g : Gr) (a : Nd) (lf : Nd → Option Nat) (L r : Nat) (w : List Nat) (P : Nd → Prop) : Prop where
  len : w.length + r = L
  fst : ∀ v, FirstOf g P r v → FirstOf g (· = a) L (w ++ v)
  all : ∀ n, P n → lf n = some r
  ne : ∃ n, P n
section
variable {g : Gr} {by_ : List Nat} {a : Nd} {lf : Nd → Option Nat} {L k b : Nat} {w : List Nat} {P Q : Nd → Prop}
variable (hby : ∀ c, c < 256 → ∃ r ∈ by_, r ≤ c ∧ ∀ n, g.next n r = g.next n c)
include hby
end
def bA (w : List Nat) : ByteArray := ⟨(w.map UInt8.ofNat).toArray⟩
end Go.Proofs.YthomdogheamfpaaDoor

/- ambig's first: the walk. -/
set_option linter.unusedVariables false
set_option linter.unusedSimpArgs false
set_option maxRecDepth 100000
namespace Go.Proofs.YthomdogheamfpaaDoor
open Go.VC
/-- What first answers. -/
def FirstR (g : Gr) (w : List Nat) (ok : Bool) : Prop := (ok = true → FirstW g (· = root) w) ∧ (ok = false → w = [] ∧ ∀ u, bytes_ u → ¬ LeadsP g (· = root) u)
/-- The nodes whose distance is known. -/
structure Seen (g : Gr) (by_ : List Nat) (lf : Nd → Option Nat) (seen : List Nd) : Prop where
  nd : seen.Nodup
  mem : ∀ n, (lf n).isSome = true ↔ n ∈ seen
  le : ∀ n j, lf n = some j → j ≤ seen.length
  rch : ∀ n ∈ seen, Reach g by_ root n
end Go.Proofs.YthomdogheamfpaaDoor
/- strings.Builder: a builder of the call's own: its writing methods and String. -/
set_option linter.unusedVariables false
set_option linter.unusedSimpArgs false
set_option maxRecDepth 100000
namespace Go.VC
/-- The bytes of a text as numbers. -/
def strI (s : ByteArray) : List Int := s.data.toList.map fun b => (b.toNat : Int)
theorem strI_len (s : ByteArray) : (strI s).length = s.size := by unfold strI; rw [List.length_map]; rfl
theorem strI_append (s t : ByteArray) : strI (s ++ t) = strI s ++ strI t := by unfold strI; simp
theorem strI_u8 (s : ByteArray) : ∀ x ∈ strI s, inK .u8 x := fun x hx => by
  obtain ⟨b, -, rfl⟩ := List.mem_map.1 hx
  exact inU8b b
theorem strI_cells (s : ByteArray) : byteCells s = (strI s).map (Value.int .u8) := by
  unfold byteCells strI
  rw [List.map_map]
  rfl
/-- A text's bytes appended to an own slice. -/
theorem appStr {P : Program} {t tx ty by_ : Nat} {z : Value} {B : Nat → Prop} {H0 H : Heap} {ps : List Pc} {e : TypeId} {a : Option Addr} {n cap : Nat} {xs : List Int} {K : Value → Heap → Prop} {s : ByteArray} (st : StB B H0 H ps) (i : Nat) (ht : SlT P t e 1 by_ z) (htx : P.underlying tx = some .string)
    (hp : ps[i]? = some (pS tU8 e a n cap xs)) (h63 : xs.length + s.size ≤ maxLen) (hby : (xs.length + s.size) * by_ ≤ 140737488355328)
    (k : ∀ a' cap' H', StB B H0 H' (ps.set i (pS tU8 e a' (xs.length + s.size) cap' (xs ++ strI s))) → K (.slice a' (xs.length + s.size) cap') H') : VEff P (Builtin.append_ #[t, tx] ty [.slice a n cap, .string s].toArray) H K := by
  obtain ⟨cs, hsl, hr⟩ := (st.at_ i hp).1
  refine vappend (m := s.size) (news := byteCells s) ht hsl (Nat.zero_le _) (fun w hw => Src.ofString w htx s) h63 hby ?_
  intro v' H' hsl' hagr hsz hfr
  have hlen : (xs ++ strI s).length = xs.length + s.size := by rw [List.length_append, strI_len]
  have hown : SlO tU8 none_ H' 0 e v' (xs ++ strI s) := ⟨_, by rw [hlen]; exact hsl', Ty.reps_append (Ty.reps_frame (hagr.mono fun k hk => hk.elim) hr) (by rw [strI_cells]; exact u8_reps (strI_u8 s))⟩
  obtain ⟨a', cap', rfl⟩ := hown.hull
  rw [hlen] at hown hfr ⊢
  refine k a' cap' H' (st.upd i hp (hagr.mono fun k hk => ⟨hk.1, fun hb => hk.2 (.inl hb)⟩) _ ⟨hown, fun k hk => hk.elim⟩ (fun k hk => ?_) (fun k hk => ?_) hsz)
  · rcases hk with hk | hk
    · rcases hfr k hk with h | h
      · exact .inl (.inl h)
      · exact .inr h
    · exact hk.elim
  · rcases hk with hk | hk
    · exact (hown.lt hk).2
    · exact hk.elim
end Go.VC
namespace Go.Proofs.YthomdogheamfpaaDoor
open Go.VC
theorem ccP {B : Nat → Prop} {H0 H : Heap} {ps : List Pc} {b : Nat} {p : Option Addr} {v : Value} {K : Value → Heap → Prop} (st : StB B H0 H ps) (i : Nat) (hp : ps[i]? = some (pB 102 b [.pointer p, v])) (hpp : p = none ∨ p = some ⟨b, 0, none⟩)
    (k : ∀ H', StB B H0 H' (ps.set i (pB 102 b [.pointer (some ⟨b, 0, none⟩), v])) → K (.tuple #[]) H') : VCall Tryd.prog 98 #[.pointer (some ⟨b, 0, none⟩)] H K := by
  refine ⟨fun w hw => ⟨Tryd.call98 _ w, ?_⟩⟩
  subst hw
  have hb := st.blk i hp
  rcases hpp with rfl | rfl
  · have h0 : w.cell? ⟨b, 0, none⟩ = some (.pointer none) := by rw [cell_w, hb.cell]; rfl
    have hsh : w.shape? b = some (102, 2) := by
      unfold World.shape?
      rw [hb]
      rfl
    refine (cc_fresh b w h0 hsh (frozen_blk hb)).mono ?_
    rintro _ _ ⟨rfl, rfl⟩
    obtain ⟨h1, h2, h3⟩ := setCell_blk (o := 0) hb (.pointer (some ⟨b, 0, none⟩))
    exact ⟨_, rfl, by unfold World.setCell; split <;> exact ⟨rfl, rfl, rfl⟩, k _ (st.upd i hp (h2.mono fun k hk hkb => hk.2 hkb) _ h1 (fun k hk => .inl hk) (fun k hk => by rw [h3]; exact (st.in_ i hp hk).2) (by omega))⟩
  · have h0 : w.cell? ⟨b, 0, none⟩ = some (.pointer (some ⟨b, 0, none⟩)) := by rw [cell_w, hb.cell]; rfl
    refine (cc_used b w h0).mono ?_
    rintro _ _ ⟨rfl, rfl⟩
    exact ⟨_, rfl, Env.refl _, k _ (st.say i hp _ (st.at_ i hp) (fun k hk => hk))⟩
abbrev tByt8 : TypeId := 5
/-- A builder of the call's own that holds s. -/
def BuSt (B : Nat → Prop) (H0 : Heap) (b : Nat) (s : ByteArray) (rest : List Pc) (H : Heap) : Prop :=
  ∃ p a cap, (p = none ∨ p = some ⟨b, 0, none⟩) ∧ StB B H0 H (pB 102 b [.pointer p, .slice a s.size cap] :: pS tU8 tByt8 a s.size cap (strI s) :: rest)
section
variable {B : Nat → Prop} {H0 H H1 : Heap} {b : Nat} {s t : ByteArray} {rest : List Pc} {K : Value → Heap → Prop}
theorem BuSt.call (h : BuSt B H0 b s rest H) (ha : Agr (Old H) H H1) : BuSt B H0 b s rest H1 := by
  obtain ⟨p, a, cap, hp, st⟩ := h
  exact ⟨p, a, cap, hp, st.call ha⟩
theorem vwS (h : BuSt B H0 b s rest H) (hs : s.size + t.size ≤ 140737488355328) (k : ∀ H', BuSt B H0 b (s ++ t) rest H' → K (.tuple #[.int .i64 t.size, .nilIface]) H') : VCall Tryd.prog 53 #[.pointer (some ⟨b, 0, none⟩), .string t] H K := by
  obtain ⟨p, a, cap, hp, st⟩ := h
  refine ⟨FnOk.of_vc Tryd.func53 rfl (Tryd.call53 _) ?_⟩
  (conv => whnf); refine ccP st 0 rfl hp fun H1 st1 => ?_
  (conv => whnf); refine VC.fa fl102_1 ?_
  (conv => whnf); refine ld1 (v := .slice a s.size cap) ct85 (by rw [(st1.blk 0 rfl).cell]; rfl) trivial ?_
  (conv => whnf); refine appStr (s := t) st1 1 sl85 Tryd.underlying9 rfl (by rw [strI_len]; unfold maxLen; omega) (by rw [strI_len]; omega) fun a2 c2 H2 st2 => ?_
  rw [strI_len, ← strI_append] at st2
  rw [strI_len]
  have e : s.size + t.size = (s ++ t).size := by simp
  rw [e] at st2 ⊢
  (conv => whnf); refine VC.fa fl102_1 ?_
  (conv => whnf); refine st1B st2 0 ct85 rfl (show (0 : Nat) + 1 < 2 by decide) rfl fun H3 st3 => ?_
  (conv => whnf)
  exact k H3 ⟨_, a2, c2, .inr rfl, st3⟩
theorem vwB {c : Nat} (hc : c < 256) (h : BuSt B H0 b s rest H) (hs : s.size + 1 ≤ 140737488355328) (k : ∀ H', BuSt B H0 b (s ++ bA [c]) rest H' → K .nilIface H') : VCall Tryd.prog 55 #[.pointer (some ⟨b, 0, none⟩), .int .u8 (c : Int)] H K := by
  obtain ⟨p, a, cap, hp, st⟩ := h
  refine ⟨FnOk.of_vc Tryd.func55 rfl (Tryd.call55 _) ?_⟩
  (conv => whnf); refine ccP st 0 rfl hp fun H1 st1 => ?_
  (conv => whnf); refine VC.fa fl102_1 ?_
  (conv => whnf); refine ld1 (v := .slice a s.size cap) ct85 (by rw [(st1.blk 0 rfl).cell]; rfl) trivial ?_
  (conv => whnf); refine vbuild1 sl85 [.int .u8 (c : Int)] rfl rfl (by decide) (by decide) ?_
  intro q2 H2 hq2 hs2 hb2 ha2
  (conv => whnf); refine appG (ys := [(c : Int)]) (ds := [.int .u8 (c : Int)]) (st1.skip hq2 ha2) 1 sl85 rfl (hb2.cells fun j v hv => by rw [Nat.zero_add]; exact hv) (Ty.reps_one ⟨rfl, inU8 hc⟩) rfl (by simp [Value.oneCell']) (by rw [strI_len]; simp only [List.length_singleton, maxLen]; omega) (by rw [strI_len]; simp only [List.length_singleton]; omega) fun a3 c3 H3 st3 _ => ?_
  have e1 : strI s ++ [(c : Int)] = strI (s ++ bA [c]) := by
    rw [strI_append]
    congr 1
    show [(c : Int)] = [((UInt8.ofNat c).toNat : Int)]
    rw [UInt8.toNat_ofNat']
    congr 1
    omega
  have e : (strI s).length + [(c : Int)].length = (s ++ bA [c]).size := by rw [← strI_len (s ++ bA [c]), ← e1]; simp
  rw [e1, e] at st3
  rw [e]
  (conv => whnf); refine VC.fa fl102_1 ?_
  (conv => whnf); refine st1B st3 0 ct85 rfl (show (0 : Nat) + 1 < 2 by decide) rfl fun H4 st4 => ?_
  (conv => whnf)
  exact k H4 ⟨_, a3, c3, .inr rfl, st4⟩
end
end Go.Proofs.YthomdogheamfpaaDoor
/- A piece split in two; a map of slices that is only read from now on; keys that are texts. -/
set_option linter.unusedVariables false
set_option linter.unusedSimpArgs false
namespace Go.VC
section
variable {B : Nat → Prop} {H0 H : Heap} {ps : List Pc} {p : Pc}
theorem StB.apart2 (st : StB B H0 H ps) {i j : Nat} {q : Pc} (hp : ps[i]? = some p) (hq : ps[j]? = some q) (hij : i ≠ j) : Dis p q := by
  have hil := (List.getElem?_eq_some_iff.1 hp).1
  have hjl := (List.getElem?_eq_some_iff.1 hq).1
  have e1 := (List.getElem?_eq_some_iff.1 hp).2
  have e2 := (List.getElem?_eq_some_iff.1 hq).2
  intro k hk hk'
  rcases Nat.lt_or_gt_of_ne hij with h | h
  · exact List.pairwise_iff_getElem.1 st.dis i j hil hjl h k (by rw [e1]; exact hk) (by rw [e2]; exact hk')
  · exact List.pairwise_iff_getElem.1 st.dis j i hjl hil h k (by rw [e2]; exact hk') (by rw [e1]; exact hk)
end
section
variable {α β : Type} {Ok : α → Prop} {enc : α → Value} {T : Ty β} {e : TypeId} {b : Nat} {m : α → Option Value} {xs : α → List β} {B : Nat → Prop} {H0 H : Heap} {ps : List Pc}
end
/-- Every key. -/
abbrev anyK {α : Type} (_ : α) : Prop := True
theorem KeyW.ofE {P : Program} {kt : TypeId} {d : TypeDesc} {α : Type} {enc : α → Value} (hd : P.underlying kt = some d) (hk : KeyE d enc) : KeyW P kt anyK enc where
  inj := hk.inj
  check w em a _ := Go.MapKept.run_checkKey hd (hk.isKey a) em 9999
  find w a _ es hes := by
    have hall : ∀ x ∈ es, Go.MapKept.IsKey d x.key := fun x hx => by
      obtain ⟨b, -, e⟩ := hes x hx
      rw [e]; exact hk.isKey b
    rcases Go.MapKept.findNow_spec (hk.isKey a) es 0 hall with ⟨h1, h2⟩ | ⟨j, e, h1, h2, h3⟩
    · exact .inl ⟨Go.MapKept.run_findKey hd h1, h2⟩
    · exact .inr ⟨j, e, by rw [Nat.zero_add] at h1; exact Go.MapKept.run_findKey hd h1, h2, h3⟩
  stays w a _ := Go.MapKept.run_keyThatStays (hk.isKey a)
end Go.VC
/- strings.Builder's String, strconv.Itoa, strings.IndexByte as calls. -/
set_option linter.unusedVariables false
set_option linter.unusedSimpArgs false
set_option maxRecDepth 100000
namespace Go.Proofs.YthomdogheamfpaaDoor
open Go.VC Go.Lib
theorem vStr {H0 H : Heap} {b : Nat} {s : ByteArray} {rest : List Pc} {K : Value → Heap → Prop} (h : BuSt (Old H0) H0 b s rest H) (k : ∀ H', Agr (Old H0) H0 H' → K (.string s) H') : VCall Tryd.prog 56 #[.pointer (some ⟨b, 0, none⟩)] H K := by
  obtain ⟨p, a, cap, hp, st⟩ := h
  refine ⟨fun w hw => ⟨Tryd.call56 _ w, ?_⟩⟩
  subst hw
  have hb := st.blk 0 rfl
  have hBb : H0.size ≤ b := by
    have := (st.in_ 0 rfl (k := b) rfl).1
    unfold Old at this
    omega
  have hne : (Value.slice a s.size cap).ownBlock ≠ some b := fun e => by
    cases a with
    | none => cases e
    | some ad =>
      obtain ⟨q, o, sp⟩ := ad
      injection e with e
      have d := st.apart2 (i := 0) (j := 1) rfl rfl (by decide)
      refine d b rfl (.inl ?_)
      subst e
      obtain ⟨cs, ⟨-, hcase⟩, -⟩ := (st.at_ 1 rfl).1
      rcases hcase with ⟨he, -⟩ | ⟨b', c', l, he, -⟩
      · cases he
      · injection he with e1 e2 e3
        injection e1 with e1
        injection e1 with e4 e5 e6
        subst e5; subst e6
        exact ⟨_, _, _, rfl⟩
  have hrow : w.ownsRow H0.size 5 1 (.slice a s.size cap) (Go.Lib.byteCells s.data.toList).length (Go.Lib.byteCells s.data.toList) := by
    obtain ⟨cs, ⟨hcl, hcase⟩, hreps⟩ := (st.at_ 1 rfl).1
    obtain ⟨rfl, hrng⟩ := reps_u8 hreps
    have hce : Go.Lib.byteCells s.data.toList = (strI s).map (Value.int .u8) := by
      unfold Go.Lib.byteCells strI
      rw [List.map_map]
      rfl
    have hl : ((strI s).map (Value.int .u8)).length = s.size := by rw [List.length_map, strI_len]
    rw [hce, hl]
    refine ⟨by rw [hl, Nat.mul_one], ?_⟩
    rcases hcase with ⟨he, hn0⟩ | ⟨b', c', l, he, -, hb', hnc, hcm, hll, htk⟩
    · exact .inl ⟨he, by rw [← strI_len]; exact hn0⟩
    · have hge : H0.size ≤ b' := by
        have := (st.in_ 1 rfl (k := b') (.inl ⟨0, s.size, cap, by rw [he]; injection he with e1 e2 e3; subst e1; subst e3; rw [strI_len]⟩)).1
        unfold Old at this
        omega
      rw [strI_len] at he hnc htk
      exact .inr ⟨b', c', l.toArray, he, hge, hb', hnc, hcm, by rw [List.size_toArray]; exact hll, htk⟩
  have hAt : BuilderAtF 102 5 H0.size b (.pointer p) (Go.Lib.byteCells s.data.toList) w := BuilderAtF.of ⟨hBb, _, hb, hrow, hne⟩
  have hIs : IsBuilderF 102 5 H0.size b (Go.Lib.byteCells s.data.toList) w := by
    rcases hp with rfl | rfl
    · exact .inl hAt
    · exact .inr hAt
  refine (Builder_String_any_k H0.size b s.data.toList w hIs (old_size st.old)).mono ?_
  rintro _ w' ⟨rfl, -, hbel, -⟩
  refine ⟨_, rfl, ⟨hbel.os.symm ▸ rfl, hbel.tape.symm ▸ rfl, hbel.output.symm ▸ rfl⟩, ?_⟩
  exact k _ (st.old.trans (show Agr (Old H0) w.heap w'.heap from fun j hj => hbel.block j hj))
def itoS (i : Int) : ByteArray := ⟨(itoa i).toArray⟩
theorem itoa_p {H : Heap} {i : Int} (hpow : PowH Tryd.prog H) (h0 : -9223372036854775808 ≤ i) (h1 : i ≤ 9223372036854775807) : Pure Tryd.prog 54 #[.int .i64 i] H (.string (itoS i)) := by
  intro w hw
  refine ⟨Tryd.call54 _ w, ?_⟩
  refine (strconv_Itoa i h0 h1 w (hpow w hw)).mono ?_
  rintro _ _ ⟨rfl, n, os, rfl⟩
  refine ⟨_, rfl, ⟨rfl, rfl, rfl⟩, rfl, ?_⟩
  subst hw
  intro k hk
  show (w.heap ++ os)[k]? = w.heap[k]?
  exact Array.getElem?_append_left hk
theorem index_p (s : ByteArray) (c : Nat) (H : Heap) : Pure Tryd.prog 120 #[.string s, .int .u8 (c : Int)] H (.int .i64 (indexByte s.data.toList (UInt8.ofNat c))) := by
  intro w hw
  refine ⟨Tryd.call120 _ w, ?_⟩
  refine (strings_IndexByte s (c : Int) w).mono ?_
  rintro _ _ ⟨rfl, rfl⟩
  exact ⟨_, rfl, Env.refl _, rfl, by subst hw; exact Agr.refl _ _⟩
end Go.Proofs.YthomdogheamfpaaDoor
/- class.single: the walk; how a byte is written. -/
set_option linter.unusedVariables false
set_option linter.unusedSimpArgs false
set_option maxRecDepth 100000
namespace Go.Proofs.YthomdogheamfpaaDoor
open Go.VC Go.Lib
def hexD (n : Nat) : Nat := if n < 10 then 48 + n else 87 + n
def sglM (c : Nat) (sp : Bool) : List Nat := if c = 10 then [92, 110] else if c = 13 then [92, 114] else if c = 9 then [92, 116] else if c < 32 ∨ 126 < c then [92, 120, hexD (c / 16), hexD (c % 16)] else if sp then [92, c] else [c]
def spB (s : ByteArray) (c : Nat) : Bool := decide (0 ≤ indexByte s.data.toList (UInt8.ofNat c))
def escL : List Value := [.int .u8 110, .int .u8 10, .int .u8 114, .int .u8 13, .int .u8 116, .int .u8 9]
/-- The table of escapes lies in memory. -/
def EscH (H : Heap) : Prop := Cells H 0 0 escL ∧ 0 < H.size
theorem EscH.agr {H H' : Heap} (h : EscH H) (ha : Agr (Old H) H H') : EscH H' :=
  ⟨h.1.eq (ha 0 h.2), old_lt ha (show Old H 0 from h.2)⟩
theorem esc_z : (Tryd.prog.info? 199).bind (·.zero) = some (.agg #[.int .u8 0, .int .u8 0]) := by kernel_rfl
theorem hex_get {i : Nat} (hi : i < 16) : (⟨#[48, 49, 50, 51, 52, 53, 54, 55, 56, 57, 97, 98, 99, 100, 101, 102]⟩ : ByteArray).extract i (i + 1) = bA [hexD i] := by
  have : ∀ i : Fin 16, (⟨#[48, 49, 50, 51, 52, 53, 54, 55, 56, 57, 97, 98, 99, 100, 101, 102]⟩ : ByteArray).extract i.1 (i.1 + 1) = bA [hexD i.1] := by decide
  exact this ⟨i, hi⟩
theorem bA_cat (u v : List Nat) : bA u ++ bA v = bA (u ++ v) := by
  apply ByteArray.ext
  rw [ByteArray.data_append]
  unfold bA
  simp
theorem spec_ge {s : ByteArray} {c : Nat} : (decide (indexByte s.data.toList (UInt8.ofNat c) ≥ 0)) = spB s c := rfl
def escP (i : Nat) : Nat × Nat := match i with
  | 0 => (110, 10)
  | 1 => (114, 13)
  | _ => (116, 9)
set_option maxHeartbeats 4000000 in
theorem single_p {H : Heap} {s : ByteArray} {c : Nat} (hE : EscH H) (hc : c < 256) : Pure Tryd.prog 96 #[.int .u8 (c : Int), .string s] H (.string (bA (sglM c (spB s c)))) := by
  refine FnOk.of_vc Tryd.func96 rfl (Tryd.call96 _) ?_
  (conv => whnf); refine ldN (cs := escL) ag200 hE.1 trivial ?_
  (conv => whnf)
  refine VLoop.mk [8] (fun i : Nat => [.int .i64 (i : Int)]) (fun i H1 => i ≤ 3 ∧ (∀ j, j < i → (escP j).2 ≠ c) ∧ St H H1 []) (fun i _ => 3 - i) ?_ ?_
  · (conv => whnf)
    exact ⟨0, rfl, by omega, fun j hj => by omega, St.nil H⟩
  · rintro i H1 junk1 ⟨hi, hno, st1⟩
    (conv => whnf); refine VIte.mk (fun hz => ?_) (fun hz => ?_) <;> simp only [decide_eq_true_eq, decide_eq_false_iff_not] at hz
    · have hex : escL.toArray.extract (i * 2) (i * 2 + 2) = #[.int .u8 ((escP i).1 : Int), .int .u8 ((escP i).2 : Int)] := by
        have : i = 0 ∨ i = 1 ∨ i = 2 := by omega
        rcases this with rfl | rfl | rfl <;> rfl
      have hsg : (escP i).2 = c → sglM c (spB s c) = [92, (escP i).1] := fun e => by
        have : i = 0 ∨ i = 1 ∨ i = 2 := by omega
        rcases this with rfl | rfl | rfl <;> (subst e; rfl)
      have h1b : (escP i).1 < 256 ∧ (escP i).2 < 256 := by
        have : i = 0 ∨ i = 1 ∨ i = 2 := by omega
        rcases this with rfl | rfl | rfl <;> decide
      (conv => whnf); refine ixvN ar200 ag199 (by omega) (by omega) ?_
      rw [Int.toNat_natCast, hex]
      generalize (escP i).1 = l at *
      generalize hv : (escP i).2 = v at *
      (conv => whnf); refine valloc (.agg #[.int .u8 0, .int .u8 0]) [.int .u8 0, .int .u8 0] esc_z rfl ?_
      intro p2 H2 hp2 hs2 hb2 ha2
      have st2 := st1.box hp2 hs2 hb2 ha2
      (conv => whnf); refine stNB (cs := [.int .u8 (l : Int), .int .u8 (v : Int)]) st2 0 rfl rfl (Nat.le_refl _) rfl fun H3 st3 => ?_
      rw [splice_all (by rfl)] at st3
      (conv => whnf); refine VC.fa fl199_1 ?_
      (conv => whnf); refine ld1 (v := .int .u8 (v : Int)) ct5 (by rw [(st3.blk 0 rfl).cell]; rfl) trivial ?_
      by_cases he : v = c
      · have d1 : ((v : Int) == (c : Int)) = true := by rw [he]; exact beq_self_eq_true _
        (conv => whnf); rw [d1]
        (conv => whnf); refine VC.fa fl199_0 ?_
        (conv => whnf); refine ld1 (v := .int .u8 (l : Int)) ct5 (by rw [(st3.blk 0 rfl).cell]; rfl) trivial ?_
        (conv => whnf); refine vbuild1 sl85 [.int .u8 (l : Int)] rfl rfl (by decide) (by decide) ?_
        intro q4 H4 hq4 hs4 hb4 ha4
        (conv => whnf); refine vb2s [l] rfl rfl rfl (fun j x hx => by
          cases j with
          | zero => cases hx; rw [hb4.cell]; rfl
          | succ j => simp at hx) rfl ?_
        (conv => whnf); refine vcat (by rw [show (⟨([l].map UInt8.ofNat).toArray⟩ : ByteArray).size = 1 from rfl]; decide) ?_
        (conv => whnf)
        rw [hsg he]
        exact ⟨rfl, (st3.skip hq4 ha4).old⟩
      · have d1 : ((v : Int) == (c : Int)) = false := beq_eq_false_iff_ne.2 (by omega)
        (conv => whnf); rw [d1]
        (conv => whnf); rw [w64 (x := (i : Int) + 1) (by omega) (by omega)]
        refine ⟨rfl, i + 1, by simp, ⟨by omega, fun j hj => ?_, st3.pick [] (by decide)⟩, by omega⟩
        rcases Nat.lt_or_eq_of_le (Nat.le_of_lt_succ hj) with hj | rfl
        · exact hno j hj
        · rw [hv]; exact he
    · obtain rfl : i = 3 := by omega
      have n0 : (10 : Nat) ≠ c := hno 0 (by omega)
      have n1 : (13 : Nat) ≠ c := hno 1 (by omega)
      have n2 : (9 : Nat) ≠ c := hno 2 (by omega)
      have hs0 : sglM c (spB s c) = if c < 32 ∨ 126 < c then [92, 120, hexD (c / 16), hexD (c % 16)] else if spB s c then [92, c] else [c] := by
        unfold sglM
        rw [if_neg (Ne.symm n0), if_neg (Ne.symm n1), if_neg (Ne.symm n2)]
      by_cases hesc : c < 32 ∨ 126 < c
      · rw [hs0, if_pos hesc]
        have hc16 : c / 2 ^ 4 = c / 16 := rfl
        have hand : c &&& 15 = c % 16 := by rw [show (15 : Nat) = 2 ^ 4 - 1 by decide, Nat.and_two_pow_sub_one_eq_mod]
        have hi16 : c / 16 < 16 := by omega
        have hj16 : c % 16 < 16 := by omega
        have e4 : (((⟨#[92, 120]⟩ : ByteArray) ++ bA [hexD (c / 16)]) ++ bA [hexD (c % 16)]) = bA [92, 120, hexD (c / 16), hexD (c % 16)] := by
          rw [show (⟨#[92, 120]⟩ : ByteArray) = bA [92, 120] from rfl]
          exact (congrArg (· ++ bA [hexD (c % 16)]) (bA_cat _ _)).trans (bA_cat _ _)
        by_cases hlo : c < 32
        · have d1 : decide ((c : Int) < 32) = true := decide_eq_true (by omega)
          (conv => whnf); rw [d1]
          (conv => whnf); refine VDraw.lex rfl (by kernel_rfl) ?_
          (conv => whnf); refine vshr (b := 4) (by decide) ?_
          (conv => whnf); refine vshr (b := 4) (by decide) ?_
          (conv => whnf); rw [w8 (x := ((c / 2 ^ 4 : Nat) : Int) + 1) (by omega) (by omega)]
          (conv => whnf); refine vcutS Tryd.underlying9 (by omega) (by omega) (show ((c / 2 ^ 4 : Nat) : Int) + 1 ≤ ((16 : Nat) : Int) by omega) ?_
          rw [show ((c / 2 ^ 4 : Nat) : Int).toNat = c / 16 by omega, show (((c / 2 ^ 4 : Nat) : Int) + 1).toNat = c / 16 + 1 by omega, hex_get hi16]
          (conv => whnf); refine vcat (show 2 + 1 ≤ maxLen by decide) ?_
          (conv => whnf); refine vand (b := 15) ⟨by simp [IntKind.min, IntKind.signed], by simp [IntKind.max, IntKind.signed, IntKind.bits]; omega⟩ ⟨by decide, by decide⟩ ?_
          (conv => whnf); refine vand (b := 15) ⟨by simp [IntKind.min, IntKind.signed], by simp [IntKind.max, IntKind.signed, IntKind.bits]; omega⟩ ⟨by decide, by decide⟩ ?_
          rw [hand]
          (conv => whnf); rw [w8 (x := ((c % 16 : Nat) : Int) + 1) (by omega) (by omega)]
          (conv => whnf); refine vcutS Tryd.underlying9 (by omega) (by omega) (show ((c % 16 : Nat) : Int) + 1 ≤ ((16 : Nat) : Int) by omega) ?_
          rw [show ((c % 16 : Nat) : Int).toNat = c % 16 by omega, show (((c % 16 : Nat) : Int) + 1).toNat = c % 16 + 1 by omega, hex_get hj16]
          (conv => whnf); refine vcat (show 3 + 1 ≤ maxLen by decide) ?_
          (conv => whnf)
          rw [← e4]
          exact ⟨rfl, st1.old⟩
        · have d1 : decide ((c : Int) < 32) = false := decide_eq_false (by omega)
          have d2 : decide ((c : Int) > 126) = true := decide_eq_true (by omega)
          (conv => whnf); rw [d1]
          (conv => whnf); rw [d2]
          (conv => whnf); refine VDraw.lex rfl (by kernel_rfl) ?_
          (conv => whnf); refine vshr (b := 4) (by decide) ?_
          (conv => whnf); refine vshr (b := 4) (by decide) ?_
          (conv => whnf); rw [w8 (x := ((c / 2 ^ 4 : Nat) : Int) + 1) (by omega) (by omega)]
          (conv => whnf); refine vcutS Tryd.underlying9 (by omega) (by omega) (show ((c / 2 ^ 4 : Nat) : Int) + 1 ≤ ((16 : Nat) : Int) by omega) ?_
          rw [show ((c / 2 ^ 4 : Nat) : Int).toNat = c / 16 by omega, show (((c / 2 ^ 4 : Nat) : Int) + 1).toNat = c / 16 + 1 by omega, hex_get hi16]
          (conv => whnf); refine vcat (show 2 + 1 ≤ maxLen by decide) ?_
          (conv => whnf); refine vand (b := 15) ⟨by simp [IntKind.min, IntKind.signed], by simp [IntKind.max, IntKind.signed, IntKind.bits]; omega⟩ ⟨by decide, by decide⟩ ?_
          (conv => whnf); refine vand (b := 15) ⟨by simp [IntKind.min, IntKind.signed], by simp [IntKind.max, IntKind.signed, IntKind.bits]; omega⟩ ⟨by decide, by decide⟩ ?_
          rw [hand]
          (conv => whnf); rw [w8 (x := ((c % 16 : Nat) : Int) + 1) (by omega) (by omega)]
          (conv => whnf); refine vcutS Tryd.underlying9 (by omega) (by omega) (show ((c % 16 : Nat) : Int) + 1 ≤ ((16 : Nat) : Int) by omega) ?_
          rw [show ((c % 16 : Nat) : Int).toNat = c % 16 by omega, show (((c % 16 : Nat) : Int) + 1).toNat = c % 16 + 1 by omega, hex_get hj16]
          (conv => whnf); refine vcat (show 3 + 1 ≤ maxLen by decide) ?_
          (conv => whnf)
          rw [← e4]
          exact ⟨rfl, st1.old⟩
      · rw [hs0, if_neg hesc]
        have d1 : decide ((c : Int) < 32) = false := decide_eq_false (by omega)
        have d2 : decide ((c : Int) > 126) = false := decide_eq_false (by omega)
        (conv => whnf); rw [d1]
        (conv => whnf); rw [d2]
        (conv => whnf); refine pures (index_p s c H1) fun H2 ha2 => ?_
        have st2 := st1.call ha2
        (conv => whnf); rw [spec_ge]
        have hone : ∀ {G : Heap} {q t : Nat}, Blk G q t [.int .u8 (c : Int)] → ∀ (j x : Nat), [c][j]? = some x → VC.cell G q (0 + j) = some (.int .u8 (x : Int)) := fun {G q t} hq j x hx => by
          cases j with
          | zero => cases hx; rw [hq.cell]; rfl
          | succ j => simp at hx
        cases spB s c with
        | true =>
          (conv => whnf); refine vbuild1 sl85 [.int .u8 (c : Int)] rfl rfl (by decide) (by decide) ?_
          intro q4 H4 hq4 hs4 hb4 ha4
          (conv => whnf); refine vb2s [c] rfl rfl rfl (hone hb4) rfl ?_
          (conv => whnf); refine vcat (show 1 + 1 ≤ maxLen by decide) ?_
          (conv => whnf)
          exact ⟨rfl, (st2.skip hq4 ha4).old⟩
        | false =>
          (conv => whnf); refine vbuild1 sl85 [.int .u8 (c : Int)] rfl rfl (by decide) (by decide) ?_
          intro q4 H4 hq4 hs4 hb4 ha4
          (conv => whnf); refine vb2s [c] rfl rfl rfl (hone hb4) rfl ?_
          (conv => whnf)
          exact ⟨rfl, (st2.skip hq4 ha4).old⟩
end Go.Proofs.YthomdogheamfpaaDoor
/- louperef01.in, Special, Inner, One: the walks. -/
set_option linter.unusedVariables false
set_option linter.unusedSimpArgs false
set_option maxRecDepth 100000
namespace Go.Proofs.YthomdogheamfpaaDoor
open Go.VC Go.Lib
def specS : ByteArray := ⟨#[40, 41, 91, 93, 123, 125, 124, 38, 45, 42, 43, 63, 46, 92, 47, 94]⟩
def innS : ByteArray := ⟨#[92, 93, 91, 45, 94, 47]⟩
end Go.Proofs.YthomdogheamfpaaDoor
/- How a set is written: plain. -/
set_option linter.unusedVariables false
set_option linter.unusedSimpArgs false
set_option maxRecDepth 100000
namespace Go.Proofs.YthomdogheamfpaaDoor
open Go.VC Go.Lib
abbrev innM (k : Nat) : List Nat := sglM k (spB innS k)
theorem sgl_len (c : Nat) (sp : Bool) : (sglM c sp).length ≤ 4 := by
  unfold sglM
  repeat' split
  all_goals simp
/-- The end of the run that begins at i. -/
def hiM (t : Nat → Bool) (i : Nat) : Nat := i + ((List.range' (i + 1) (255 - i)).takeWhile t).length
theorem takeWhile_len {t : Nat → Bool} : ∀ (m a k : Nat), k ≤ m → (∀ q, q < k → t (a + q) = true) → (k = m ∨ t (a + k) = false) → ((List.range' a m).takeWhile t).length = k
  | 0, a, k, hk, _, _ => by
    obtain rfl : k = 0 := by omega
    rfl
  | m + 1, a, 0, hk, _, he => by
    rcases he with he | he
    · omega
    · rw [List.range'_succ, List.takeWhile_cons_of_neg (by rw [Nat.add_zero] at he; rw [he]; decide)]; rfl
  | m + 1, a, k + 1, hk, h, he => by
    rw [List.range'_succ, List.takeWhile_cons_of_pos (by have := h 0 (by omega); simpa using this), List.length_cons]
    rw [takeWhile_len m (a + 1) k (by omega) (fun q hq => by have := h (q + 1) (by omega); rw [show a + 1 + q = a + (q + 1) by omega]; exact this) (by
      rcases he with he | he
      · exact .inl (by omega)
      · exact .inr (by rw [show a + 1 + k = a + (k + 1) by omega]; exact he))]
theorem hi_eq {t : Nat → Bool} {i j : Nat} (h1 : i ≤ j) (h2 : j ≤ 255) (h : ∀ k, i < k → k ≤ j → t k = true) (he : j = 255 ∨ t (j + 1) = false) : hiM t i = j := by
  unfold hiM
  rw [takeWhile_len (255 - i) (i + 1) (j - i) (by omega) (fun q hq => h _ (by omega) (by omega)) (by
    rcases he with he | he
    · exact .inl (by omega)
    · exact .inr (by rw [show i + 1 + (j - i) = j + 1 by omega]; exact he))]
  omega
def rngM (i j : Nat) : List Nat := innM i ++ (if i + 1 < j then [45] else []) ++ (if i < j then innM j else [])
def pieM (t : Nat → Bool) (i : Nat) : List Nat := if t i && !(decide (0 < i) && t (i - 1)) then rngM i (hiM t i) else []
def bodM (t : Nat → Bool) (n : Nat) : List Nat := (List.range n).flatMap (pieM t)
theorem run_len (i j : Nat) : (rngM i j).length ≤ 9 := by
  unfold rngM
  have h1 : (innM i).length ≤ 4 := sgl_len i (spB innS i)
  have h2 : (innM j).length ≤ 4 := sgl_len j (spB innS j)
  simp only [List.length_append]
  split <;> split <;> simp only [List.length_cons, List.length_nil] <;> omega
theorem pie_len (t : Nat → Bool) (i : Nat) : (pieM t i).length ≤ 9 := by
  unfold pieM
  split
  · exact run_len _ _
  · exact Nat.zero_le _
theorem bod_succ (t : Nat → Bool) (n : Nat) : bodM t (n + 1) = bodM t n ++ pieM t n := by
  unfold bodM
  rw [List.range_succ, List.flatMap_append]
  simp
theorem bod_len (t : Nat → Bool) : ∀ n, (bodM t n).length ≤ 9 * n
  | 0 => Nat.le_refl _
  | n + 1 => by
    rw [bod_succ, List.length_append]
    have := bod_len t n
    have := pie_len t n
    omega
theorem bod_off {t : Nat → Bool} {i : Nat} (h : t i = false) : bodM t (i + 1) = bodM t i := by
  rw [bod_succ]
  unfold pieM
  rw [h]
  simp
theorem pie_in {t : Nat → Bool} {k : Nat} (h0 : 0 < k) (h : t (k - 1) = true) : pieM t k = [] := by
  unfold pieM
  rw [h, decide_eq_true h0]
  simp
theorem bod_to {t : Nat → Bool} {i : Nat} : ∀ d, (∀ k, i ≤ k → k < i + d → t k = true) → bodM t (i + 1 + d) = bodM t (i + 1)
  | 0, _ => rfl
  | d + 1, h => by
    rw [show i + 1 + (d + 1) = (i + 1 + d) + 1 by omega, bod_succ, pie_in (by omega) (h _ (by omega) (by omega)), List.append_nil]
    exact bod_to d fun k h1 h2 => h k h1 (by omega)
theorem bod_run {t : Nat → Bool} {i j : Nat} (hi : t i = true) (hp : i = 0 ∨ t (i - 1) = false) (h1 : i ≤ j) (h2 : j ≤ 255) (h : ∀ k, i < k → k ≤ j → t k = true) (he : j = 255 ∨ t (j + 1) = false) : bodM t (j + 1) = bodM t i ++ rngM i j := by
  have := bod_to (t := t) (i := i) (j - i) fun k hk1 hk2 => by
    rcases Nat.lt_or_eq_of_le hk1 with hk | rfl
    · exact h k hk (by omega)
    · exact hi
  rw [show j + 1 = i + 1 + (j - i) by omega, this, bod_succ]
  congr 1
  unfold pieM
  have e : (decide (0 < i) && t (i - 1)) = false := by
    rcases hp with rfl | hp
    · rfl
    · rw [hp]; simp
  rw [hi, e, hi_eq h1 h2 h he]
  rfl
/-- A set as text. -/
def showM (s : BitVec 256) : List Nat := if countM s = 1 then sglM (nextM s 0).1 (spB specS (nextM s 0).1) else (if 128 < countM s then [91, 94] else [91]) ++ bodM (fun k => (if 128 < countM s then ~~~s else s).getLsbD k) 256 ++ [93]
theorem show_len (s : BitVec 256) : (showM s).length ≤ 2400 := by
  unfold showM
  split
  · exact Nat.le_trans (sgl_len _ _) (by decide)
  · have := bod_len (fun k => (if 128 < countM s then ~~~s else s).getLsbD k) 256
    generalize bodM (fun k => (if 128 < countM s then ~~~s else s).getLsbD k) 256 = l at *
    have h2 : (if 128 < countM s then [91, 94] else [91] : List Nat).length ≤ 2 := by split <;> decide
    simp only [List.length_append, List.length_singleton]
    omega
end Go.Proofs.YthomdogheamfpaaDoor
/- class.Show: the walk (printed by mkshw4.py). -/
set_option linter.unusedVariables false
set_option linter.unusedSimpArgs false
set_option maxRecDepth 100000
namespace Go.Proofs.YthomdogheamfpaaDoor
open Go.VC Go.Lib
theorem bsz (w : List Nat) : (bA w).size = w.length := by unfold bA; simp [ByteArray.size]
theorem cat_sz {u v : List Nat} (hu : u.length ≤ 4096) (hv : v.length ≤ 4096) : (bA u).size + (bA v).size ≤ maxLen := by
  rw [bsz, bsz]
  unfold maxLen
  omega
set_option maxHeartbeats 16000000 in
theorem show_p {H : Heap} {s : BitVec 256} (hE : EscH H) : Pure Tryd.prog 52 #[setV s] H (.string (bA (showM s))) := by
  refine FnOk.of_vc Tryd.func52 rfl (Tryd.call52 _) ?_
  have hld : ∀ {G : Heap} {p : Nat} {x : BitVec 256}, Blk G p 73 (setL x) → Cells G p 0 (setL x) := fun h => h.cells fun j v hv => by rw [Nat.zero_add]; exact hv
  (conv => whnf); refine vbox (setL s) rfl ?_
  intro p H1 hp hs1 hb1 ha1
  have st1 := (St.nil H).box hp hs1 hb1 ha1
  (conv => whnf); refine ldN (cs := setL s) ag73 (hld (st1.blk 0 rfl)) trivial ?_
  (conv => whnf); refine pures (count_p s H1) fun H2 ha2 => ?_
  have st2 := st1.call ha2
  by_cases h1 : countM s = 1
  · have d1 : ((countM s : Int) == 1) = true := by rw [h1]; rfl
    have hsh : showM s = sglM (nextM s 0).1 (spB specS (nextM s 0).1) := if_pos h1
    (conv => whnf); rw [d1]
    (conv => whnf); refine ldN (cs := setL s) ag73 (hld (st2.blk 0 rfl)) trivial ?_
    (conv => whnf); refine pures (next_p s 0 (by decide) H2) fun H3 ha3 => ?_
    have st3 := st2.call ha3
    (conv => whnf); refine pures (single_p (s := specS) (hE.agr st3.old) (nextM_lt s 0)) fun H4 ha4 => ?_
    (conv => whnf)
    rw [hsh]
    exact ⟨rfl, (st3.call ha4).old⟩
  · have d1 : ((countM s : Int) == 1) = false := beq_eq_false_iff_ne.2 (by omega)
    (conv => whnf); rw [d1]
    obtain ⟨u, hu⟩ : ∃ u, u = (if 128 < countM s then ~~~s else s) := ⟨_, rfl⟩
    obtain ⟨opn, ho⟩ : ∃ l : List Nat, l = (if 128 < countM s then [91, 94] else [91]) := ⟨_, rfl⟩
    have hsh : showM s = opn ++ bodM (fun k => u.getLsbD k) 256 ++ [93] := by rw [hu, ho]; exact if_neg h1
    have hol : opn.length ≤ 2 := by rw [ho]; split <;> decide
    (conv => whnf)
    refine VSeq.cut [6] (fun _ : Unit => [.string (bA opn)]) (fun _ H3 => St H H3 [pB 73 p (setL u)]) ?_ ?_
    · by_cases h128 : 128 < countM s
      · have d2 : decide ((countM s : Int) > 128) = true := decide_eq_true (by omega)
        (conv => whnf); rw [d2]
        (conv => whnf); refine ldN (cs := setL s) ag73 (hld (st2.blk 0 rfl)) trivial ?_
        (conv => whnf); refine pures (not_c s H2) fun H3 ha3 => ?_
        (conv => whnf); refine stNB (cs := setL (~~~s)) (st2.call ha3) 0 rfl rfl (Nat.le_refl _) rfl fun H4 st4 => ?_
        rw [splice_all (show (setL (~~~s)).length = (setL s).length from rfl)] at st4
        (conv => whnf)
        exact ⟨rfl, (), by rw [ho, if_pos h128]; rfl, by rw [hu, if_pos h128]; exact st4⟩
      · have d2 : decide ((countM s : Int) > 128) = false := decide_eq_false (by omega)
        (conv => whnf); rw [d2]
        (conv => whnf)
        exact ⟨rfl, (), by rw [ho, if_neg h128]; rfl, by rw [hu, if_neg h128]; exact st2⟩
    · rintro ⟨⟩ H3 junk3 st3
      rw [hsh]
      clear hsh ho hu st1 st2
      obtain ⟨t, ht⟩ : ∃ t : Nat → Bool, t = fun k => u.getLsbD k := ⟨_, rfl⟩
      have htk : ∀ k, u.getLsbD k = t k := fun k => by rw [ht]
      rw [← ht]
      have hbl : ∀ n, n ≤ 256 → (opn ++ bodM t n).length ≤ 2306 := fun n hn => by
        have := bod_len t n
        rw [List.length_append]
        omega
      (conv => whnf)
      refine VLoop.mk [6, 7] (fun i : Nat => [.string (bA (opn ++ bodM t i)), .int .i64 (i : Int)]) (fun i H4 => i ≤ 256 ∧ (i = 0 ∨ i = 256 ∨ t (i - 1) = false ∨ t i = false) ∧ St H H4 [pB 73 p (setL u)]) (fun i _ => 256 - i) ?_ ?_
      · (conv => whnf)
        exact ⟨0, by rw [show bodM t 0 = [] from rfl, List.append_nil]; rfl, Nat.zero_le _, .inl rfl, st3⟩
      · clear st3
        rintro i H4 junk4 ⟨hi, hpre, st4⟩
        (conv => whnf); refine VIte.mk (fun hz => ?_) (fun hz => ?_) <;> simp only [decide_eq_true_eq, decide_eq_false_iff_not] at hz
        · have hi8 : i < 256 := by omega
          (conv => whnf); refine VSeq.run ?_
          (conv => whnf); refine ldN (cs := setL u) ag73 (hld (st4.blk 0 rfl)) trivial ?_
          (conv => whnf); rw [w8 (x := (i : Int)) (by omega) (by omega)]
          (conv => whnf); refine pures (has_c u i hi8 H4) fun H5 ha5 => ?_
          have st5 := st4.call ha5
          rw [htk]
          cases hti : t i with
          | false =>
            (conv => whnf); rw [w64 (x := (i : Int) + 1) (by omega) (by omega)]
            exact ⟨rfl, i + 1, by rw [bod_off hti]; simp, ⟨by omega, .inr (.inr (.inl hti)), st5⟩, by omega⟩
          | true =>
            have hpr : i = 0 ∨ t (i - 1) = false := by
              rcases hpre with h | h | h | h
              · exact .inl h
              · omega
              · exact .inr h
              · rw [hti] at h; cases h
            (conv => whnf)
            refine VLoop.mk [8] (fun j : Nat => [.int .i64 (j : Int)]) (fun j H6 => i ≤ j ∧ j ≤ 255 ∧ (∀ k, i < k → k ≤ j → t k = true) ∧ St H H6 [pB 73 p (setL u)]) (fun j _ => 255 - j) ?_ ?_
            · (conv => whnf)
              exact ⟨i, rfl, Nat.le_refl _, by omega, fun k h1 h2 => by omega, st5⟩
            · clear st5 st4 ha5
              rintro j H6 junk6 ⟨hij, hj, hrun, st6⟩
              by_cases hj2 : j < 255
              · have d3 : decide ((j : Int) < 255) = true := decide_eq_true (by omega)
                (conv => whnf); rw [d3]
                (conv => whnf); refine ldN (cs := setL u) ag73 (hld (st6.blk 0 rfl)) trivial ?_
                (conv => whnf); rw [w64 (x := (j : Int) + 1) (by omega) (by omega)]
                (conv => whnf); rw [w8 (x := (j : Int) + 1) (by omega) (by omega)]
                rw [show (j : Int) + 1 = ((j + 1 : Nat) : Int) by omega]
                (conv => whnf); refine pures (has_c u (j + 1) (by omega) H6) fun H7 ha7 => ?_
                have st7 := st6.call ha7
                rw [htk]
                cases htj : t (j + 1) with
                | true =>
                  (conv => whnf); rw [w64 (x := (j : Int) + 1) (by omega) (by omega)]
                  refine ⟨rfl, j + 1, by simp, ⟨by omega, by omega, fun k h1 h2 => ?_, st7⟩, by omega⟩
                  rcases Nat.lt_or_eq_of_le h2 with h2 | rfl
                  · exact hrun k h1 (by omega)
                  · exact htj
                | false =>
                  have he : j = 255 ∨ t (j + 1) = false := .inr htj
                  have hbr := bod_run hti hpr hij hj hrun he
                  have hil : (sglM i (spB innS i)).length ≤ 4 := sgl_len _ _
                  have hjl : (sglM j (spB innS j)).length ≤ 4 := sgl_len _ _
                  have hbi : opn.length + (bodM t i).length ≤ 2306 := by rw [← List.length_append]; exact hbl i (by omega)
                  (conv => whnf); rw [w8 (x := (i : Int)) (by omega) (by omega)]
                  (conv => whnf); refine pures (single_p (s := innS) (hE.agr st7.old) hi8) fun H8 ha8 => ?_
                  have st8 := st7.call ha8
                  (conv => whnf); refine vcat (cat_sz (by rw [List.length_append]; omega) (show (sglM i (spB innS i)).length ≤ 4096 by omega)) ?_
                  rw [bA_cat]
                  (conv => whnf); refine VSeq.run ?_
                  (conv => whnf); rw [w64 (x := (i : Int) + 1) (by omega) (by omega)]
                  rcases (show j = i ∨ j = i + 1 ∨ i + 1 < j by omega) with hc3 | hc3 | hc3
                  · have e1 : decide ((j : Int) > (i : Int) + 1) = false := decide_eq_false (by omega)
                    have e2 : decide ((j : Int) > (i : Int)) = false := decide_eq_false (by omega)
                    (conv => whnf); rw [e1]
                    (conv => whnf); refine VSeq.run ?_
                    (conv => whnf); rw [e2]
                    (conv => whnf); rw [w64 (x := (j : Int) + 1) (by omega) (by omega)]
                    refine ⟨rfl, j + 1, ?_, ⟨by omega, ?_, st8⟩, by omega⟩
                    · rw [hbr]
                      unfold rngM
                      rw [if_neg (by omega), if_neg (by omega)]
                      simp
                    · rcases he with he | he
                      · exact .inr (.inl (by omega))
                      · exact .inr (.inr (.inr he))
                  · have e1 : decide ((j : Int) > (i : Int) + 1) = false := decide_eq_false (by omega)
                    have e2 : decide ((j : Int) > (i : Int)) = true := decide_eq_true (by omega)
                    (conv => whnf); rw [e1]
                    (conv => whnf); refine VSeq.run ?_
                    (conv => whnf); rw [e2]
                    (conv => whnf); rw [w8 (x := (j : Int)) (by omega) (by omega)]
                    (conv => whnf); refine pures (single_p (s := innS) (hE.agr st8.old) (show j < 256 by omega)) fun H9 ha9 => ?_
                    have st9 := st8.call ha9
                    (conv => whnf); refine vcat (cat_sz (by simp only [List.length_append]; omega) (show (sglM j (spB innS j)).length ≤ 4096 by omega)) ?_
                    rw [bA_cat]
                    (conv => whnf); rw [w64 (x := (j : Int) + 1) (by omega) (by omega)]
                    refine ⟨rfl, j + 1, ?_, ⟨by omega, ?_, st9⟩, by omega⟩
                    · rw [hbr]
                      unfold rngM
                      rw [if_neg (by omega), if_pos (by omega)]
                      simp
                    · rcases he with he | he
                      · exact .inr (.inl (by omega))
                      · exact .inr (.inr (.inr he))
                  · have e1 : decide ((j : Int) > (i : Int) + 1) = true := decide_eq_true (by omega)
                    have e2 : decide ((j : Int) > (i : Int)) = true := decide_eq_true (by omega)
                    (conv => whnf); rw [e1]
                    (conv => whnf); refine vcat (cat_sz (v := [45]) (by simp only [List.length_append]; omega) (by decide)) ?_
                    rw [show (⟨#[45]⟩ : ByteArray) = bA [45] from rfl, bA_cat]
                    (conv => whnf); refine VSeq.run ?_
                    (conv => whnf); rw [e2]
                    (conv => whnf); rw [w8 (x := (j : Int)) (by omega) (by omega)]
                    (conv => whnf); refine pures (single_p (s := innS) (hE.agr st8.old) (show j < 256 by omega)) fun H9 ha9 => ?_
                    have st9 := st8.call ha9
                    (conv => whnf); refine vcat (cat_sz (by simp only [List.length_append, List.length_singleton]; omega) (show (sglM j (spB innS j)).length ≤ 4096 by omega)) ?_
                    rw [bA_cat]
                    (conv => whnf); rw [w64 (x := (j : Int) + 1) (by omega) (by omega)]
                    refine ⟨rfl, j + 1, ?_, ⟨by omega, ?_, st9⟩, by omega⟩
                    · rw [hbr]
                      unfold rngM
                      rw [if_pos (by omega), if_pos (by omega)]
                      simp
                    · rcases he with he | he
                      · exact .inr (.inl (by omega))
                      · exact .inr (.inr (.inr he))
              · have d3 : decide ((j : Int) < 255) = false := decide_eq_false (by omega)
                have he : j = 255 ∨ t (j + 1) = false := .inl (by omega)
                have st7 := st6
                have H7 := H6
                (conv => whnf); rw [d3]
                have hbr := bod_run hti hpr hij hj hrun he
                have hil : (sglM i (spB innS i)).length ≤ 4 := sgl_len _ _
                have hjl : (sglM j (spB innS j)).length ≤ 4 := sgl_len _ _
                have hbi : opn.length + (bodM t i).length ≤ 2306 := by rw [← List.length_append]; exact hbl i (by omega)
                (conv => whnf); rw [w8 (x := (i : Int)) (by omega) (by omega)]
                (conv => whnf); refine pures (single_p (s := innS) (hE.agr st7.old) hi8) fun H8 ha8 => ?_
                have st8 := st7.call ha8
                (conv => whnf); refine vcat (cat_sz (by rw [List.length_append]; omega) (show (sglM i (spB innS i)).length ≤ 4096 by omega)) ?_
                rw [bA_cat]
                (conv => whnf); refine VSeq.run ?_
                (conv => whnf); rw [w64 (x := (i : Int) + 1) (by omega) (by omega)]
                rcases (show j = i ∨ j = i + 1 ∨ i + 1 < j by omega) with hc3 | hc3 | hc3
                · have e1 : decide ((j : Int) > (i : Int) + 1) = false := decide_eq_false (by omega)
                  have e2 : decide ((j : Int) > (i : Int)) = false := decide_eq_false (by omega)
                  (conv => whnf); rw [e1]
                  (conv => whnf); refine VSeq.run ?_
                  (conv => whnf); rw [e2]
                  (conv => whnf); rw [w64 (x := (j : Int) + 1) (by omega) (by omega)]
                  refine ⟨rfl, j + 1, ?_, ⟨by omega, ?_, st8⟩, by omega⟩
                  · rw [hbr]
                    unfold rngM
                    rw [if_neg (by omega), if_neg (by omega)]
                    simp
                  · rcases he with he | he
                    · exact .inr (.inl (by omega))
                    · exact .inr (.inr (.inr he))
                · have e1 : decide ((j : Int) > (i : Int) + 1) = false := decide_eq_false (by omega)
                  have e2 : decide ((j : Int) > (i : Int)) = true := decide_eq_true (by omega)
                  (conv => whnf); rw [e1]
                  (conv => whnf); refine VSeq.run ?_
                  (conv => whnf); rw [e2]
                  (conv => whnf); rw [w8 (x := (j : Int)) (by omega) (by omega)]
                  (conv => whnf); refine pures (single_p (s := innS) (hE.agr st8.old) (show j < 256 by omega)) fun H9 ha9 => ?_
                  have st9 := st8.call ha9
                  (conv => whnf); refine vcat (cat_sz (by simp only [List.length_append]; omega) (show (sglM j (spB innS j)).length ≤ 4096 by omega)) ?_
                  rw [bA_cat]
                  (conv => whnf); rw [w64 (x := (j : Int) + 1) (by omega) (by omega)]
                  refine ⟨rfl, j + 1, ?_, ⟨by omega, ?_, st9⟩, by omega⟩
                  · rw [hbr]
                    unfold rngM
                    rw [if_neg (by omega), if_pos (by omega)]
                    simp
                  · rcases he with he | he
                    · exact .inr (.inl (by omega))
                    · exact .inr (.inr (.inr he))
                · have e1 : decide ((j : Int) > (i : Int) + 1) = true := decide_eq_true (by omega)
                  have e2 : decide ((j : Int) > (i : Int)) = true := decide_eq_true (by omega)
                  (conv => whnf); rw [e1]
                  (conv => whnf); refine vcat (cat_sz (v := [45]) (by simp only [List.length_append]; omega) (by decide)) ?_
                  rw [show (⟨#[45]⟩ : ByteArray) = bA [45] from rfl, bA_cat]
                  (conv => whnf); refine VSeq.run ?_
                  (conv => whnf); rw [e2]
                  (conv => whnf); rw [w8 (x := (j : Int)) (by omega) (by omega)]
                  (conv => whnf); refine pures (single_p (s := innS) (hE.agr st8.old) (show j < 256 by omega)) fun H9 ha9 => ?_
                  have st9 := st8.call ha9
                  (conv => whnf); refine vcat (cat_sz (by simp only [List.length_append, List.length_singleton]; omega) (show (sglM j (spB innS j)).length ≤ 4096 by omega)) ?_
                  rw [bA_cat]
                  (conv => whnf); rw [w64 (x := (j : Int) + 1) (by omega) (by omega)]
                  refine ⟨rfl, j + 1, ?_, ⟨by omega, ?_, st9⟩, by omega⟩
                  · rw [hbr]
                    unfold rngM
                    rw [if_pos (by omega), if_pos (by omega)]
                    simp
                  · rcases he with he | he
                    · exact .inr (.inl (by omega))
                    · exact .inr (.inr (.inr he))
        · obtain rfl : i = 256 := by omega
          (conv => whnf); refine vcat (cat_sz (v := [93]) (Nat.le_trans (hbl 256 (Nat.le_refl _)) (by decide)) (by decide)) ?_
          rw [show (⟨#[93]⟩ : ByteArray) = bA [93] from rfl, bA_cat]
          (conv => whnf)
          exact ⟨rfl, st4.old⟩
end Go.Proofs.YthomdogheamfpaaDoor
/- louperef01.Count: the walk. -/
set_option linter.unusedVariables false
set_option linter.unusedSimpArgs false
set_option maxRecDepth 100000
namespace Go.Proofs.YthomdogheamfpaaDoor
open Go.VC Go.Lib
end Go.Proofs.YthomdogheamfpaaDoor
/- louperef01.Show: the walk (printed by mkshw6.py). -/
set_option linter.unusedVariables false
set_option linter.unusedSimpArgs false
set_option maxRecDepth 100000
namespace Go.Proofs.YthomdogheamfpaaDoor
open Go.VC Go.Lib
theorem neqZ {P : Program} {t : TypeId} {x y : Operand} {S : Nat → Prop} {H : Heap} {K : Value → Prop} {a b z : Bool} (h : P.underlying t = some .bool) (hz : (a != b) = z) (k : K (.bool z)) : VDet P (do eqGuard .neq t x y (.bool a) (.bool b); binOp .neq t (.bool a) (.bool b)) S H K := by
  subst hz
  exact bneq_b h k
theorem eqZ {P : Program} {t : TypeId} {x y : Operand} {S : Nat → Prop} {H : Heap} {K : Value → Prop} {a b z : Bool} (h : P.underlying t = some .bool) (hz : (a == b) = z) (k : K (.bool z)) : VDet P (do eqGuard .eql t x y (.bool a) (.bool b); binOp .eql t (.bool a) (.bool b)) S H K := by
  subst hz
  exact beq_b h k
end Go.Proofs.YthomdogheamfpaaDoor
/- Nondeterministic automata, plain: what silent edges reach, what a text reaches. -/
set_option linter.unusedVariables false
set_option linter.unusedSimpArgs false
namespace Go.Proofs.YthomdogheamfpaaDoor
open Go.VC
structure EdM where
  fr : Int
  to : Int
  sil : Bool
  set : BitVec 256
structure NfM where
  st : Int
  start : Int
  fin : Int
  edges : List EdM
def NfM.has (a : NfM) (q : Int) : Bool := decide (0 ≤ q) && decide (q < a.st) && decide (a.st ≤ 65536)
/-- What silent edges reach. -/
inductive Sils (a : NfM) : Int → Int → Prop
  | refl (p : Int) : Sils a p p
  | step {p : Int} {e : EdM} : Sils a p e.fr → e ∈ a.edges → e.sil = true → a.has e.to = true → Sils a p e.to
abbrev PS := Int → Prop
def clS (a : NfM) (X : PS) : PS := fun q => ∃ p, X p ∧ Sils a p q
def hopS (a : NfM) (X : PS) (b : Nat) : PS := fun q => ∃ e ∈ a.edges, e.sil = false ∧ e.set.getLsbD b = true ∧ X e.fr ∧ a.has e.to = true ∧ q = e.to
def goS (a : NfM) (X : PS) (b : Nat) : PS := clS a (hopS a X b)
/-! ### sorted lists -/
open Classical in
/-- The list of a set of states, rising. -/
noncomputable def lstS (X : PS) : List Int := ((List.range 65536).map fun (n : Nat) => (n : Int)).filter fun q => decide (X q)
/-! ### a text of two parts -/
/-! ### turned round -/
/-- A way through the automaton that reads a text. -/
inductive Way (a : NfM) : Int → List Nat → Int → Prop
  | nil {p : Int} : a.has p = true → Way a p [] p
  | sil {e : EdM} {s : List Nat} {q : Int} : e ∈ a.edges → e.sil = true → a.has e.fr = true → Way a e.to s q → Way a e.fr s q
  | hop {e : EdM} {b : Nat} {s : List Nat} {q : Int} : e ∈ a.edges → e.sil = false → e.set.getLsbD b = true → a.has e.fr = true → Way a e.to s q → Way a e.fr (b :: s) q
end Go.Proofs.YthomdogheamfpaaDoor
/- Taking a map's slice out, and laying it again by an update. -/
set_option linter.unusedVariables false
set_option linter.unusedSimpArgs false
namespace Go.VC
section
variable {α β : Type} {Ok : α → Prop} {enc : α → Value} {T : Ty β} {e : TypeId} {b : Nat} {m : α → Option Value} {xs : α → List β} {B : Nat → Prop} {H0 H H' : Heap} {ps : List Pc} {P : Program} {t kt et : TypeId} {a : α}
end
end Go.VC
/- Nondeterministic automata in memory. -/
set_option linter.unusedVariables false
set_option linter.unusedSimpArgs false
set_option maxRecDepth 100000
namespace Go.Proofs.YthomdogheamfpaaDoor
open Go.VC
/-- An edge of the program's. -/
def edL (e : EdM) : List Value := [.int .i64 e.fr, .int .i64 e.to, .bool e.sil, .int .u64 (wd e.set 0), .int .u64 (wd e.set 1), .int .u64 (wd e.set 2), .int .u64 (wd e.set 3)]
def EdM.Ok (e : EdM) : Prop := inK .i64 e.fr ∧ inK .i64 e.to
def tEd : Ty EdM where
  size := 7
  rep _ _ cs e := cs = edL e ∧ e.Ok
  len h := by rw [h.1]; rfl
  frame h _ := h
  mono h _ := h
section
variable {S S' : Nat → Prop} {H H' : Heap} {v : Value} {a : NfM}
end
/-! ### has -/
end Go.Proofs.YthomdogheamfpaaDoor
/- Regions whose order is open, with operations under conditions. -/
set_option linter.unusedVariables false
set_option linter.unusedSimpArgs false
namespace Go.VC
/-- An operation's condition: what is asked where it is wanted, and where it isn't. -/
def whenK (all : List Oper) (o : Oper) (fr : Fr) (yes no : Fr → Prop) : Prop :=
  match o.guard with
  | none => yes fr
  | some (j, want) => match (all[j]?).bind (·.dst) with
    | none => False
    | some t => rdK fr t fun v => match v with
      | .bool b => VIte b
        (wrK fr t (.bool true) fun fr1 => match want with
          | true => yes fr1
          | false => no fr1)
        (wrK fr t (.bool false) fun fr1 => match want with
          | false => yes fr1
          | true => no fr1)
      | .tuple _ => no fr
      | _ => False
theorem whenK_sound {all : List Oper} {o : Oper} {fr : Fr} {a : Act} {yes no : Fr → Prop} (hat : At fr a) (h : whenK all o fr yes no) :
    (Region.wanted o (yielded all.toArray a.tmps) = true ∧ yes fr) ∨ (Region.wanted o (yielded all.toArray a.tmps) = false ∧ no fr) := by
  unfold whenK at h
  split at h
  · rename_i hg
    exact .inl ⟨by simp [Region.wanted, hg], h⟩
  · rename_i j want hg
    split at h
    · exact h.elim
    · rename_i t ht
      rw [rdK_eq] at h
      split at h
      · rename_i b hb
        have hy := yielded_at hat ht hb
        have hs : fr.set t (.bool b) = fr := rd_set_self hb (by simp [undef])
        cases b <;> cases want <;> simp only [VIte, wrK_eq, hs] at h
        · exact .inl ⟨by simp [Region.wanted, hg, hy], h⟩
        · exact .inr ⟨by simp [Region.wanted, hg, hy], h⟩
        · exact .inr ⟨by simp [Region.wanted, hg, hy], h⟩
        · exact .inl ⟨by simp [Region.wanted, hg, hy], h⟩
      · rename_i vs hb
        exact .inr ⟨by simp [Region.wanted, hg, yielded_no hat ht hb], h⟩
      · exact h.elim
def skipG (o : Oper) (H : Heap) (K : Fr → Heap → Prop) (fr : Fr) : Prop := putK o.dst fr undef fun fr' => apK K fr' H
def quietG (P : Program) (S : Nat → Prop) (o : Oper) (H : Heap) (K : Fr → Heap → Prop) (fr : Fr) : Prop :=
  match isDet o && convDet P o with
  | true => detK P S o fr H fun v => putK o.dst fr v fun fr' => apK K fr' H
  | false => False
def doG (P : Program) (S : Nat → Prop) (z : Bool) (H0 : Heap) (o : Oper) (H : Heap) (K : Fr → Heap → Prop) (fr : Fr) : Prop :=
  match z with
  | true => opK P false (fun _ => True) o fr H fun v H' => putK o.dst fr v fun fr' => apK K fr' H'
  | false => opK P false (fun _ => True) o fr H fun v H' => Agr S H0 H' ∧ putK o.dst fr v fun fr' => apK K fr' H'
def stepG (P : Program) (S : Nat → Prop) (Z : List Nat) (H0 : Heap) (all : List Oper) (i : Nat) (fr : Fr) (H : Heap) (next : Fr → Heap → Prop) : Prop :=
  match all[i]? with
  | none => False
  | some o => whenK all o fr (doG P S (Z.contains i) H0 o H next) (skipG o H next)
theorem stepG_sound {P : Program} {S : Nat → Prop} {Z : List Nat} {w0 : World} {all : List Oper} {Q : Exit → Act → World → Prop} {i : Nat} {fr : Fr} {a : Act} {w : World} {next : Fr → Heap → Prop} {N : Act → World → Prop}
    (hat : At fr a) (hc : Env w0 w) (hcl : Z.contains i = false → Cls w0 S w) (h : stepG P S Z w0.heap all i fr w.heap next)
    (hn : ∀ fr' a' w', At fr' a' → Env w0 w' → (Z.contains i = false → Cls w0 S w') → next fr' w'.heap → N a' w') : wpOp P all.toArray Q i N a w := by
  unfold stepG at h
  split at h
  · exact h.elim
  · rename_i o ho
    have ho' : all.toArray[i]? = some o := by simpa using ho
    rcases whenK_sound hat h with ⟨hwant, h⟩ | ⟨hwant, h⟩
    · unfold wpOp
      rw [ho']
      dsimp only
      rw [if_pos hwant]
      unfold doG at h
      split at h
      · rename_i hz
        refine .inl (Oper.wp_mono ?_ (opK_sound hat h _))
        rintro a' w' ⟨v, rfl, henv, hk⟩
        rw [putK_eq] at hk
        exact hn _ _ _ (hat.put o.dst v) (hc.trans henv) (fun hne => by rw [hz] at hne; cases hne) hk
      · refine .inl (Oper.wp_mono ?_ (opK_sound hat h _))
        rintro a' w' ⟨v, rfl, henv, hagr, hk⟩
        rw [putK_eq] at hk
        exact hn _ _ _ (hat.put o.dst v) (hc.trans henv) (fun _ => ⟨hc.trans henv, hagr⟩) hk
    · unfold wpOp
      rw [ho']
      dsimp only
      rw [if_neg (by rw [hwant]; exact Bool.false_ne_true)]
      unfold skipG at h
      rw [putK_eq] at h
      exact hn _ _ _ (hat.put o.dst undef) hc hcl h
end Go.VC
/- The library's slices.Sort at []int, by the kit's shelf (laid by its tool); as an operation on own slices. -/
set_option linter.unusedVariables false
set_option linter.unusedSimpArgs false
set_option maxRecDepth 100000
namespace Go.VC
open Go.Sort
/-- A function that sorts ints. -/
structure SortsI (P : Program) (f : FuncId) : Prop where
  call : ∀ (args : Array Value) (w : World), (callFunc f args).run P w = .ok (.enter f args) w
  some_ : ∀ (blk off cap : Nat) (zs : List Int) (w : World), Holds (Value.int .i64) w blk off zs.toArray → blk < w.heap.size → zs.length < 4611686018427387904 →
    Calls P f #[.slice (some ⟨blk, off, none⟩) zs.length cap] w fun e w' => e = .returned (.tuple #[]) ∧ ∃ n os, w' = grow (putRow (Value.int .i64) (Sort.ahead w n) blk off (zs.mergeSort fun x y => decide (x ≤ y)).toArray) os
  none_ : ∀ (p : Option Addr) (cap : Nat) (w : World), Calls P f #[.slice p 0 cap] w fun e w' => e = .returned (.tuple #[]) ∧ w' = w
end Go.VC
namespace Go.Proofs.YthomdogheamfpaaDoor
open Go.VC
end Go.Proofs.YthomdogheamfpaaDoor
/- A range over a function: its rounds, and the code around it (the calculus once more, within a fence that holds everything). -/
set_option linter.unusedVariables false
set_option linter.unusedSimpArgs false
namespace Go.VC
/-- The fence that holds everything; ro: the round that the frame is of. -/
def FW (ro : Option Nat) : Fence := { Fence.wide with round := ro }
/-- The marks that loops over functions have left. -/
def marks (ds : List Nat) : List Deferred := ds.map fun D => { target := .collected D, args := #[] }
structure AtD (ds : List Nat) (fr : Fr) (a : Act) : Prop where
  tmps : a.tmps.toList = fr
  defers : a.defers = marks ds
/-! ### yield -/
/-- A call of yield. -/
structure VRound (P : Program) (l : Nat) (args : Array Value) (H : Heap) (K : Value → Heap → Prop) : Prop where
  in_ ::
  out_ : ∀ w : World, w.heap = H → ∃ f tmps assign body, (Instr.yield l args).run P w = .ok (.round l f tmps assign body) w ∧ RoundIn (FW none) 0 P l f tmps assign body w fun e w' => ∃ v, e = .returned v ∧ Env w w' ∧ K v w'.heap
/-- One operation; a call of yield is taken in, a deferred call is not. -/
def yK (P : Program) (o : Oper) (fr : Fr) (H : Heap) (K : Value → Heap → Prop) : Prop :=
  match o.op with
  | .call { callee := .value f, args, .. } => evK fr f fun g => match g with
    | .func (.yield l) first cap => evsK fr args.toList fun vs => VRound P l (first.toList ++ vs).toArray H K
    | _ => opK P false (fun _ => True) o fr H K
  | .defer _ => False
  | _ => opK P false (fun _ => True) o fr H K
/-- An operation under a condition. -/
def guardYK (P : Program) (o : Oper) (want : Bool) (t : Nat) (fr : Fr) (H : Heap) (K : Fr → Heap → Prop) : Prop :=
  rdK fr t fun v => match v with
    | .bool b => VIte b
      (wrK fr t (.bool true) fun fr1 => match want with
        | true => yK P o fr1 H fun v H' => putK o.dst fr1 v fun fr' => apK K fr' H'
        | false => putK o.dst fr1 undef fun fr' => apK K fr' H)
      (wrK fr t (.bool false) fun fr1 => match want with
        | false => yK P o fr1 H fun v H' => putK o.dst fr1 v fun fr' => apK K fr' H'
        | true => putK o.dst fr1 undef fun fr' => apK K fr' H)
    | .tuple _ => putK o.dst fr undef fun fr' => apK K fr' H
    | _ => False
/-! ### code -/
abbrev KD := Fr → List Nat → Heap → Prop
def LiftD (w0 : World) (Q : Exit → Fr → List Nat → Heap → Prop) : Exit → Act → World → Prop
  | .panic _, _, _ => False
  | .outgrown, _, _ => False
  | e, a, w => ∃ fr ds, AtD ds fr a ∧ Env w0 w ∧ Q e fr ds w.heap
def exitKD (X : List (Nat × KD)) (id : Nat) (fr : Fr) (ds : List Nat) (H : Heap) : Prop :=
  match X with
  | [] => False
  | (j, k) :: X => match Nat.beq j id with
    | true => k fr ds H
    | false => exitKD X id fr ds H
def QxD (kn : KD) (X : List (Nat × KD)) (kr : KD) (e : Exit) (fr : Fr) (ds : List Nat) (H : Heap) : Prop :=
  match e with
  | .normal => kn fr ds H
  | .exit id => exitKD X id fr ds H
  | .ret => kr fr ds H
  | _ => False
structure VLoopD (P : Program) (ro : Option Nat) (c : Code) (fr : Fr) (ds : List Nat) (H : Heap) (X : List (Nat × KD)) (kr : KD) : Prop where
  in_ ::
  out_ : ∀ (n : Nat) (a : Act) (w : World), AtD ds fr a → w.heap = H → (Code.loop c).wpIn (FW ro) n P (LiftD w (QxD (fun _ _ _ => False) X kr)) a w
/-- A range over a function. -/
structure VRF (P : Program) (g : Operand) (ps : Array Tmp) (assign body : Code) (fr : Fr) (ds : List Nat) (H : Heap) (kn : KD) (X : List (Nat × KD)) (kr : KD) : Prop where
  in_ ::
  out_ : ∀ (n : Nat) (a : Act) (w : World), AtD ds fr a → w.heap = H → (Code.rangeFunc g ps assign body).wpIn (FW none) n P (LiftD w (QxD kn X kr)) a w
section
variable (P : Program) (ro : Option Nat) (a b : Code) (fr : Fr) (ds : List Nat) (H : Heap) (kn : KD) (X : List (Nat × KD)) (kr : KD)
end
/-! ### loops -/
/-! ### functions -/
/-- A function's end: the marks are taken, then the results are read. -/
structure VRet (P : Program) (rs : List ResultVar) (R : Value → Heap → Prop) (fr : Fr) (ds : List Nat) (H : Heap) : Prop where
  in_ ::
  nd : ds.Nodup
  open_ : ∀ D ∈ ds, H[D]? = some (.deferred (some []))
  res : ∀ H', Agr (fun k => k ∉ ds) H H' → H'.size = H.size → resK P rs fr H' R
/-! ### the statement, and its rounds -/
end Go.VC
/- Appending to an own slice that is used on as it was; pieces in another order, bundled, put aside. -/
set_option linter.unusedVariables false
set_option linter.unusedSimpArgs false
namespace Go.VC
section
variable {B : Nat → Prop} {H0 H : Heap} {ps qs : List Pc} {p : Pc}
end
section
variable {α : Type} {T : Ty α} {e : TypeId} {a : Option Addr} {n cap : Nat} {xs : List α} {B : Nat → Prop} {H0 H : Heap} {p1 p2 : Pc} {rest : List Pc}
end
end Go.VC
/- slices.Sorted of maps.Keys of a map of ints: the walk. -/
set_option linter.unusedVariables false
set_option linter.unusedSimpArgs false
set_option maxRecDepth 100000
namespace Go.VC
section
variable {B : Nat → Prop} {H0 H : Heap} {ps rest : List Pc}
end
end Go.VC
namespace Go.Proofs.YthomdogheamfpaaDoor
open Go.VC
abbrev kI : Int → Value := Value.int .i64
theorem keyIW : KeyW Tryd.prog 3 (anyK (α := Int)) kI := KeyW.ofE Tryd.underlying3 (keyI .i64)
theorem mapII : MapTW Tryd.prog 88 3 3 (.int .i64 0) := ⟨rfl, rfl⟩
abbrev Dom (mm : Int → Option Value) : Int → Prop := fun q => (mm q).isSome = true
abbrev tIk : Ty Int := tInt .i64
theorem kint {x : Int} (h : 0 ≤ x ∧ x < 65536) : inK .i64 x := ⟨by simp [IntKind.min, IntKind.signed, IntKind.bits]; omega, by simp [IntKind.max, IntKind.signed, IntKind.bits]; omega⟩
end Go.Proofs.YthomdogheamfpaaDoor
/- nfa.ways, nfa.settle: the walks. -/
set_option linter.unusedVariables false
set_option linter.unusedSimpArgs false
set_option maxRecDepth 100000
namespace Go.VC
end Go.VC
namespace Go.Proofs.YthomdogheamfpaaDoor
open Go.VC
/-- The edges that leave q. -/
def outP (a : NfM) (q : Int) (e : EdM) : Bool := a.has e.fr && a.has e.to && decide (e.fr = q)
def outE (a : NfM) (q : Int) : List EdM := a.edges.filter (outP a q)
/-! ### settle -/
/-- The map of the edges, to be read. -/
structure FromV (B : Nat → Prop) (H0 : Heap) (mb : Nat) (a : NfM) : Prop where
  ex : ∃ m, MapW anyK kI H0 mb m ∧ ∀ q, ∃ ad cap, slAt m q = .slice ad (outE a q).length cap ∧ SlD tEd B H0 ad cap (outE a q)
  at_ : B mb
structure StlR (a : NfM) (X : PS) (q : Int) (Y : PS) : Prop where
  sub : ∀ p, X p → Y p
  own : Y q
  new : ∀ p, Y p → X p ∨ Sils a q p
  shut : ∀ p, Y p → ¬ X p → ∀ e ∈ a.edges, e.sil = true → e.fr = p → a.has e.to = true → Y e.to
open Classical in
noncomputable def mss (X : PS) : Nat := (lstS fun p => ¬ X p).length
end Go.Proofs.YthomdogheamfpaaDoor
/- nfa.Reach, nfa.Accepts: the walks. -/
set_option linter.unusedVariables false
set_option linter.unusedSimpArgs false
set_option maxRecDepth 100000
namespace Go.Proofs.YthomdogheamfpaaDoor
open Go.VC
def byN (s : ByteArray) : List Nat := s.data.toList.map UInt8.toNat
end Go.Proofs.YthomdogheamfpaaDoor
/- Making automata deterministic: the plain law (names of sets, the walk by lengths and bytes). -/
set_option linter.unusedVariables false
set_option linter.unusedSimpArgs false
set_option maxRecDepth 100000
namespace Go.Proofs.YthomdogheamfpaaDoor
open Go.VC
/-! ### names -/
def digN (q : Int) : List Nat := (Go.Lib.itoa q).map UInt8.toNat
theorem digL_N (q : Int) : digL q = (digN q).map fun (x : Nat) => (x : Int) := by
  unfold digL digN
  rw [List.map_map]
  rfl
def valN (n : Nat) (l : List Nat) : Nat := l.foldl (fun n b => 10 * n + (b - 48)) n
theorem dec_spec (u : Nat) : (∀ b ∈ (Go.Lib.decDigits u).map UInt8.toNat, 48 ≤ b ∧ b ≤ 57) ∧ valN 0 ((Go.Lib.decDigits u).map UInt8.toNat) = u := by
  induction u using Nat.strongRecOn with
  | _ u ih =>
    rw [Go.Lib.decDigits]
    by_cases h : u < 10
    · rw [dif_pos h]
      have e : (UInt8.ofNat (48 + u)).toNat = 48 + u := by rw [UInt8.toNat_ofNat']; omega
      refine ⟨fun b hb => ?_, ?_⟩
      · simp only [List.map_cons, List.map_nil, List.mem_singleton, e] at hb; omega
      · simp only [List.map_cons, List.map_nil, e, valN, List.foldl_cons, List.foldl_nil]; omega
    · rw [dif_neg h]
      obtain ⟨h1, h2⟩ := ih (u / 10) (by omega)
      have e : (UInt8.ofNat (48 + u % 10)).toNat = 48 + u % 10 := by rw [UInt8.toNat_ofNat']; omega
      refine ⟨fun b hb => ?_, ?_⟩
      · rw [List.map_append, List.mem_append] at hb
        rcases hb with hb | hb
        · exact h1 b hb
        · simp only [List.map_cons, List.map_nil, List.mem_singleton, e] at hb; omega
      · unfold valN at h2 ⊢
        rw [List.map_append, List.foldl_append, h2]
        simp only [List.map_cons, List.map_nil, e, List.foldl_cons, List.foldl_nil]; omega
theorem dig_nat {q : Int} (h : 0 ≤ q) : digN q = (Go.Lib.decDigits q.toNat).map UInt8.toNat := by
  unfold digN Go.Lib.itoa
  rw [if_neg (by omega)]
theorem dig_rng {q : Int} (h : 0 ≤ q) : ∀ b ∈ digN q, 48 ≤ b ∧ b ≤ 57 := by rw [dig_nat h]; exact (dec_spec _).1
theorem dig_val {q : Int} (h : 0 ≤ q) : (valN 0 (digN q) : Int) = q := by rw [dig_nat h, (dec_spec _).2]; omega
theorem dec_len : ∀ (k u : Nat), u < 10 ^ (k + 1) → (Go.Lib.decDigits u).length ≤ k + 1
  | 0, u, h => by
    rw [Go.Lib.decDigits, dif_pos (by simpa using h)]; simp
  | k + 1, u, h => by
    rw [Go.Lib.decDigits]
    by_cases h1 : u < 10
    · rw [dif_pos h1]; simp
    · rw [dif_neg h1, List.length_append]
      have := dec_len k (u / 10) (by rw [Nat.div_lt_iff_lt_mul (by decide)]; rw [Nat.pow_succ] at h; omega)
      simp only [List.length_cons, List.length_nil]; omega
theorem dig_len {q : Int} (h : 0 ≤ q ∧ q < 65536) : (digN q).length ≤ 5 := by
  rw [dig_nat h.1, List.length_map]
  exact dec_len 4 _ (by omega)
theorem byN_of5 {l : List Nat} (h : ∀ x ∈ l, x < 256) : byN ⟨(l.map UInt8.ofNat).toArray⟩ = l := by
  unfold byN
  rw [List.map_map]
  refine (List.map_congr_left fun x hx => ?_).trans (List.map_id _)
  show (UInt8.ofNat x).toNat = x
  rw [UInt8.toNat_ofNat']
  exact Nat.mod_eq_of_lt (h x hx)
/-! ### the walk over all sets that words lead to -/
section
variable {K : Type} [DecidableEq K]
/-- The number of a thing among those found; a new one is put behind them while there is room. -/
def atF (most : Nat) (f : List K) (k : K) : Option (List K × Nat) := match f.findIdx? (· = k) with
  | some i => some (f, i)
  | none => if f.length < most then some (f ++ [k], f.length) else none
def rowF (most : Nat) (step : K → Nat → K) (x : K) (s : Option (List K × List Nat)) (b : Nat) : Option (List K × List Nat) :=
  s.bind fun p => (atF most p.1 (step x b)).map fun r => (r.1, p.2 ++ [r.2])
def rowsF (most : Nat) (step : K → Nat → K) (bs : List Nat) (start : K) : Nat → Option (List K × List (List Nat))
  | 0 => some ([start], [])
  | n + 1 => (rowsF most step bs start n).bind fun p => match p.1[n]? with
    | none => some p
    | some x => (bs.foldl (rowF most step x) (some (p.1, []))).map fun r => (r.1, p.2 ++ [r.2])
variable {most : Nat} {step : K → Nat → K} {bs : List Nat} {start : K}
theorem rowF_none (x : K) : ∀ l : List Nat, l.foldl (rowF most step x) none = none
  | [] => rfl
  | b :: l => by rw [List.foldl_cons]; exact rowF_none x l
theorem atF_some {f f' : List K} {k : K} {i : Nat} (h : atF most f k = some (f', i)) (hl : f.length ≤ most) (hn : f.Nodup) : f'[i]? = some k ∧ f'.length ≤ most ∧ f'.Nodup ∧ f <+: f' := by
  unfold atF at h
  cases hf : f.findIdx? (· = k) with
  | some j =>
    rw [hf] at h
    injection h with h
    injection h with h1 h2
    subst h1; subst h2
    obtain ⟨hj, h3, -⟩ := List.findIdx?_eq_some_iff_getElem.1 hf
    have h3 : f[j] = k := by simpa using h3
    exact ⟨by rw [List.getElem?_eq_getElem hj, h3], hl, hn, List.prefix_refl _⟩
  | none =>
    rw [hf] at h
    simp only at h
    split at h
    · rename_i hlt
      injection h with h
      injection h with h1 h2
      subst h1; subst h2
      have hno : k ∉ f := fun hk => by
        have := List.findIdx?_eq_none_iff.1 hf k hk
        simp at this
      refine ⟨by simp, by simp only [List.length_append, List.length_cons, List.length_nil]; omega, ?_, List.prefix_append _ _⟩
      rw [List.nodup_append]
      exact ⟨hn, by simp, fun a ha b hb => by rw [List.mem_singleton] at hb; subst hb; intro e; subst e; exact hno ha⟩
    · cases h
omit [DecidableEq K] in
theorem pre_get {f f' : List K} {i : Nat} {k : K} (h : f <+: f') (hi : f[i]? = some k) : f'[i]? = some k := by
  obtain ⟨t, rfl⟩ := h
  rw [List.getElem?_append_left (List.getElem?_eq_some_iff.1 hi).1]
  exact hi
/-- What holds while the rows are made. -/
structure RowsOk (most : Nat) (step : K → Nat → K) (bs : List Nat) (start : K) (n : Nat) (f : List K) (rows : List (List Nat)) : Prop where
  len : f.length ≤ most
  nd : f.Nodup
  zero : f[0]? = some start
  rl : rows.length = n
  cols : ∀ row ∈ rows, row.length = bs.length
  ok : ∀ (i k : Nat) (row : List Nat) (b t : Nat) (x : K), rows[i]? = some row → bs[k]? = some b → row[k]? = some t → f[i]? = some x → f[t]? = some (step x b)
theorem foldRow_ok {f : List K} {x : K} (hl : f.length ≤ most) (hn : f.Nodup) : ∀ (k : Nat), k ≤ bs.length → ∀ (f' : List K) (row : List Nat), (bs.take k).foldl (rowF most step x) (some (f, [])) = some (f', row) →
    f'.length ≤ most ∧ f'.Nodup ∧ f <+: f' ∧ row.length = k ∧ ∀ (j b t : Nat), bs[j]? = some b → row[j]? = some t → f'[t]? = some (step x b) := by
  intro k
  induction k with
  | zero =>
    intro _ f' row h
    simp only [List.take_zero, List.foldl_nil, Option.some.injEq, Prod.mk.injEq] at h
    obtain ⟨rfl, rfl⟩ := h
    exact ⟨hl, hn, List.prefix_refl _, rfl, fun j b t _ h => by simp at h⟩
  | succ k ih =>
    intro hk f' row h
    obtain ⟨b, hb⟩ := get_some (l := bs) (k := k) (by omega)
    rw [take_succ_snoc hb, List.foldl_append] at h
    cases hp : (bs.take k).foldl (rowF most step x) (some (f, [])) with
    | none => rw [hp] at h; cases h
    | some p =>
      obtain ⟨f1, r1⟩ := p
      obtain ⟨i1, i2, i3, i4, i5⟩ := ih (by omega) f1 r1 hp
      rw [hp] at h
      simp only [List.foldl_cons, List.foldl_nil, rowF, Option.bind_some] at h
      cases ha : atF most f1 (step x b) with
      | none => rw [ha] at h; cases h
      | some r =>
        obtain ⟨f2, t2⟩ := r
        rw [ha] at h
        simp only [Option.map_some, Option.some.injEq, Prod.mk.injEq] at h
        obtain ⟨rfl, rfl⟩ := h
        obtain ⟨a1, a2, a3, a4⟩ := atF_some ha i1 i2
        refine ⟨a2, a3, i3.trans a4, by simp [i4], fun j c t hc ht => ?_⟩
        by_cases hj : j < k
        · rw [List.getElem?_append_left (by omega)] at ht
          exact pre_get a4 (i5 j c t hc ht)
        · have hjl := (List.getElem?_eq_some_iff.1 ht).1
          simp only [List.length_append, List.length_cons, List.length_nil] at hjl
          obtain rfl : j = k := by omega
          rw [hb] at hc
          injection hc with hc
          subst hc
          rw [List.getElem?_append_right (by omega), i4, Nat.sub_self] at ht
          simp only [List.getElem?_cons_zero, Option.some.injEq] at ht
          subst ht
          exact a1
theorem foldRow_pre {f : List K} {x : K} (hl : f.length ≤ most) (hn : f.Nodup) {f' : List K} {row : List Nat} (h : bs.foldl (rowF most step x) (some (f, [])) = some (f', row)) :
    f'.length ≤ most ∧ f'.Nodup ∧ f <+: f' ∧ row.length = bs.length ∧ ∀ (j b t : Nat), bs[j]? = some b → row[j]? = some t → f'[t]? = some (step x b) :=
  foldRow_ok hl hn bs.length (Nat.le_refl _) f' row (by rw [List.take_length]; exact h)
theorem rowsF_ok (hm : 1 ≤ most) : ∀ (n : Nat) (f : List K) (rows : List (List Nat)), rowsF most step bs start n = some (f, rows) → (∀ j, j < n → j < f.length) → RowsOk most step bs start n f rows
  | 0, f, rows, h, _ => by
    simp only [rowsF, Option.some.injEq, Prod.mk.injEq] at h
    obtain ⟨rfl, rfl⟩ := h
    exact ⟨hm, by simp, rfl, rfl, (fun row h => by cases h), fun i k row b t x h => by simp at h⟩
  | n + 1, f, rows, h, hlt => by
    simp only [rowsF] at h
    cases hp : rowsF most step bs start n with
    | none => rw [hp] at h; cases h
    | some p =>
      obtain ⟨f1, rows1⟩ := p
      rw [hp] at h
      simp only [Option.bind_some] at h
      cases hx : f1[n]? with
      | none =>
        rw [hx] at h
        simp only [Option.some.injEq, Prod.mk.injEq] at h
        obtain ⟨rfl, rfl⟩ := h
        have := hlt n (by omega)
        rw [List.getElem?_eq_none_iff] at hx
        omega
      | some x =>
        rw [hx] at h
        simp only at h
        cases hr : bs.foldl (rowF most step x) (some (f1, [])) with
        | none => rw [hr] at h; cases h
        | some r =>
          obtain ⟨f2, row⟩ := r
          rw [hr] at h
          simp only [Option.map_some, Option.some.injEq, Prod.mk.injEq] at h
          obtain ⟨rfl, rfl⟩ := h
          have hxl := (List.getElem?_eq_some_iff.1 hx).1
          have ih := rowsF_ok hm n f1 rows1 hp fun j hj => by omega
          obtain ⟨g1, g2, g3, g4, g5⟩ := foldRow_pre ih.len ih.nd hr
          refine ⟨g1, g2, pre_get g3 ih.zero, by simp [ih.rl], fun r hr' => ?_, fun i k r b t y hi hk ht hy => ?_⟩
          · rcases List.mem_append.1 hr' with hr' | hr'
            · exact ih.cols r hr'
            · rw [List.mem_singleton] at hr'; subst hr'; exact g4
          · by_cases hin : i < n
            · rw [List.getElem?_append_left (by rw [ih.rl]; exact hin)] at hi
              obtain ⟨y1, hy1⟩ := get_some (l := f1) (k := i) (by omega)
              have := pre_get g3 hy1
              rw [hy] at this
              injection this with this
              subst this
              exact pre_get g3 (ih.ok i k r b t y hi hk ht hy1)
            · have hil := (List.getElem?_eq_some_iff.1 hi).1
              simp only [List.length_append, List.length_cons, List.length_nil, ih.rl] at hil
              obtain rfl : i = n := by omega
              rw [List.getElem?_append_right (by rw [ih.rl]; exact Nat.le_refl _), ih.rl, Nat.sub_self] at hi
              simp only [List.getElem?_cons_zero, Option.some.injEq] at hi
              subst hi
              have := pre_get g3 hx
              rw [hy] at this
              injection this with this
              subst this
              exact g5 k b t hk ht
/-- Once all that was found has its row, nothing more is done. -/
theorem rowsF_stop {n : Nat} {f : List K} {rows : List (List Nat)} (h : rowsF most step bs start n = some (f, rows)) (hn : f.length ≤ n) : ∀ m, n ≤ m → rowsF most step bs start m = some (f, rows) := by
  intro m hm
  induction m with
  | zero => obtain rfl : n = 0 := by omega
            exact h
  | succ m ih =>
    by_cases he : n = m + 1
    · subst he; exact h
    · have := ih (by omega)
      simp only [rowsF, this, Option.bind_some]
      rw [List.getElem?_eq_none (by omega)]
/-- What comes out: all that was found, with its rows, or nothing where there is no room. -/
def detF (most : Nat) (step : K → Nat → K) (bs : List Nat) (start : K) : Option (List K × List (List Nat)) := rowsF most step bs start most
theorem detF_done {n : Nat} {f : List K} {rows : List (List Nat)} (h : rowsF most step bs start n = some (f, rows)) (hn : f.length = n) (hl : f.length ≤ most) : detF most step bs start = some (f, rows) :=
  rowsF_stop h (by omega) most (by omega)
end
end Go.Proofs.YthomdogheamfpaaDoor
/- louperef07.Number: the walk; numbers as text. -/
set_option linter.unusedVariables false
set_option linter.unusedSimpArgs false
set_option maxRecDepth 100000
namespace Go.Proofs.YthomdogheamfpaaDoor
open Go.VC Go.Lib
/-- A number's decimal text. -/
def dN (u : Nat) : List Nat := (decDigits u).map UInt8.toNat
theorem dN_small {u : Nat} (h : u < 10) : dN u = [48 + u] := by
  unfold dN
  rw [decDigits_one h, List.map_cons, List.map_nil, UInt8.toNat_ofNat']
  congr 1
  omega
theorem dN_step {u : Nat} (h : ¬ u < 10) : dN u = dN (u / 10) ++ [48 + u % 10] := by
  unfold dN
  rw [decDigits, dif_neg h, List.map_append, List.map_cons, List.map_nil, UInt8.toNat_ofNat']
  congr 2
  omega
theorem itoS_nat (u : Nat) : itoS (u : Int) = bA (dN u) := by
  unfold itoS bA dN itoa
  rw [if_neg (by omega), Int.toNat_natCast, List.map_map]
  congr 2
  rw [show (UInt8.ofNat ∘ UInt8.toNat) = id from funext fun b => by simp, List.map_id]
end Go.Proofs.YthomdogheamfpaaDoor
/- The table of an automaton as text: plain. -/
set_option linter.unusedVariables false
set_option linter.unusedSimpArgs false
set_option maxRecDepth 100000
namespace Go.Proofs.YthomdogheamfpaaDoor
open Go.VC Go.Lib
theorem dN_len5 {u : Nat} (h : u < 65536) : (dN u).length ≤ 5 := by
  unfold dN
  rw [List.length_map]
  exact dec_len 4 u (by omega)
theorem dN_len6 {u : Nat} (h : u ≤ 65536) : (dN u).length ≤ 6 := by
  unfold dN
  rw [List.length_map]
  exact dec_len 5 u (by omega)
def segM (st : Nat → Nat → Nat) (i : Nat) (c : BitVec 256) : List Nat := [32] ++ showM c ++ [62] ++ dN (st i (nextM c 0).1)
def segsM (st : Nat → Nat → Nat) (i : Nat) (cells : List (BitVec 256)) : List Nat := cells.flatMap (segM st i)
def lineM (cells : List (BitVec 256)) (st : Nat → Nat → Nat) (fi : Nat → Bool) (i : Nat) : List Nat := dN i ++ (if fi i then [42] else []) ++ segsM st i cells ++ [10]
def linesM (cells : List (BitVec 256)) (st : Nat → Nat → Nat) (fi : Nat → Bool) (n : Nat) : List Nat := (List.range n).flatMap (lineM cells st fi)
def headM (n : Nat) : List Nat := [115, 116, 97, 116, 101, 115, 32] ++ dN n ++ [10]
def tableM (cells : List (BitVec 256)) (n : Nat) (st : Nat → Nat → Nat) (fi : Nat → Bool) : List Nat := headM n ++ linesM cells st fi n
theorem linesM_succ (cells : List (BitVec 256)) (st : Nat → Nat → Nat) (fi : Nat → Bool) (n : Nat) : linesM cells st fi (n + 1) = linesM cells st fi n ++ lineM cells st fi n := by
  unfold linesM
  rw [List.range_succ, List.flatMap_append]
  simp
theorem segsM_snoc (st : Nat → Nat → Nat) (i : Nat) (l : List (BitVec 256)) (c : BitVec 256) : segsM st i (l ++ [c]) = segsM st i l ++ segM st i c := by
  unfold segsM
  rw [List.flatMap_append]
  simp
theorem seg_len {st : Nat → Nat → Nat} {i : Nat} {c : BitVec 256} (h : st i (nextM c 0).1 < 65536) : (segM st i c).length ≤ 2407 := by
  unfold segM
  have h1 := show_len c
  have h2 := dN_len5 h
  simp only [List.length_append, List.length_singleton]
  omega
theorem segs_len {st : Nat → Nat → Nat} {i : Nat} : ∀ {l : List (BitVec 256)}, (∀ c ∈ l, st i (nextM c 0).1 < 65536) → (segsM st i l).length ≤ l.length * 2407
  | [], _ => Nat.le_refl _
  | c :: l, h => by
    have h1 := seg_len (h c (by simp))
    have h2 := segs_len (l := l) fun x hx => h x (by simp [hx])
    unfold segsM at h2 ⊢
    rw [List.flatMap_cons, List.length_append, List.length_cons]
    omega
theorem line_len {cells : List (BitVec 256)} {st : Nat → Nat → Nat} {fi : Nat → Bool} {i : Nat} (hi : i < 65536) (hc : cells.length ≤ 256) (h : ∀ c ∈ cells, st i (nextM c 0).1 < 65536) : (lineM cells st fi i).length ≤ 616199 := by
  unfold lineM
  have h1 := dN_len5 hi
  have h2 := segs_len h
  have h3 : (if fi i then [42] else [] : List Nat).length ≤ 1 := by split <;> decide
  simp only [List.length_append, List.length_singleton]
  omega
theorem lines_len {cells : List (BitVec 256)} {st : Nat → Nat → Nat} {fi : Nat → Bool} (hc : cells.length ≤ 256) : ∀ {n : Nat}, n ≤ 65536 → (∀ i, i < n → ∀ c ∈ cells, st i (nextM c 0).1 < 65536) → (linesM cells st fi n).length ≤ n * 616199
  | 0, _, _ => Nat.le_refl _
  | n + 1, hn, h => by
    have h1 := lines_len (fi := fi) hc (n := n) (by omega) fun i hi => h i (by omega)
    have h2 := line_len (fi := fi) (show n < 65536 by omega) hc (h n (by omega))
    rw [linesM_succ, List.length_append]
    omega
end Go.Proofs.YthomdogheamfpaaDoor
/- A block whose first cell is anything, and whose other cells hold slices of the call's own. -/
set_option linter.unusedVariables false
set_option linter.unusedSimpArgs false
namespace Go.VC
section
variable {α : Type} {T : Ty α} {B : Nat → Prop} {H0 H H1 : Heap} {ps : List Pc} {e te : TypeId} {b : Nat} {w0 : Value} {vs : List Value} {ss : Nat → Slot} {xs : List α} {v : Value} {j : Nat}
end
end Go.VC
/- dfa.ready: an automaton's ways by the state that they leave: the walk. -/
set_option linter.unusedVariables false
set_option linter.unusedSimpArgs false
set_option maxRecDepth 100000
namespace Go.VC
section
variable {α : Type} {T : Ty α} {e te : TypeId} {nb : Nat} {vs : List Value} {xs : List (List α)} {B : Nat → Prop} {H0 H H1 : Heap} {ps : List Pc}
end
end Go.VC
namespace Go.Proofs.YthomdogheamfpaaDoor
open Go.VC
/-! ### grouping -/
section
variable {β : Type}
end
def okE (a : NfM) (e : EdM) : Bool := a.has e.fr && a.has e.to
def keyS (a : NfM) (e : EdM) : Option (Nat × Int) := if okE a e && e.sil then some (e.fr.toNat, e.to) else none
end Go.Proofs.YthomdogheamfpaaDoor
/- louperef05.tabled: the walk. -/
set_option linter.unusedVariables false
set_option linter.unusedSimpArgs false
set_option maxRecDepth 100000
namespace Go.Proofs.YthomdogheamfpaaDoor
open Go.VC
theorem bool_reps {S : Nat → Prop} {H : Heap} : ∀ xs : List Bool, tBool.reps S H (xs.map Value.bool) xs
  | [] => rfl
  | x :: xs => ⟨[.bool x], xs.map Value.bool, rfl, rfl, bool_reps xs⟩
end Go.Proofs.YthomdogheamfpaaDoor
/- The document's book of sets: hash: the walk. -/
set_option linter.unusedVariables false
set_option linter.unusedSimpArgs false
set_option maxRecDepth 100000
namespace Go.Proofs.YthomdogheamfpaaDoor
open Go.VC
end Go.Proofs.YthomdogheamfpaaDoor
/- (*dfa.net).close: the name of all that silent ways reach: the walk. -/
set_option linter.unusedVariables false
set_option linter.unusedSimpArgs false
set_option maxRecDepth 100000
namespace Go.VC
section
variable {α : Type} {T : Ty α} {e : TypeId} {a : Option Addr} {n cap : Nat} {xs ys : List α} {B S : Nat → Prop} {H0 H : Heap} {ps : List Pc}
end
end Go.VC
namespace Go.Proofs.YthomdogheamfpaaDoor
open Go.VC
structure ClsI (a : NfM) (X : List Int) (todo : List Int) (mm : Int → Option Value) : Prop where
  has : ∀ q ∈ todo, a.has q = true
  one : ∀ p, Dom mm p → mm p = some (.int .i64 1)
  tcl : ∀ p ∈ todo, clS a (· ∈ X) p
  mcl : ∀ p, Dom mm p → clS a (· ∈ X) p
  all : ∀ x ∈ X, Dom mm x ∨ x ∈ todo
  shut : ∀ p, Dom mm p → ∀ e ∈ a.edges, e.sil = true → e.fr = p → a.has e.to = true → Dom mm e.to ∨ e.to ∈ todo
  len : todo.length ≤ X.length + (65536 - mss (Dom mm)) * 1048576
abbrev tByt : TypeId := 5
end Go.Proofs.YthomdogheamfpaaDoor
/- members, the two closures of Determinize: the walks. -/
set_option linter.unusedVariables false
set_option linter.unusedSimpArgs false
set_option maxRecDepth 100000
namespace Go.VC
section
variable {α : Type} {T : Ty α} {e : TypeId} {a : Option Addr} {n cap : Nat} {xs : List α} {B : Nat → Prop} {H0 H : Heap} {ps : List Pc}
/-- append to an own slice that may be long. -/
theorem appL5 {P : Program} {t ty q o m cap2 by_ : Nat} {z : Value} {ys : List α} {ds : List Value} {K : Value → Heap → Prop} (st : StB B H0 H ps) (i : Nat) (ht : SlT P t e T.size by_ z) (hp : ps[i]? = some (pS T e a n cap xs))
    (hd : Cells H q o ds) (hy : T.reps none_ H ds ys) (hm : m = ys.length) (h1 : ∀ u ∈ ds, u.oneCell' = true) (h63 : xs.length + ys.length ≤ 1099511627776) (hby : by_ ≤ 64)
    (k : ∀ a' cap' H', StB B H0 H' (ps.set i (pS T e a' (xs.length + ys.length) cap' (xs ++ ys))) → Agr (fun k => k < H.size ∧ ¬ slB (.slice a n cap) k) H H' → K (.slice a' (xs.length + ys.length) cap') H') :
    VEff P (Builtin.append_ #[t, t] ty [.slice a n cap, .slice (some ⟨q, o, none⟩) m cap2].toArray) H K := by
  refine vappendO (T := T) (S := none_) (lo := 0) ht (st.at_ i hp).1 (Nat.zero_le _) (fun k hk => hk.elim) hd hy hm h1 (by unfold maxLen; omega) (by have := Nat.mul_le_mul h63 hby; omega) ?_
  intro v' H' hown hagr hsz hfr
  obtain ⟨a', cap', rfl⟩ := hown.hull
  rw [List.length_append] at hown hfr ⊢
  refine k a' cap' H' (st.upd i hp (hagr.mono fun k hk => ⟨hk.1, fun hb => hk.2 (.inl hb)⟩) _ ⟨hown, fun k hk => hk.elim⟩ (fun k hk => ?_) (fun k hk => ?_) hsz) hagr
  · rcases hk with hk | hk
    · rcases hfr k hk with h | h
      · exact .inl (.inl h)
      · exact .inr h
    · exact hk.elim
  · rcases hk with hk | hk
    · exact (hown.lt hk).2
    · exact hk.elim
end
end Go.VC
namespace Go.Proofs.YthomdogheamfpaaDoor
open Go.VC
/-- Where one byte leads from a set. -/
noncomputable def stepA (a : NfM) (l : List Int) (b : Nat) : List Int := lstS (goS a (· ∈ l) b)
end Go.Proofs.YthomdogheamfpaaDoor
/- The document's table: settled: all that silent edges reach, as a rising list: the walk. -/
set_option linter.unusedVariables false
set_option linter.unusedSimpArgs false
set_option maxRecDepth 100000
namespace Go.VC
section
variable {B : Nat → Prop} {H0 H : Heap} {ps qs : List Pc} {p q : Pc}
end
end Go.VC
namespace Go.Proofs.YthomdogheamfpaaDoor
open Go.VC
/-! ### marks -/
/-- All that has been found: nothing twice, all of it reached; the first i, and k ways of the next one, are done. -/
structure StlI (a : NfM) (X all : List Int) : Prop where
  nd : all.Nodup
  cl : ∀ q ∈ all, clS a (· ∈ X) q
section
variable {B : Nat → Prop} {H0 H : Heap} {rest : List Pc} {nb tb mc lc : Nat} {ma la : Option Addr} {vt : List Value} {a : NfM} {X : List Int}
end
end Go.Proofs.YthomdogheamfpaaDoor
/- The explorer: at, Explore: the walks. -/
set_option linter.unusedVariables false
set_option linter.unusedSimpArgs false
set_option maxRecDepth 100000
namespace Go.VC
section
variable {α : Type} {T : Ty α} {e e2 : TypeId} {a ra : Option Addr} {n cap rn rc : Nat} {xs : List (List α)} {row : List α} {B S : Nat → Prop} {H0 H : Heap} {ps rest : List Pc}
/-- A row joins the data of a list of rows. -/
theorem StB.absorb (st : StB B H0 H (pN (tSl T) S e a n cap xs :: pS T e2 ra rn rc row :: rest)) : StB B H0 H (pN (tSl T) (fun k => S k ∨ slB (.slice ra rn rc) k) e a n cap xs :: rest) := by
  have hap := st.apart2 (i := 0) (j := 1) rfl rfl (by decide)
  have h0 := st.at_ 0 rfl
  refine (st.join 0 1 rfl rfl (by decide)).say 0 rfl _ ⟨h0.1.mono fun k hk => .inl hk, fun k hk => ?_⟩ fun k hk => ?_
  · rcases hk with hk | hk
    · exact h0.2 k hk
    · exact fun h => hap k (.inl h) (.inl hk)
  · rcases hk with hk | hk | hk
    · exact .inl (.inl hk)
    · exact .inl (.inr hk)
    · exact .inr (.inl hk)
/-- append of one row whose data lie in S. -/
theorem appNO {P : Program} {t ty q by_ m cap2 : Nat} {z : Value} {ds : List Value} {K : Value → Heap → Prop} (st : StB B H0 H (pN (tSl T) S e a n cap xs :: rest)) (ht : SlT P t e (tSl T).size by_ z)
    (hd : Cells H q 0 ds) (hy : (tSl T).rep S H ds row) (hm : m = 1) (h1 : ∀ u ∈ ds, u.oneCell' = true) (h63 : xs.length + 1 ≤ 4194304) (hby : by_ ≤ 1024)
    (k : ∀ a' cap' H', StB B H0 H' (pN (tSl T) S e a' (xs.length + 1) cap' (xs ++ [row]) :: rest) → K (.slice a' (xs.length + 1) cap') H') :
    VEff P (Builtin.append_ #[t, t] ty [.slice a n cap, .slice (some ⟨q, 0, none⟩) m cap2].toArray) H K := by
  subst hm
  have h0 := st.at_ 0 rfl
  refine vappendO (T := tSl T) (S := S) (lo := 0) (ys := [row]) ht h0.1 (Nat.zero_le _) (fun k hk => ⟨(st.in_ 0 rfl (.inr hk)).2, h0.2 k hk⟩) hd (Ty.reps_one hy) rfl h1 (by unfold maxLen; simp only [List.length_singleton]; omega) (by have := Nat.mul_le_mul h63 hby; simp only [List.length_singleton]; omega) ?_
  intro v' H' hown hagr hsz hfr
  obtain ⟨a', cap', rfl⟩ := hown.hull
  rw [List.length_append, List.length_singleton] at hown hfr ⊢
  refine k a' cap' H' (st.upd 0 rfl (hagr.mono fun k hk => ⟨hk.1, fun hb => hk.2 (.inl hb)⟩) _ ⟨hown, fun k hk hb => ?_⟩ (fun k hk => ?_) (fun k hk => ?_) hsz)
  · rcases hfr k hb with h | h
    · exact h0.2 k hk h
    · have := (st.in_ 0 rfl (.inr hk)).2
      omega
  · rcases hk with hk | hk
    · rcases hfr k hk with h | h
      · exact .inl (.inl h)
      · exact .inr h
    · exact .inl (.inr hk)
  · rcases hk with hk | hk
    · exact (hown.lt hk).2
    · have := (st.in_ 0 rfl (.inr hk)).2
      omega
end
end Go.VC
namespace Go.Proofs.YthomdogheamfpaaDoor
open Go.VC
/-! ### at -/
theorem mapSI : MapTW Tryd.prog 166 9 3 (.int .i64 0) := ⟨rfl, rfl⟩
theorem keySW : KeyW Tryd.prog 9 (anyK (α := ByteArray)) Value.string := KeyW.ofE Tryd.underlying9 Go.VC.keyS
section
variable {B : Nat → Prop} {H0 H : Heap} {rest : List Pc} {xb mb fc most : Nat} {fa : Option Addr} {F : List (List Int)} {k : List Int}
end
end Go.Proofs.YthomdogheamfpaaDoor
/- The document's book of sets: find and add: the walks. -/
set_option linter.unusedVariables false
set_option linter.unusedSimpArgs false
set_option maxRecDepth 100000
namespace Go.Proofs.YthomdogheamfpaaDoor
open Go.VC
section
variable {B : Nat → Prop} {H0 H : Heap} {rest : List Pc} {b sc lc : Nat} {sa la : Option Addr} {vs : List Value} {S : Nat → Prop} {F : List (List Int)} {l : List Int}
end
end Go.Proofs.YthomdogheamfpaaDoor
/- The document's book of sets: add: the walk. -/
set_option linter.unusedVariables false
set_option linter.unusedSimpArgs false
set_option maxRecDepth 100000
namespace Go.Proofs.YthomdogheamfpaaDoor
open Go.VC
section
variable {B : Nat → Prop} {H0 H : Heap} {rest : List Pc} {b sc lc : Nat} {sa la : Option Addr} {vs : List Value} {S : Nat → Prop} {F : List (List Int)} {l : List Int}
end
end Go.Proofs.YthomdogheamfpaaDoor
/- Explore over sets of states: the walk. -/
set_option linter.unusedVariables false
set_option linter.unusedSimpArgs false
set_option maxRecDepth 100000
namespace Go.Proofs.YthomdogheamfpaaDoor
open Go.VC
def rowI (r : List Nat) : List Int := r.map fun (x : Nat) => (x : Int)
def bsOf (cs : List (BitVec 256)) : List Nat := cs.map fun c => (nextM c 0).1
theorem bsOf_get {cs : List (BitVec 256)} {j : Nat} {c : BitVec 256} (h : cs[j]? = some c) : (bsOf cs)[j]? = some (nextM c 0).1 := by
  unfold bsOf
  rw [List.getElem?_map, h]
  rfl
end Go.Proofs.YthomdogheamfpaaDoor
/- dfa.Determinize: the walk. -/
set_option linter.unusedVariables false
set_option linter.unusedSimpArgs false
set_option maxRecDepth 100000
namespace Go.Proofs.YthomdogheamfpaaDoor
open Go.VC
end Go.Proofs.YthomdogheamfpaaDoor
/- The graphs of Meets, Cat and Iter are what the walks ask for; cuts; plain law. -/
set_option linter.unusedVariables false
set_option linter.unusedSimpArgs false
set_option maxRecDepth 100000
namespace Go.Proofs.YthomdogheamfpaaDoor
open Go.VC
attribute [local irreducible] mRun gRun atRun
theorem nodupN : ∀ (n : Nat) (l : List Nat), l.Nodup → (∀ x ∈ l, x < n) → l.length ≤ n
  | 0, l, _, h => by
    cases l with
    | nil => exact Nat.le_refl _
    | cons x l => exact absurd (h x List.mem_cons_self) (Nat.not_lt_zero _)
  | n + 1, l, hd, h => by
    have h1 := nodupN n (l.filter fun x => decide (x < n)) (hd.filter _) (fun x hx => by simpa using (List.mem_filter.1 hx).2)
    have h2 : (l.filter fun x => !decide (x < n)).length ≤ 1 := by
      have hd2 : (l.filter fun x => !decide (x < n)).Nodup := hd.filter _
      have he : ∀ x ∈ l.filter (fun x => !decide (x < n)), x = n := fun x hx => by
        obtain ⟨k1, k2⟩ := List.mem_filter.1 hx
        have := h x k1
        simp at k2
        omega
      generalize l.filter (fun x => !decide (x < n)) = m at hd2 he
      match m, hd2, he with
      | [], _, _ => simp
      | [_], _, _ => simp
      | x :: y :: r, hd2, he =>
        have e1 := he x (by simp)
        have e2 := he y (by simp)
        rw [e1, e2] at hd2
        simp at hd2
    have h3 : ∀ m : List Nat, (m.filter fun x => decide (x < n)).length + (m.filter fun x => !decide (x < n)).length = m.length := fun m => by
      induction m with
      | nil => rfl
      | cons x m ih => by_cases hx : x < n <;> simp [List.filter_cons, hx] <;> omega
    have := h3 l
    omega
theorem pwNodup {α : Type} {f : α → Nat} {l : List α} (hn : l.Nodup) (hi : ∀ x ∈ l, ∀ y ∈ l, f x = f y → x = y) : (l.map f).Nodup := by
  unfold List.Nodup
  rw [List.pairwise_map]
  exact (List.Pairwise.and_mem.1 hn).imp fun {x y} ⟨h1, h2, h3⟩ e => h3 (hi x h1 y h2 e)
/-- A state of o. -/
def inA (o : Option AM) (q : Int) : Prop := 0 ≤ q ∧ q < stN o
/-- o's steps stay among its states, of which there are at most 65536. -/
structure StepOk (o : Option AM) : Prop where
  n1 : 1 ≤ stN o
  n2 : stN o ≤ 65536
  step : ∀ q b, inA o q → b < 256 → inA o (stepM o q b)
theorem StepOk.zero {o : Option AM} (h : StepOk o) : inA o 0 := ⟨Int.le_refl _, by have := h.n1; omega⟩
theorem step_rng0 {S : Nat → Prop} {H : Heap} {v : Value} {o : Option AM} (h : AutoV S H v o) {q b : Nat} (hq : q < stN o) (hb : b < 256) : 0 ≤ stepM o (q : Int) b ∧ stepM o (q : Int) b < stN o := by
  cases o with
  | none =>
    have : q = 0 := by simp only [stN] at hq; omega
    subst this
    decide +revert
  | some A =>
    obtain ⟨pb, rfl, hown, hok, _⟩ := h
    exact stepM_range hok (by omega) (by simp only [stN] at hq; omega) hb
theorem AutoV.steps {S : Nat → Prop} {H : Heap} {v : Value} {o : Option AM} (h : AutoV S H v o) : StepOk o :=
  ⟨(stN_le h).1, (stN_le h).2, fun q b hq hb => by
    obtain ⟨n, rfl⟩ := Int.eq_ofNat_of_zero_le hq.1
    exact step_rng0 h (by have := hq.2; omega) hb⟩
/-- The bytes of reps stand for all. -/
theorem step_cov {o : Option AM} {ls : List Nat} (h : CellsOk o ls) {r c : Nat} (hr : r < 256) (hc : c < 256) (hs : ∀ s ∈ cellsM o, s.getLsbD r = s.getLsbD c) (q : Int) : stepM o q r = stepM o q c := by
  by_cases hq : q < 0 ∨ (stN o : Int) ≤ q
  · unfold stepM
    rw [if_pos hq, if_pos hq]
  · obtain ⟨k, s, hk, hb, -⟩ := h.part c hc
    obtain ⟨l, hl, -⟩ := h.least k s hk
    have e1 := (h.keeps k s l c hk hl hc hb).2 q (by omega) (by omega)
    have e2 := (h.keeps k s l r hk hl hr (by rw [hs s (List.mem_of_getElem? hk)]; exact hb)).2 q (by omega) (by omega)
    rw [e1, e2]
theorem graphOk {g : Gr} {by_ : List Nat} {M C : Nat} (R : Nd → Prop) (f : Nd → Nat) (h0 : R root) (hstep : ∀ n b t, R n → b < 256 → t ∈ g.next n b → R t) (hok : ∀ n, R n → n.Ok) (hf : ∀ n, R n → f n < M) (hi : ∀ n m, R n → R m → f n = f m → n = m)
    (hlen : ∀ n b, (g.next n b).length ≤ C) (c0 : 1 ≤ C) (big : C * (256 * M) ≤ 5864062014805) (hb : ∀ b ∈ by_, b < 256) (hnb : by_.length ≤ 256) : GraphOk g by_ M C := by
  have hR : ∀ n, Reach g by_ root n → R n := fun n h => by
    induction h with
    | refl => exact h0
    | step hr hb' ht ih => exact hstep _ _ _ ih (hb _ hb') ht
  refine ⟨hb, hnb, fun n hn => hok n (hR n hn), fun l hl hall => ?_, fun n b t _ _ => Nat.le_trans List.count_le_length (hlen n b), c0, big⟩
  rw [← List.length_map (f := f)]
  refine nodupN M _ (pwNodup hl fun x hx y hy e => hi x y (hR x (hall x hx)) (hR y (hall y hy)) e) fun x hx => ?_
  obtain ⟨n, hn, rfl⟩ := List.mem_map.1 hx
  exact hf n (hR n (hall n hn))
/-- Nodes of at most K stages behind the first. -/
structure InR (K : Nat) (n : Nd) : Prop where
  s0 : 0 ≤ n.s
  s1 : n.s ≤ K
  x0 : 0 ≤ n.x
  x1 : n.x < 65536
  y0 : 0 ≤ n.y
  y1 : n.y < 65536
  z : n.s = 0 → n.y = 0
section
variable {a b : Option AM}
/-- Where the readers of Meets can be. -/
def MeetR (a b : Option AM) (n : Nd) : Prop := n.s = 0 ∧ inA a n.x ∧ inA b n.y
end
/-- The bytes that reps gives, and those for which they stand. -/
theorem reps_cov2 {os : List (Option AM)} (hc : ∀ o ∈ os, ∃ ls, CellsOk o ls) {sets : List (BitVec 256)} (hs : ∀ o ∈ os, ∀ s ∈ cellsM o, s ∈ sets) : ∀ c, c < 256 → ∃ r ∈ repsM sets, r ≤ c ∧ ∀ o ∈ os, ∀ q, stepM o q r = stepM o q c := fun c hc8 => by
  obtain ⟨r, hr, hrc, hall⟩ := reps_cov sets hc8
  refine ⟨r, hr, hrc, fun o ho q => ?_⟩
  obtain ⟨ls, h⟩ := hc o ho
  exact step_cov h (reps_lt sets r hr) hc8 (fun s h => hall s (hs o ho s h)) q
end Go.Proofs.YthomdogheamfpaaDoor

/- Texts and their cuts; plain law. -/
set_option linter.unusedVariables false
set_option linter.unusedSimpArgs false
set_option maxRecDepth 100000
namespace Go.Proofs.YthomdogheamfpaaDoor
open Go.VC
attribute [local irreducible] mRun gRun atRun
theorem bA_size (w : List Nat) : (bA w).size = w.length := by unfold bA; simp [ByteArray.size]
theorem bA_data (w : List Nat) : (bA w).data.toList = w.map UInt8.ofNat := by unfold bA; simp
theorem acc_bA {o : Option AM} {w : List Nat} (h : bytes_ w) : acceptsM o (bA w) = accL o w := by
  unfold acceptsM accL runM runL
  rw [bA_size, bA_data, List.take_of_length_le (by simp), List.foldl_map]
  congr 1
  have : ∀ (w : List Nat) (q : Int), bytes_ w → w.foldl (fun q b => stepM o q (UInt8.ofNat b).toNat) q = w.foldl (fun q b => stepM o q b) q := fun w => by
    induction w with
    | nil => intro q _; rfl
    | cons c w ih =>
      intro q hb
      have hc := hb c List.mem_cons_self
      have e : (UInt8.ofNat c).toNat = c := by simp; omega
      rw [List.foldl_cons, List.foldl_cons, e]
      exact ih _ fun d hd => hb d (List.mem_cons_of_mem _ hd)
  exact this w 0 h
/-- The bytes of a text. -/
def unB (s : ByteArray) : List Nat := s.data.toList.map UInt8.toNat
theorem unB_bytes (s : ByteArray) : bytes_ (unB s) := fun b hb => by
  obtain ⟨x, -, rfl⟩ := List.mem_map.1 hb
  exact UInt8.toNat_lt x
theorem bA_unB (s : ByteArray) : bA (unB s) = s := by
  apply text_inj
  rw [bA_data]
  unfold unB
  rw [List.map_map]
  conv => rhs; rw [← List.map_id s.data.toList]
  apply List.map_congr_left
  intro x _
  simp
theorem FirstW.bytes {g : Gr} {w : List Nat} (h : FirstW g (· = root) w) : bytes_ w := h.1.2.1
end Go.Proofs.YthomdogheamfpaaDoor
/- The functions that Cat gives to its graph: the walks. -/
set_option linter.unusedVariables false
set_option linter.unusedSimpArgs false
set_option maxRecDepth 100000
namespace Go.Proofs.YthomdogheamfpaaDoor
open Go.VC
attribute [local irreducible] mRun gRun atRun
/-- A variable of its own that holds an automaton. -/
structure VarA (S : Nat → Prop) (H : Heap) (p : Nat) (o : Option AM) : Prop where
  out : ∃ v, S p ∧ Blk H p 29 [v] ∧ AutoV S H v o
end Go.Proofs.YthomdogheamfpaaDoor

/- ambig's cut and Cat: the walks. -/
set_option linter.unusedVariables false
set_option linter.unusedSimpArgs false
set_option maxRecDepth 100000
namespace Go.Proofs.YthomdogheamfpaaDoor
open Go.VC
attribute [local irreducible] mRun gRun atRun
end Go.Proofs.YthomdogheamfpaaDoor

/- ambig's Iter and its functions: the walks. -/
set_option linter.unusedVariables false
set_option linter.unusedSimpArgs false
set_option maxRecDepth 100000
namespace Go.Proofs.YthomdogheamfpaaDoor
open Go.VC
attribute [local irreducible] mRun gRun atRun
end Go.Proofs.YthomdogheamfpaaDoor

/- ambig's Iter: the walk. -/
set_option linter.unusedVariables false
set_option linter.unusedSimpArgs false
set_option maxRecDepth 100000
namespace Go.Proofs.YthomdogheamfpaaDoor
open Go.VC
attribute [local irreducible] mRun gRun atRun
theorem FirstR.uniq {g : Gr} {w v : List Nat} {ok ok' : Bool} (h : FirstR g w ok) (k : FirstR g v ok') : w = v ∧ ok = ok' := by
  cases ok <;> cases ok'
  · exact ⟨(h.2 rfl).1.trans (k.2 rfl).1.symm, rfl⟩
  · have hw := k.1 rfl
    exact absurd hw.1.2.2.1 ((h.2 rfl).2 v hw.1.2.1)
  · have hw := h.1 rfl
    exact absurd hw.1.2.2.1 ((k.2 rfl).2 w hw.1.2.1)
  · exact ⟨(h.1 rfl).uniq (k.1 rfl), rfl⟩
end Go.Proofs.YthomdogheamfpaaDoor
/- The document's Cells: the walk. -/
set_option linter.unusedVariables false
set_option linter.unusedSimpArgs false
set_option maxRecDepth 100000
namespace Go.Proofs.YthomdogheamfpaaDoor
open Go.VC
attribute [local irreducible] mRun atRun gRun

def fdG (sim : Nat → Nat → Bool) (b : Nat) (l : List Nat) : Int := match l.findIdx? fun g => sim b g with
  | some k => (k : Int)
  | none => -1
theorem fdG_none {sim : Nat → Nat → Bool} {b : Nat} {l : List Nat} : fdG sim b l < 0 ↔ (l.findIdx? fun g => sim b g) = none := by
  unfold fdG
  split
  · rename_i k h; rw [h]; simp
  · rename_i h; rw [h]; simp
theorem fdG_in {sim : Nat → Nat → Bool} {b : Nat} {l : List Nat} : -1 ≤ fdG sim b l ∧ fdG sim b l < l.length := by
  unfold fdG
  split
  · rename_i k h
    have := (List.findIdx?_eq_some_iff_getElem.1 h).1
    omega
  · omega
theorem fdG_snoc {sim : Nat → Nat → Bool} {b g : Nat} {l : List Nat} (h : fdG sim b l < 0) : fdG sim b (l ++ [g]) = if sim b g then (l.length : Int) else -1 := by
  have h1 := fdG_none.1 h
  unfold fdG
  rw [List.findIdx?_append, h1]
  simp only [List.findIdx?_singleton, Option.none_or]
  cases hs : sim b g <;> simp
theorem fdG_take {sim : Nat → Nat → Bool} {b k : Nat} {l : List Nat} (h : 0 ≤ fdG sim b (l.take k)) : fdG sim b l = fdG sim b (l.take k) := by
  have h1 : (l.take k).findIdx? (fun g => sim b g) ≠ none := fun h2 => by have := fdG_none.2 h2; omega
  cases h2 : (l.take k).findIdx? (fun g => sim b g) with
  | none => exact absurd h2 h1
  | some k0 =>
    have h3 : l.findIdx? (fun g => sim b g) = some k0 := by
      conv => lhs; rw [← List.take_append_drop k l]
      rw [List.findIdx?_append, h2]; rfl
    unfold fdG
    rw [h2, h3]

def simTo (D : DM) (b g j : Nat) : Bool := (List.range j).all fun q => stepD D (q : Int) b == stepD D (q : Int) g
def simD (D : DM) (b g : Nat) : Bool := simTo D b g D.next.length
theorem simTo_succ (D : DM) (b g j : Nat) : simTo D b g (j + 1) = (simTo D b g j && (stepD D (j : Int) b == stepD D (j : Int) g)) := by
  unfold simTo
  rw [List.range_succ, List.all_append]; simp
theorem simD_refl (D : DM) (a : Nat) : simD D a a = true := by simp [simD, simTo]
theorem simTo_no {D : DM} {b g j : Nat} (hj : j ≤ D.next.length) (h : simTo D b g j = false) : simD D b g = false := by
  cases hs : simD D b g with
  | false => rfl
  | true =>
    unfold simD simTo at hs
    have : simTo D b g j = true := by
      unfold simTo
      rw [List.all_eq_true] at hs ⊢
      exact fun q hq => hs q (List.mem_range.2 (by have := List.mem_range.1 hq; omega))
    rw [this] at h; cases h

set_option maxHeartbeats 8000000 in
theorem refcells_o {S : Nat → Prop} {H : Heap} {v : Value} {D : DM} (hS : ∀ k, S k → k < H.size) (hw : DfaV S H v D) (hdok : D.Ok) :
    FnOk Tryd.prog 57 #[v] H fun v H' => Agr (Old H) H H' ∧ H.size ≤ H'.size ∧ ∃ a cap, v = .slice a (gRun (simD D) 256).1.length cap ∧
      SlO tF (fun _ => False) H' H.size 112 (.slice a (gRun (simD D) 256).1.length cap) (atSets (gRun (simD D) 256).2 (gRun (simD D) 256).1.length) := by
  have hlen := hw.len
  have hdn := hdok.n2
  refine FnOk.of_vc Tryd.func57 rfl (Tryd.call57 _) ?_
  (conv => whnf); refine dfa_box hw fun ra rc na nc fa' fc' he h1 h2 h3 => ?_
  subst he
  intro pb H1 hpb hs1 hb1 ha1
  have hA1 : Agr (Old H) H H1 := ha1.mono fun j hj => by unfold Old at hj; omega
  (conv => whnf)
  refine VLoop.mk [3, 4, 5] (fun x : Nat × Value × Value => match x with | (b, vo, vf) => [vo, vf, .int .i64 b]) (fun x H2 => x.1 ≤ 256 ∧ Agr (Old H1) H1 H2 ∧ H1.size ≤ H2.size ∧
    SlO tF (fun _ => False) H2 H1.size 112 x.2.1 (atSets (gRun (simD D) x.1).2 (gRun (simD D) x.1).1.length) ∧ SlO tI (fun _ => False) H2 H1.size 3 x.2.2 (asI (gRun (simD D) x.1).1) ∧ ∀ j, slB x.2.1 j → ¬ slB x.2.2 j) (fun x _ => 256 - x.1) ?_ ?_
  · (conv => whnf)
    exact ⟨(0, .slice none 0 0, .slice none 0 0), rfl, by simp, Agr.refl _ _, Nat.le_refl _, by unfold gRun; exact SlO.nil, by unfold gRun; exact SlO.nil, fun j hj => by obtain ⟨o, n, c, h⟩ := hj; cases h⟩
  · rintro ⟨b, vo, vf⟩ H2 junk ⟨hb, ha2, hs2, ho, hf, hap⟩
    simp only at hb ho hf hap
    have hok := gRun_ok (simD_refl D) b
    have hfl := hok.flen
    obtain ⟨fa, fcap, rfl, hfv, -⟩ := hf.view (S' := Old H2) (fun j hj => (hf.lt hj).2) (fun _ f => f.elim)
    obtain ⟨oa, ocap, rfl, hov, -⟩ := ho.view (S' := Old H2) (fun j hj => (ho.lt hj).2) (fun _ f => f.elim)
    rw [asI_len, atSets_len] at *
    have hA2 : Agr (Old H) H H2 := hA1.trans (ha2.mono fun k hk => old_lt hA1 hk)
    have hb2 := hb1.agr ha2 hb1.lt
    (conv => whnf); refine VIte.mk (fun h => ?_) (fun h => ?_) <;> simp only [decide_eq_true_eq, decide_eq_false_iff_not] at h
    · (conv => whnf)
      refine VLoop.mk [6, 7] (fun k : Nat => [.int .i64 (fdG (simD D) b ((gRun (simD D) b).1.take k)), .int .i64 k]) (fun k H3 => k ≤ (gRun (simD D) b).1.length ∧ Agr (Old H2) H2 H3) (fun k _ => (gRun (simD D) b).1.length - k) ?_ ?_
      · (conv => whnf); exact ⟨0, rfl, by omega, Agr.refl _ _⟩
      · rintro k H3 junk3 ⟨hk, ha3⟩
        have hs3 := old_size ha3
        by_cases hkl : k < (gRun (simD D) b).1.length
        · have d1 : decide ((k : Int) < ((gRun (simD D) b).1.length : Int)) = true := decide_eq_true (by omega)
          (conv => whnf); rw [d1]
          (conv => whnf); refine VIte.mk (fun h1' => ?_) (fun h1' => ?_) <;> simp only [decide_eq_true_eq, decide_eq_false_iff_not] at h1'
          · obtain ⟨g, hg⟩ := get_some hkl
            have hgb := (hok.first k g hg).1
            (conv => whnf); refine VSeq.run ?_
            (conv => whnf)
            refine VLoop.mk [8, 9] (fun j : Nat => [.bool (simTo D b g j), .int .i64 j]) (fun j H4 => j ≤ D.next.length ∧ Agr (Old H2) H2 H4) (fun j _ => D.next.length - j) ?_ ?_
            · (conv => whnf); exact ⟨0, rfl, by omega, ha3⟩
            · rintro j H4 junk4 ⟨hj, ha4⟩
              have hA4 := hA2.trans (ha4.mono fun k hk => old_lt hA2 hk)
              have hb4 := hb2.agr ha4 hb2.lt
              have up : ∀ {H' : Heap}, Agr (Old H) H H' → ∀ k, S k → k < H'.size := fun h k hk => old_lt h (hS k hk)
              have hneg : fdG (simD D) b ((gRun (simD D) b).1.take k) = -1 := by have := (fdG_in (sim := simD D) (b := b) (l := (gRun (simD D) b).1.take k)).1; omega
              (conv => whnf); refine VC.fa fl35_2 ?_
              (conv => whnf); refine ld1 ct23 (by rw [hb4.cell, Nat.zero_add]; exact dfaL_257 hlen) trivial ?_
              by_cases hjl : j < D.next.length
              · have d2 : decide ((j : Int) < (D.next.length : Int)) = true := decide_eq_true (by omega)
                cases hal : simTo D b g j with
                | true =>
                  (conv => whnf); rw [d2]
                  (conv => whnf); refine VDraw.quiet (Old H4) rfl (by kernel_rfl) ?_
                  (conv => whnf); refine dfa_load hb4 hlen hb4.lt (h1.frame (hA4.mono hS)) (h2.frame (hA4.mono hS)) (h3.frame (hA4.mono hS)) fun v5 hv5 => ?_
                  (conv => whnf); rw [w8 (x := (b : Int)) (by omega) (by omega)]
                  (conv => whnf); refine pureq (fun H' h' => refstep_p (up (hA4.trans (h'.mono fun k hk => old_lt hA4 hk))) (hv5.frame (h'.mono fun k hk => up hA4 k hk)) hdok (show b < 256 by omega)) ?_
                  (conv => whnf); refine dfa_load hb4 hlen hb4.lt (h1.frame (hA4.mono hS)) (h2.frame (hA4.mono hS)) (h3.frame (hA4.mono hS)) fun v6 hv6 => ?_
                  (conv => whnf); refine ixrn sl33 (hfv.frame ha4) (asI_len _).symm (asI_get hg) rfl ?_
                  rintro b6 o6 cs6 hSb6 hcells6 ⟨rfl, -⟩
                  (conv => whnf); refine ld1 ct3 hcells6.one (old_lt ha4 hSb6) ?_
                  (conv => whnf); rw [w8 (x := (g : Int)) (by omega) (by omega)]
                  (conv => whnf); refine pureq (fun H' h' => refstep_p (up (hA4.trans (h'.mono fun k hk => old_lt hA4 hk))) (hv6.frame (h'.mono fun k hk => up hA4 k hk)) hdok (show g < 256 by omega)) ?_
                  (conv => whnf)
                  intro H5 ha5
                  (conv => whnf); rw [w64 (x := (j : Int) + 1) (by omega) (by omega)]
                  exact ⟨rfl, j + 1, by rw [simTo_succ, hal]; simp, ⟨by omega, ha4.trans (ha5.mono fun k hk => old_lt ha4 hk)⟩, by omega⟩
                | false =>
                  have hs := simTo_no hj hal
                  (conv => whnf); rw [d2]
                  (conv => whnf); rw [w64 (x := (k : Int) + 1) (by omega) (by omega)]
                  refine ⟨rfl, k + 1, ?_, ⟨by omega, ha4⟩, by omega⟩
                  rw [take_succ_snoc hg, fdG_snoc h1', hs, hneg]; simp
              · obtain rfl : j = D.next.length := by omega
                have d2 : decide ((D.next.length : Int) < (D.next.length : Int)) = false := decide_eq_false (by omega)
                rw [show simTo D b g D.next.length = simD D b g from rfl]
                cases hs : simD D b g with
                | true =>
                  (conv => whnf); rw [d2]
                  (conv => whnf); rw [w64 (x := (k : Int) + 1) (by omega) (by omega)]
                  refine ⟨rfl, k + 1, ?_, ⟨by omega, ha4⟩, by omega⟩
                  rw [take_succ_snoc hg, fdG_snoc h1', hs]
                  simp; omega
                | false =>
                  (conv => whnf); rw [d2]
                  (conv => whnf); rw [w64 (x := (k : Int) + 1) (by omega) (by omega)]
                  refine ⟨rfl, k + 1, ?_, ⟨by omega, ha4⟩, by omega⟩
                  rw [take_succ_snoc hg, fdG_snoc h1', hs, hneg]; simp
          · rw [← fdG_take (by omega)]
            replace h1' : 0 ≤ fdG (simD D) b (gRun (simD D) b).1 := by rw [fdG_take (k := k) (by omega)]; omega
            replace ho := ho.agr ha3 (fun j hj => (ho.lt hj).2) (fun _ f => f.elim)
            replace hf := hf.agr ha3 (fun j hj => (hf.lt hj).2) (fun _ f => f.elim)
            replace ha2 := ha2.trans (ha3.mono fun k hk => old_lt ha2 hk)
            replace hs2 : H1.size ≤ H3.size := by omega
            cases hfi : (gRun (simD D) b).1.findIdx? fun g => simD D b g with
            | none => exact absurd (fdG_none.2 hfi) (by omega)
            | some k0 =>
              have hk0 := (List.findIdx?_eq_some_iff_getElem.1 hfi).1
              have hfd : fdG (simD D) b (gRun (simD D) b).1 = (k0 : Int) := by unfold fdG; rw [hfi]
              rw [hfd]
              have hnext : gRun (simD D) (b + 1) = ((gRun (simD D) b).1, (gRun (simD D) b).2 ++ [k0]) := gRun_some hfi
              obtain ⟨vb, cap, l, e1, hlo, hblk, hlen, hput⟩ := SlO.byte ho (atSets_get hk0) (show b < 256 by omega)
              rw [atSets_len] at e1
              injection e1 with e2 e3 e4
              subst e2; subst e4
              (conv => whnf); refine VSeq.run ?_
              (conv => whnf); refine ix slF_ (by omega) (by omega) ?_
              (conv => whnf); refine ixa ar112 (by omega) (by omega) ?_
              (conv => whnf); refine st1 ct4 hblk (by rw [show tF.size = 256 from rfl]; omega) rfl ?_
              intro H6 hb6 ha6 hs6
              rw [show 0 + ((k0 : Nat) : Int).toNat * tF.size + ((b : Nat) : Int).toNat * 1 = k0 * 256 + b by rw [show tF.size = 256 from rfl]; omega] at hb6
              have ho6 := hput H6 hb6
              have hput2 := atSets_put (ps := (gRun (simD D) b).2) hk0
              rw [hok.plen] at hput2
              rw [hput2] at ho6
              have hf6 := hf.agr ha6 (fun j hj => by rintro rfl; exact hap _ ⟨0, _, _, rfl⟩ hj) (fun _ f => f.elim)
              (conv => whnf); rw [w64 (x := (b : Int) + 1) (by omega) (by omega)]
              refine ⟨rfl, (b + 1, .slice (some ⟨vb, 0, none⟩) (gRun (simD D) b).1.length ocap, .slice fa (gRun (simD D) b).1.length fcap), by simp, ⟨by simp only; omega, ha2.trans (ha6.mono fun j hj => by unfold Old at hj; omega), by omega, ?_, ?_, hap⟩, by simp only; omega⟩
              · simp only [hnext]; exact ho6
              · simp only [hnext]; exact hf6
        · obtain rfl : k = (gRun (simD D) b).1.length := by omega
          have d1 : decide (((gRun (simD D) b).1.length : Int) < ((gRun (simD D) b).1.length : Int)) = false := decide_eq_false (by omega)
          rw [List.take_length]
          replace ho := ho.agr ha3 (fun j hj => (ho.lt hj).2) (fun _ f => f.elim)
          replace hf := hf.agr ha3 (fun j hj => (hf.lt hj).2) (fun _ f => f.elim)
          replace ha2 := ha2.trans (ha3.mono fun k hk => old_lt ha2 hk)
          replace hs2 : H1.size ≤ H3.size := by omega
          (conv => whnf); rw [d1]
          by_cases h1' : fdG (simD D) b (gRun (simD D) b).1 < 0
          · have hfi := fdG_none.1 h1'
            have hfd : fdG (simD D) b (gRun (simD D) b).1 = -1 := by have := (fdG_in (sim := simD D) (b := b) (l := (gRun (simD D) b).1)).1; omega
            rw [hfd]
            have hnext : gRun (simD D) (b + 1) = ((gRun (simD D) b).1 ++ [b], (gRun (simD D) b).2 ++ [(gRun (simD D) b).1.length]) := gRun_none hfi
            have hlt' : ∀ p ∈ (gRun (simD D) b).2, p < (gRun (simD D) b).1.length := hok.lt
            (conv => whnf); refine VSeq.run ?_
            (conv => whnf); refine vbuildA ar112 (Tryd.t112.zero.getD undef) rfl (List.replicate 256 (.bool false)) rfl ?_
            (conv => whnf); refine vbuild1 slF_ (List.replicate 256 (.bool false)) rfl rfl (by decide) (by decide) ?_
            intro q4 H4 hq4 hs4 hb4 ha4
            have ho4 := ho.agr ha4 (fun j hj => by have := (ho.lt hj).2; omega) (fun _ f => f.elim)
            have hf4 := hf.agr ha4 (fun j hj => by have := (hf.lt hj).2; omega) (fun _ f => f.elim)
            (conv => whnf); refine vappendO (T := tF) (S := fun _ => False) (ys := [fun _ => false]) (ds := List.replicate 256 (.bool false)) (lo := H1.size) (xs := atSets (gRun (simD D) b).2 (gRun (simD D) b).1.length) slF_ ho4 (by omega) (fun j hj => hj.elim)
              (hb4.cells (fun j v hv => by rw [Nat.zero_add]; exact hv)) (Ty.reps_one (show List.replicate 256 (Value.bool false) = funL (fun _ => false) from funL_zero.symm)) rfl (by intro u hu; rw [List.eq_of_mem_replicate hu]; rfl) (by rw [atSets_len]; simp only [maxLen, List.length_singleton]; omega) (by rw [atSets_len]; simp only [List.length_singleton]; omega) ?_
            intro v5 H5 ho5 ha5 hs5 hfr5
            rw [← atSets_more _ _ hlt'] at ho5
            have hf5 := hf4.agr ha5 (fun j hj => ⟨(hf4.lt hj).2, fun h => hap j h hj⟩) (fun _ f => f.elim)
            have hb5 : Blk H5 q4 112 (List.replicate 256 (.bool false)) := hb4.agr ha5 ⟨hb4.lt, fun h => by have := (ho.lt h).2; omega⟩
            (conv => whnf); refine vbuild1 sl33 [.int .i64 (b : Int)] rfl rfl (by decide) (by decide) ?_
            intro q6 H6 hq6 hs6 hb6 ha6
            have ho6 := ho5.agr ha6 (fun j hj => by have := (ho5.lt hj).2; omega) (fun _ f => f.elim)
            have hf6 := hf5.agr ha6 (fun j hj => by have := (hf5.lt hj).2; omega) (fun _ f => f.elim)
            (conv => whnf); refine vappendO (T := tI) (S := fun _ => False) (ys := [(b : Int)]) (ds := [.int .i64 (b : Int)]) (lo := H1.size) (xs := asI (gRun (simD D) b).1) sl33 hf6 (by omega) (fun j hj => hj.elim)
              (hb6.cells (fun j v hv => by simpa using hv)) (Ty.reps_one ⟨rfl, inI64 (by omega)⟩) rfl (by intro u hu; cases List.mem_singleton.1 hu; rfl) (by rw [asI_len]; simp only [maxLen, List.length_singleton]; omega) (by rw [asI_len]; simp only [List.length_singleton]; omega) ?_
            intro v7 H7 hf7 ha7 hs7 hfr7
            have hap5 : ∀ j, slB v5 j → ¬ slB (.slice fa (gRun (simD D) b).1.length fcap) j := fun j hj hj' => by
              rcases hfr5 j hj with h | h
              · exact hap j h hj'
              · have := (hf.lt hj').2; omega
            have ho7 := ho6.agr ha7 (fun j hj => ⟨(ho6.lt hj).2, hap5 j hj⟩) (fun _ f => f.elim)
            have hap7 : ∀ j, slB v5 j → ¬ slB v7 j := fun j hj hj' => by
              rcases hfr7 j hj' with h | h
              · exact hap5 j hj h
              · have := (ho6.lt hj).2; omega
            have hget7 : (atSets (gRun (simD D) b).2 ((gRun (simD D) b).1.length + 1))[(gRun (simD D) b).1.length]? = some (atSet (gRun (simD D) b).2 (gRun (simD D) b).1.length) := atSets_get (by omega)
            obtain ⟨vb, cap, l, e1, hlo, hblk, hlen, hput⟩ := SlO.byte ho7 hget7 (show b < 256 by omega)
            subst e1
            rw [atSets_len] at *
            have hnn : (gRun (simD D) b).1.length < (gRun (simD D) b).1.length + 1 := by omega
            (conv => whnf); refine ix slF_ (by omega) (by omega) ?_
            (conv => whnf); refine ixa ar112 (by omega) (by omega) ?_
            (conv => whnf); refine st1 ct4 hblk (by rw [show tF.size = 256 from rfl]; omega) rfl ?_
            intro H8 hb8 ha8 hs8
            rw [show 0 + (((gRun (simD D) b).1.length : Nat) : Int).toNat * tF.size + ((b : Nat) : Int).toNat * 1 = (gRun (simD D) b).1.length * 256 + b by rw [show tF.size = 256 from rfl]; omega] at hb8
            have ho8 := hput H8 hb8
            have hput2 := atSets_put (ps := (gRun (simD D) b).2) hnn
            rw [hok.plen] at hput2
            rw [hput2] at ho8
            have hf8 := hf7.agr ha8 (fun j hj => by rintro rfl; exact hap7 _ ⟨0, _, _, rfl⟩ hj) (fun _ f => f.elim)
            have hA8 : Agr (Old H1) H1 H8 := ((((ha2.trans (ha4.mono fun j hj => by have := old_lt ha2 hj; omega)).trans (ha5.mono fun j hj => ⟨by have := old_lt ha2 hj; omega, fun h => by have := (ho.lt h).1; unfold Old at hj; omega⟩)).trans (ha6.mono fun j hj => by have := old_lt ha2 hj; omega)).trans (ha7.mono fun j hj => ⟨by have := old_lt ha2 hj; omega, fun h => by have := (hf.lt h).1; unfold Old at hj; omega⟩)).trans (ha8.mono fun j hj => by unfold Old at hj; omega)
            (conv => whnf); rw [w64 (x := (b : Int) + 1) (by omega) (by omega)]
            refine ⟨rfl, (b + 1, _, _), rfl, ⟨by simp only; omega, hA8, by omega, ?_, ?_, hap7⟩, by simp only; omega⟩
            · simp only [hnext, List.length_append, List.length_singleton]; exact ho8
            · simp only [hnext, asI, List.map_append, List.map_cons, List.map_nil]; exact hf8
          · replace h1' : 0 ≤ fdG (simD D) b (gRun (simD D) b).1 := by omega
            cases hfi : (gRun (simD D) b).1.findIdx? fun g => simD D b g with
            | none => exact absurd (fdG_none.2 hfi) (by omega)
            | some k0 =>
              have hk0 := (List.findIdx?_eq_some_iff_getElem.1 hfi).1
              have hfd : fdG (simD D) b (gRun (simD D) b).1 = (k0 : Int) := by unfold fdG; rw [hfi]
              rw [hfd]
              have hnext : gRun (simD D) (b + 1) = ((gRun (simD D) b).1, (gRun (simD D) b).2 ++ [k0]) := gRun_some hfi
              obtain ⟨vb, cap, l, e1, hlo, hblk, hlen, hput⟩ := SlO.byte ho (atSets_get hk0) (show b < 256 by omega)
              rw [atSets_len] at e1
              injection e1 with e2 e3 e4
              subst e2; subst e4
              (conv => whnf); refine VSeq.run ?_
              (conv => whnf); refine ix slF_ (by omega) (by omega) ?_
              (conv => whnf); refine ixa ar112 (by omega) (by omega) ?_
              (conv => whnf); refine st1 ct4 hblk (by rw [show tF.size = 256 from rfl]; omega) rfl ?_
              intro H6 hb6 ha6 hs6
              rw [show 0 + ((k0 : Nat) : Int).toNat * tF.size + ((b : Nat) : Int).toNat * 1 = k0 * 256 + b by rw [show tF.size = 256 from rfl]; omega] at hb6
              have ho6 := hput H6 hb6
              have hput2 := atSets_put (ps := (gRun (simD D) b).2) hk0
              rw [hok.plen] at hput2
              rw [hput2] at ho6
              have hf6 := hf.agr ha6 (fun j hj => by rintro rfl; exact hap _ ⟨0, _, _, rfl⟩ hj) (fun _ f => f.elim)
              (conv => whnf); rw [w64 (x := (b : Int) + 1) (by omega) (by omega)]
              refine ⟨rfl, (b + 1, .slice (some ⟨vb, 0, none⟩) (gRun (simD D) b).1.length ocap, .slice fa (gRun (simD D) b).1.length fcap), by simp, ⟨by simp only; omega, ha2.trans (ha6.mono fun j hj => by unfold Old at hj; omega), by omega, ?_, ?_, hap⟩, by simp only; omega⟩
              · simp only [hnext]; exact ho6
              · simp only [hnext]; exact hf6
    · obtain rfl : b = 256 := by omega
      obtain ⟨oa2, ocap2, e2, hov2, -⟩ := ho.view (S' := Fresh H H2) (fun j hj => ⟨by have := (ho.lt hj).1; omega, (ho.lt hj).2⟩) (fun _ f => f.elim)
      rw [atSets_len] at e2
      injection e2 with e3 e4 e5
      subst e3; subst e5
      (conv => whnf)
      exact ⟨hA2, by omega, _, _, rfl, ho.lower (by omega)⟩
end Go.Proofs.YthomdogheamfpaaDoor
/- The program's automaton and the document's, side by side. -/
set_option linter.unusedVariables false
set_option linter.unusedSimpArgs false
set_option maxRecDepth 100000
namespace Go.Proofs.YthomdogheamfpaaDoor
open Go.VC
attribute [local irreducible] mRun atRun

/-- The program's automaton and the document's are alike. -/
structure Both (o : Option AM) (D : DM) : Prop where
  ok : D.Ok
  n : stN o = D.next.length
  step : ∀ (q : Int) (b : Nat), b < 256 → stepM o q b = stepD D q b
  fin : ∀ q : Int, finM o q = finD D q
  alive : ∀ q : Int, aliveM o q = aliveD D q
theorem both_of (cells : List (BitVec 256)) (next : List (List Int)) (final : List Bool) : Both (autoOf cells next final) (dfaOf cells next final) :=
  ⟨dfaOf_ok _ _ _, both_n _ _ _, fun q b hb => both_step _ _ _ q hb, both_final _ _ _, both_alive _ _ _⟩
section
variable {o : Option AM} {D : DM}
end
end Go.Proofs.YthomdogheamfpaaDoor
/- The document's side of layer 9: the bytes that stand for all, the game's rules. -/
set_option linter.unusedVariables false
set_option linter.unusedSimpArgs false
set_option maxRecDepth 100000
namespace Go.Proofs.YthomdogheamfpaaDoor
open Go.VC
attribute [local irreducible] mRun gRun atRun

/-! ### cells as sets of bits -/
def bvF (f : Nat → Bool) : Nat → BitVec 256
  | 0 => 0#256
  | n + 1 => if f n then bvF f n ||| spanS n n else bvF f n
theorem bvF_bit (f : Nat → Bool) {b : Nat} (hb : b < 256) : ∀ n, (bvF f n).getLsbD b = (decide (b < n) && f b)
  | 0 => by simp [bvF]
  | n + 1 => by
    have ih := bvF_bit f hb n
    unfold bvF
    split
    · rename_i hf
      rw [BitVec.getLsbD_or, ih, spanS_bit n n b hb]
      by_cases h : b = n
      · subst h; simp [hf]
      · have h1 : decide (b < n + 1) = decide (b < n) := by rw [decide_eq_decide]; omega
        have h2 : (decide (n ≤ b) && decide (b ≤ n)) = false := by simp; omega
        rw [h1, h2, Bool.or_false]
    · rename_i hf
      rw [ih]
      by_cases h : b = n
      · subst h; simp [hf]
      · have h1 : decide (b < n + 1) = decide (b < n) := by rw [decide_eq_decide]; omega
        rw [h1]
def bvN (f : Nat → Bool) : BitVec 256 := bvF f 256
theorem bvN_bit (f : Nat → Bool) {b : Nat} (hb : b < 256) : (bvN f).getLsbD b = f b := by
  unfold bvN
  rw [bvF_bit f hb, decide_eq_true hb, Bool.true_and]
theorem funL_bits (f : Nat → Bool) : funL f = bitsL (bvN f) := by
  unfold funL bitsL bitsTo
  refine List.map_congr_left fun b hb => ?_
  have hb := List.mem_range.1 hb
  rw [bvN_bit f hb, decide_eq_true hb, Bool.true_and]
theorem reps_bits {S : Nat → Prop} {H : Heap} : ∀ {cs : List Value} {fs : List (Nat → Bool)}, tF.reps S H cs fs → tB.reps S H cs (fs.map bvN)
  | _, [], h => h
  | _, f :: fs, ⟨c, r, e, hc, hr⟩ => ⟨c, r, e, (show c = bitsL (bvN f) by rw [← funL_bits]; exact hc), reps_bits hr⟩
def cellsD (D : DM) : List (BitVec 256) := (atSets (gRun (simD D) 256).2 (gRun (simD D) 256).1.length).map bvN
theorem refcellsB {S : Nat → Prop} {H : Heap} {v : Value} {D : DM} (hS : ∀ k, S k → k < H.size) (hw : DfaV S H v D) (hdok : D.Ok) :
    FnOk Tryd.prog 57 #[v] H fun v H' => Agr (Old H) H H' ∧ SlO tB none_ H' H.size 112 v (cellsD D) := by
  refine (refcells_o hS hw hdok).mono ?_
  rintro v' H' ⟨h1, h2, a, cap, rfl, cs, h3, h4⟩
  refine ⟨h1, cs, ?_, reps_bits h4⟩
  unfold cellsD
  rw [List.length_map]
  exact h3
theorem cellsD_len (D : DM) : 0 < (cellsD D).length ∧ (cellsD D).length ≤ 256 := by
  have hg := gRun_ok (simD_refl D) 256
  unfold cellsD
  rw [List.length_map, atSets_len]
  have h0 : (gRun (simD D) 256).2.length = 256 := hg.plen
  obtain ⟨p, hp⟩ := get_some (l := (gRun (simD D) 256).2) (k := 0) (by omega)
  have := hg.lt p (List.mem_of_getElem? hp)
  exact ⟨by omega, hg.flen⟩
/-- The bytes that the document goes by. -/
def repsD (A B : DM) : List Nat := (atRun (cellsD A ++ cellsD B) 256).1
theorem repsD_lt (A B : DM) : ∀ r ∈ repsD A B, r < 256 := fun r hr => by
  obtain ⟨k, hk⟩ := List.getElem?_of_mem hr
  exact ((atRun_ok (cellsD A ++ cellsD B) 256).first k r hk).1
theorem repsD_len (A B : DM) : (repsD A B).length ≤ 256 := (atRun_ok (cellsD A ++ cellsD B) 256).flen
theorem atRun_up (cells : List (BitVec 256)) : ∀ b, (atRun cells b).1.Pairwise (· < ·)
  | 0 => by rw [atRun]; exact List.Pairwise.nil
  | b + 1 => by
    have ih := atRun_up cells b
    cases hf : (atRun cells b).1.findIdx? (fun g => sigEq cells b g) with
    | some k => rw [atRun_some hf]; exact ih
    | none =>
      rw [atRun_none hf]
      refine List.pairwise_append.2 ⟨ih, List.pairwise_singleton _ _, fun a ha c hc => ?_⟩
      rw [List.mem_singleton] at hc
      subst hc
      obtain ⟨k, hk⟩ := List.getElem?_of_mem ha
      exact ((atRun_ok cells c).first k a hk).1
theorem repsD_up (A B : DM) : (repsD A B).Pairwise (· < ·) := atRun_up _ 256
theorem cellsD_same {D : DM} {r c : Nat} (hr : r < 256) (hc : c < 256) (h : ∀ s ∈ cellsD D, s.getLsbD r = s.getLsbD c) (q : Int) : stepD D q r = stepD D q c := by
  have hg := gRun_ok (simD_refl D) 256
  by_cases hq : q < 0 ∨ (D.next.length : Int) ≤ q
  · unfold stepD
    rw [if_pos hq, if_pos hq]
  · obtain ⟨p, hp⟩ := get_some (l := (gRun (simD D) 256).2) (k := c) (by rw [hg.plen]; exact hc)
    have hpl := hg.lt p (List.mem_of_getElem? hp)
    obtain ⟨l, hl⟩ := get_some hpl
    have hin : bvN (atSet (gRun (simD D) 256).2 p) ∈ cellsD D := List.mem_map.2 ⟨_, List.mem_map.2 ⟨p, List.mem_range.2 hpl, rfl⟩, rfl⟩
    have hb := h _ hin
    rw [bvN_bit _ hr, bvN_bit _ hc] at hb
    have hpc : atSet (gRun (simD D) 256).2 p c = true := by unfold atSet; rw [hp]; simp
    rw [hpc] at hb
    have hpr : (gRun (simD D) 256).2[r]? = some p := by simpa [atSet] using hb
    have key : ∀ x, (gRun (simD D) 256).2[x]? = some p → stepD D q x = stepD D q l := fun x hx => by
      have h1 := (hg.sig x p l hx hl).1
      unfold simD simTo at h1
      obtain ⟨n, rfl⟩ := Int.eq_ofNat_of_zero_le (show 0 ≤ q by omega)
      have := List.all_eq_true.1 h1 n (List.mem_range.2 (by omega))
      simpa using this
    rw [key r hpr, key c hp]
theorem repsD_cov (A B : DM) : ∀ c, c < 256 → ∃ r ∈ repsD A B, r ≤ c ∧ (∀ q, stepD A q r = stepD A q c) ∧ ∀ q, stepD B q r = stepD B q c := fun c hc => by
  have ha := atRun_ok (cellsD A ++ cellsD B) 256
  obtain ⟨p, hp⟩ := get_some (l := (atRun (cellsD A ++ cellsD B) 256).2) (k := c) (by rw [ha.plen]; exact hc)
  obtain ⟨g, hg⟩ := get_some (ha.lt p (List.mem_of_getElem? hp))
  obtain ⟨h1, h2⟩ := ha.sig c p g hp hg
  have hg8 := (ha.first p g hg).1
  unfold sigEq at h1
  have h3 : ∀ s ∈ cellsD A ++ cellsD B, s.getLsbD g = s.getLsbD c := fun s hs => by
    have := List.all_eq_true.1 h1 s hs
    simp only [beq_iff_eq] at this
    exact this.symm
  exact ⟨g, List.mem_of_getElem? hg, h2, cellsD_same hg8 hc fun s hs => h3 s (List.mem_append.2 (.inl hs)), cellsD_same hg8 hc fun s hs => h3 s (List.mem_append.2 (.inr hs))⟩
end Go.Proofs.YthomdogheamfpaaDoor
/- Automata of the document in memory, parted bytes; two states of memory one behind the other. -/
set_option linter.unusedVariables false
set_option linter.unusedSimpArgs false
set_option maxRecDepth 100000
namespace Go.VC
/-- What was made later stands beside what was there. -/
theorem StB.cat {B : Nat → Prop} {H0 H H' : Heap} {ps qs : List Pc} (st : StB B H0 H ps) (st2 : St H H' qs) : StB B H0 H' (ps ++ qs) := by
  have h1 := st.call st2.old
  refine ⟨h1.old, h1.lt0, h1.size, fun p hp => ?_, fun p hp k hk => ?_, ?_⟩
  · rcases List.mem_append.1 hp with hp | hp
    · exact h1.oks p hp
    · exact st2.oks p hp
  · rcases List.mem_append.1 hp with hp | hp
    · exact h1.rng p hp k hk
    · obtain ⟨h2, h3⟩ := st2.rng p hp k hk
      exact ⟨fun hB => h2 (st.up hB), h3⟩
  · refine List.pairwise_append.2 ⟨h1.dis, st2.dis, fun p hp q hq k hk hk' => ?_⟩
    exact (st2.rng q hq k hk').1 (st.rng p hp k hk).2
end Go.VC
namespace Go.Proofs.YthomdogheamfpaaDoor
open Go.VC
attribute [local irreducible] mRun gRun atRun
theorem dfa_len {S : Nat → Prop} {H : Heap} {la : List Value} {D : DM} (h : DfaV S H (.agg la.toArray) D) : la.length = 259 ∧ ∃ fa fc, la[258]? = some (.slice fa D.final.length fc) ∧ SlD tBool S H fa fc D.final := by
  obtain ⟨hl, ra, rc, na, nc, fa, fc, e, h1, h2, h3⟩ := h
  injection e with e
  have e : la = dfaL D.cell (.slice ra D.reps.length rc) (.slice na D.next.length nc) (.slice fa D.final.length fc) := by simpa using e
  subst e
  exact ⟨dfaL_len hl, fa, fc, dfaL_258 hl, h3⟩
theorem fin_ix {S S0 : Nat → Prop} {H : Heap} {fa : Option Addr} {fc : Nat} {D : DM} {x : Int} {K : Value → Prop} (h : SlD tBool S H fa fc D.final) (h0 : 0 ≤ x) (h1 : x < D.final.length) (hk : ∀ b o, S b → VC.cell H b o = some (.bool (finD D x)) → K (.pointer (some ⟨b, o, none⟩))) :
    VDet Tryd.prog (Instr.indexAt 24 (.slice fa D.final.length fc) (.int .i64 x)) S0 H K := by
  obtain ⟨n, rfl⟩ := Int.eq_ofNat_of_zero_le h0
  obtain ⟨f, hf⟩ := get_some (l := D.final) (k := n) (by omega)
  refine ixr (i := n) sl24 h hf rfl ?_
  rintro b o cs hS hc rfl
  refine hk b o hS ?_
  rw [hc.one]
  simp [finD, hf]
/-- A slice that is only read, as a piece. -/
def pV (a : Option Addr) (cap : Nat) (xs : List Int) (S : Nat → Prop) : Pc := ⟨S, fun H => SlD tI S H a cap xs, fun h hp => hp.frame h⟩
theorem splice_whole {l cs : List Value} (h : l.length = cs.length) : splice l 0 cs = cs := by
  apply List.ext_getElem?
  intro j
  by_cases hj : j < cs.length
  · rw [splice_get (by omega), if_pos ⟨Nat.zero_le _, by omega⟩, Nat.sub_zero]
  · rw [List.getElem?_eq_none (by rw [splice_length (by omega)]; omega), List.getElem?_eq_none (by omega)]
theorem partedB {ca : Option Addr} {cc n : Nat} {cells : List (BitVec 256)} {S : Nat → Prop} {H : Heap} (hn : n = cells.length) (hS : ∀ k, S k → k < H.size) (hc : SlD tB S H ca cc cells) (hl : cells.length ≤ 4194304) :
    FnOk Tryd.prog 64 #[.slice ca n cc] H fun v H' => Agr (Old H) H H' ∧ ∃ cell ra rc, cell.length = 256 ∧ v = .agg (dfaL cell (.slice ra (atRun cells 256).1.length rc) (.slice none 0 0) (.slice none 0 0)).toArray ∧ SlD tI (Fresh H H') H' ra rc (asI (atRun cells 256).1) := by
  subst hn
  refine (parted_c ca cc cells S H hS hc hl).mono ?_
  rintro v H' ⟨h1, -, ra, rc, rfl, h2⟩
  exact ⟨h1, _, ra, rc, by unfold asI; rw [List.length_map]; exact (atRun_ok cells 256).plen, rfl, h2⟩
theorem bA_append (u v : List Nat) : bA u ++ bA v = bA (u ++ v) := by
  apply text_inj
  rw [bA_data, ByteArray.data_append, Array.toList_append, bA_data, bA_data, List.map_append]
end Go.Proofs.YthomdogheamfpaaDoor
/- The document's Determinize: the walk. -/
set_option linter.unusedVariables false
set_option linter.unusedSimpArgs false
set_option maxRecDepth 100000
namespace Go.Proofs.YthomdogheamfpaaDoor
open Go.VC
attribute [local irreducible] mRun gRun atRun
end Go.Proofs.YthomdogheamfpaaDoor
/- The least bytes of the atoms are the same on both sides: the plain law. -/
set_option linter.unusedVariables false
set_option linter.unusedSimpArgs false
set_option maxRecDepth 100000
namespace Go.Proofs.YthomdogheamfpaaDoor
open Go.VC
def leastB (cells : List (BitVec 256)) (g : Nat) : Bool := (List.range g).all fun h => !sigEq cells g h
theorem sigEq_iff {cells : List (BitVec 256)} {a b : Nat} : sigEq cells a b = true ↔ ∀ c ∈ cells, c.getLsbD a = c.getLsbD b := by
  unfold sigEq
  simp
theorem leastB_iff {cells : List (BitVec 256)} {g : Nat} : leastB cells g = true ↔ ∀ h, h < g → sigEq cells g h = false := by
  unfold leastB
  simp
theorem exists_least {cells : List (BitVec 256)} {b : Nat} : ∀ h, sigEq cells b h = true → ∃ g, g ≤ h ∧ sigEq cells b g = true ∧ leastB cells g = true := by
  intro h
  induction h using Nat.strongRecOn with
  | _ h ih =>
    intro hb
    by_cases hl : leastB cells h = true
    · exact ⟨h, Nat.le_refl _, hb, hl⟩
    · have : ∃ h', h' < h ∧ sigEq cells h h' = true := by
        apply Classical.byContradiction
        intro hno
        apply hl
        rw [leastB_iff]
        intro h' hh'
        cases hs : sigEq cells h h' with
        | false => rfl
        | true => exact absurd ⟨h', hh', hs⟩ hno
      obtain ⟨h', hlt, hs⟩ := this
      obtain ⟨g, g1, g2, g3⟩ := ih h' hlt (sigEq_iff.2 fun c hc => (sigEq_iff.1 hb c hc).trans (sigEq_iff.1 hs c hc))
      exact ⟨g, by omega, g2, g3⟩
theorem atRun_filter (cells : List (BitVec 256)) : ∀ b, (atRun cells b).1 = (List.range b).filter (leastB cells)
  | 0 => rfl
  | b + 1 => by
    have ih := atRun_filter cells b
    rw [List.range_succ, List.filter_append]
    cases hf : (atRun cells b).1.findIdx? fun g => sigEq cells b g with
    | some k =>
      rw [atRun_some hf]
      obtain ⟨hk, h1, -⟩ := List.findIdx?_eq_some_iff_getElem.1 hf
      have hm : (atRun cells b).1[k] ∈ (List.range b).filter (leastB cells) := by rw [← ih]; exact List.getElem_mem hk
      have hlt := List.mem_range.1 (List.mem_filter.1 hm).1
      have : leastB cells b = false := by
        cases hl : leastB cells b with
        | false => rfl
        | true => rw [leastB_iff.1 hl _ hlt] at h1; cases h1
      rw [List.filter_cons_of_neg (by rw [this]; decide)]
      simpa using ih
    | none =>
      rw [atRun_none hf]
      have : leastB cells b = true := by
        rw [leastB_iff]
        intro h hh
        cases hs : sigEq cells b h with
        | false => rfl
        | true =>
          obtain ⟨g, g1, g2, g3⟩ := exists_least h hs
          have hm : g ∈ (atRun cells b).1 := by rw [ih]; exact List.mem_filter.2 ⟨List.mem_range.2 (by omega), g3⟩
          have := List.findIdx?_eq_none_iff.1 hf g hm
          rw [g2] at this
          cases this
      rw [List.filter_cons_of_pos this, ih]
      rfl
/-! ### the blocks -/
def Apart_ (x y : BitVec 256) : Prop := ∀ c, x.getLsbD c = true → y.getLsbD c = false
theorem cut_mem {s b x : BitVec 256} (h : x ∈ cutB s b) : x = b &&& s ∨ x = b &&& ~~~s := by
  have := (List.mem_filter.1 h).1
  simpa using this
theorem blocks_apart (sets : List (BitVec 256)) : (blocksM sets).Pairwise Apart_ := by
  have key : ∀ (rest bl : List (BitVec 256)), bl.Pairwise Apart_ → (rest.foldl partB bl).Pairwise Apart_ := by
    intro rest
    induction rest with
    | nil => exact fun bl h => h
    | cons s rest ih =>
      intro bl h
      refine ih _ ?_
      unfold partB
      rw [List.pairwise_flatMap]
      refine ⟨fun b hb => ?_, h.imp fun {x y} hxy u hu v hv c hc => ?_⟩
      · refine List.Pairwise.filter _ ?_
        refine List.pairwise_cons.2 ⟨fun y hy c hc => ?_, List.pairwise_singleton _ _⟩
        rw [List.mem_singleton] at hy
        subst hy
        rw [BitVec.getLsbD_and, Bool.and_eq_true] at hc
        rw [BitVec.getLsbD_and, BitVec.getLsbD_not, hc.2]
        simp
      · have h1 : x.getLsbD c = true := by
          rcases cut_mem hu with rfl | rfl <;> · rw [BitVec.getLsbD_and, Bool.and_eq_true] at hc; exact hc.1
        have h2 := hxy c h1
        rcases cut_mem hv with rfl | rfl <;> rw [BitVec.getLsbD_and, h2, Bool.false_and]
  exact key sets _ (List.pairwise_singleton _ _)
theorem blocks_sep (sets : List (BitVec 256)) : ∀ x ∈ blocksM sets, ∀ c d, c < 256 → d < 256 → (∀ s ∈ sets, s.getLsbD c = s.getLsbD d) → x.getLsbD c = x.getLsbD d := by
  have key : ∀ (rest bl : List (BitVec 256)) (c d : Nat), c < 256 → d < 256 → (∀ x ∈ bl, x.getLsbD c = x.getLsbD d) → (∀ s ∈ rest, s.getLsbD c = s.getLsbD d) → ∀ x ∈ rest.foldl partB bl, x.getLsbD c = x.getLsbD d := by
    intro rest
    induction rest with
    | nil => exact fun bl c d _ _ h _ => h
    | cons s rest ih =>
      intro bl c d hc hd h hr
      refine ih _ c d hc hd (fun x hx => ?_) fun s' hs' => hr s' (List.mem_cons_of_mem _ hs')
      obtain ⟨b, hb, hx⟩ := List.mem_flatMap.1 hx
      have h1 := h b hb
      have h2 := hr s (List.mem_cons_self ..)
      rcases cut_mem hx with rfl | rfl
      · rw [BitVec.getLsbD_and, BitVec.getLsbD_and, h1, h2]
      · rw [BitVec.getLsbD_and, BitVec.getLsbD_and, BitVec.getLsbD_not, BitVec.getLsbD_not, h1, h2]
        simp [hc, hd]
  intro x hx c d hc hd hs
  refine key sets _ c d hc hd (fun x hx => ?_) hs x hx
  rw [List.mem_singleton] at hx
  subst hx
  rw [BitVec.getLsbD_allOnes, BitVec.getLsbD_allOnes]
  simp [hc, hd]
theorem one_of {l : List (BitVec 256)} {b : Nat} (h : l.Pairwise Apart_) (hne : ∀ x ∈ l, x.getLsbD b = true) (hx : l ≠ []) : ∃ x, l = [x] := by
  match l, hx with
  | [x], _ => exact ⟨x, rfl⟩
  | x :: y :: r, _ =>
    have h1 := (List.pairwise_cons.1 h).1 y (by simp) b (hne x (by simp))
    rw [hne y (by simp)] at h1
    cases h1
theorem repsM_filter (sets : List (BitVec 256)) : repsM sets = (List.range 256).filter (leastB sets) := by
  have hok := part_ok sets
  have hone : ∀ b, b < 256 → (atomsAt (blocksM sets) b).map (fun c => (nextM c 0).1) = if leastB sets b then [b] else [] := by
    intro b hb
    have hall : ∀ x ∈ atomsAt (blocksM sets) b, x ∈ blocksM sets ∧ (nextM x 0).1 = b ∧ x.getLsbD b = true := fun x hx => by
      obtain ⟨h1, h2⟩ := List.mem_filter.1 hx
      have h3 : (nextM x 0).1 = b := by simpa using h2
      have h4 := (least_of (hok.ne x h1)).1
      rw [h3] at h4
      exact ⟨h1, h3, h4⟩
    cases hl : leastB sets b with
    | false =>
      rw [if_neg (by decide)]
      have : atomsAt (blocksM sets) b = [] := by
        apply Classical.byContradiction
        intro hne
        obtain ⟨x, hx⟩ := List.exists_mem_of_ne_nil _ hne
        obtain ⟨h1, h2, h3⟩ := hall x hx
        have : ∃ h, h < b ∧ sigEq sets b h = true := by
          apply Classical.byContradiction
          intro hno
          have : leastB sets b = true := leastB_iff.2 fun h hh => by
            cases hs : sigEq sets b h with
            | false => rfl
            | true => exact absurd ⟨h, hh, hs⟩ hno
          rw [hl] at this; cases this
        obtain ⟨h, hh, hs⟩ := this
        have h4 := blocks_sep sets x h1 b h hb (by omega) (sigEq_iff.1 hs)
        rw [h3] at h4
        have h5 := (least_of (hok.ne x h1)).2 h (by rw [h2]; exact hh)
        rw [h5] at h4; cases h4
      rw [this]; rfl
    | true =>
      rw [if_pos rfl]
      obtain ⟨x, hx, hxb⟩ := hok.all b hb
      obtain ⟨l1, l2⟩ := least_of (hok.ne x hx)
      have hle : (nextM x 0).1 = b := by
        apply Classical.byContradiction
        intro hne
        have hlt : (nextM x 0).1 < b := by
          rcases Nat.lt_or_ge b (nextM x 0).1 with h | h
          · rw [l2 b h] at hxb; cases hxb
          · omega
        have hs := hok.same x hx b _ hxb l1
        have := leastB_iff.1 hl _ hlt
        rw [sigEq_iff.2 hs] at this; cases this
      have hmem : x ∈ atomsAt (blocksM sets) b := List.mem_filter.2 ⟨hx, by rw [hle]; simp⟩
      obtain ⟨y, hy⟩ := one_of (l := atomsAt (blocksM sets) b) (b := b) ((blocks_apart sets).filter _) (fun z hz => (hall z hz).2.2) (List.ne_nil_of_mem hmem)
      rw [hy]
      have := (hall y (by rw [hy]; simp)).2.1
      simp only [List.map_cons, List.map_nil, this]
  unfold repsM atomsM
  rw [List.map_flatMap]
  have key : ∀ l : List Nat, (∀ b ∈ l, b < 256) → (l.flatMap fun b => (atomsAt (blocksM sets) b).map fun c => (nextM c 0).1) = l.filter (leastB sets) := by
    intro l
    induction l with
    | nil => exact fun _ => rfl
    | cons b l ih =>
      intro h
      rw [List.flatMap_cons, hone b (h b (List.mem_cons_self ..)), ih fun x hx => h x (List.mem_cons_of_mem _ hx)]
      cases hl : leastB sets b with
      | true => rw [List.filter_cons_of_pos hl]; rfl
      | false => rw [List.filter_cons_of_neg (by rw [hl]; decide)]; rfl
  exact key _ fun b hb => List.mem_range.1 hb
theorem leastB_ext {s t : List (BitVec 256)} (h : ∀ x, x ∈ s ↔ x ∈ t) : leastB s = leastB t := by
  funext g
  rw [Bool.eq_iff_iff, leastB_iff, leastB_iff]
  have hs : ∀ a b, sigEq s a b = sigEq t a b := fun a b => by
    rw [Bool.eq_iff_iff, sigEq_iff, sigEq_iff]
    exact ⟨fun k c hc => k c ((h c).2 hc), fun k c hc => k c ((h c).1 hc)⟩
  constructor <;> intro k j hj
  · rw [← hs]; exact k j hj
  · rw [hs]; exact k j hj
/-- The same bytes on both sides. -/
theorem reps_same {s t : List (BitVec 256)} (h : ∀ x, x ∈ s ↔ x ∈ t) : repsM s = (atRun t 256).1 := by
  rw [repsM_filter, atRun_filter, leastB_ext h]
end Go.Proofs.YthomdogheamfpaaDoor
/- Making automata deterministic: the plain law: the walk over all bytes, and over one byte of each atom, find the same sets. -/
set_option linter.unusedVariables false
set_option linter.unusedSimpArgs false
set_option maxRecDepth 100000
namespace Go.Proofs.YthomdogheamfpaaDoor
open Go.VC
attribute [local irreducible] mRun gRun atRun
section
variable {K : Type} [DecidableEq K] {most : Nat} {step : K → Nat → K} {start : K} {P : K → Prop} {x : K}
theorem rowF_fst (s : Option (List K × List Nat)) (b : Nat) : (rowF most step x s b).map Prod.fst = (s.map Prod.fst).bind fun f => (atF most f (step x b)).map Prod.fst := by
  cases s with
  | none => rfl
  | some p =>
    simp only [rowF, Option.bind_some, Option.map_some]
    cases atF most p.1 (step x b) <;> rfl
theorem atF_old {f : List K} {k : K} {i : Nat} (hn : f.Nodup) (h : f[i]? = some k) : atF most f k = some (f, i) := by
  unfold atF
  have : f.findIdx? (· = k) = some i := by
    rw [List.findIdx?_eq_some_iff_getElem]
    obtain ⟨hi, e⟩ := List.getElem?_eq_some_iff.1 h
    refine ⟨hi, by simpa using e, fun j hj => ?_⟩
    have := (List.pairwise_iff_getElem.1 hn) j i (by omega) hi hj
    rw [e] at this
    simpa using this
  rw [this]
theorem atF_mem2 {F F' : List K} {k : K} {i : Nat} (h : atF most F k = some (F', i)) : ∀ y ∈ F', y ∈ F ∨ y = k := by
  intro y hx
  unfold atF at h
  split at h
  · injection h with h; injection h with h1 h2; subst h1; exact .inl hx
  · split at h
    · injection h with h; injection h with h1 h2; subst h1
      rcases List.mem_append.1 hx with hx | hx
      · exact .inl hx
      · rw [List.mem_singleton] at hx; exact .inr hx
    · cases h
theorem row_P (hs : ∀ b, P (step x b)) : ∀ (l : List Nat) (f f' : List K) (r r' : List Nat), l.foldl (rowF most step x) (some (f, r)) = some (f', r') → (∀ y ∈ f, P y) → ∀ y ∈ f', P y
  | [], f, f', r, r', h, hf => by
    simp only [List.foldl_nil, Option.some.injEq, Prod.mk.injEq] at h
    obtain ⟨rfl, -⟩ := h
    exact hf
  | b :: l, f, f', r, r', h, hf => by
    rw [List.foldl_cons] at h
    simp only [rowF, Option.bind_some] at h
    cases ha : atF most f (step x b) with
    | none => rw [ha] at h; rw [Option.map_none, rowF_none] at h; cases h
    | some p =>
      rw [ha] at h
      refine row_P hs l p.1 f' _ r' h fun y hy => ?_
      rcases atF_mem2 (i := p.2) ha y hy with h1 | rfl
      · exact hf y h1
      · exact hs b
theorem row_pre : ∀ (l : List Nat) (f f' : List K) (r r' : List Nat), l.foldl (rowF most step x) (some (f, r)) = some (f', r') → f.length ≤ most → f.Nodup → f'.length ≤ most ∧ f'.Nodup ∧ f <+: f' ∧ ∃ r2, r' = r ++ r2
  | [], f, f', r, r', h, h1, h2 => by
    simp only [List.foldl_nil, Option.some.injEq, Prod.mk.injEq] at h
    obtain ⟨rfl, rfl⟩ := h
    exact ⟨h1, h2, List.prefix_refl _, [], by simp⟩
  | b :: l, f, f', r, r', h, h1, h2 => by
    rw [List.foldl_cons] at h
    simp only [rowF, Option.bind_some] at h
    cases ha : atF most f (step x b) with
    | none => rw [ha] at h; rw [Option.map_none, rowF_none] at h; cases h
    | some p =>
      rw [ha] at h
      obtain ⟨-, g1, g2, g3⟩ := atF_some (i := p.2) ha h1 h2
      obtain ⟨k1, k2, k3, r2, k4⟩ := row_pre l p.1 f' _ r' h g1 g2
      exact ⟨k1, k2, g3.trans k3, p.2 :: r2, by rw [k4]; simp⟩
/-- What holds of all that has been found. -/
theorem rows_inv (hm : 1 ≤ most) (h0 : P start) (hs : ∀ y b, P y → P (step y b)) (bs : List Nat) : ∀ (n : Nat) (f : List K) (rows : List (List Nat)), rowsF most step bs start n = some (f, rows) → f.length ≤ most ∧ f.Nodup ∧ f[0]? = some start ∧ ∀ y ∈ f, P y
  | 0, f, rows, h => by
    simp only [rowsF, Option.some.injEq, Prod.mk.injEq] at h
    obtain ⟨rfl, -⟩ := h
    exact ⟨hm, by simp, rfl, fun y hy => by rw [List.mem_singleton] at hy; subst hy; exact h0⟩
  | n + 1, f, rows, h => by
    simp only [rowsF] at h
    cases hp : rowsF most step bs start n with
    | none => rw [hp] at h; cases h
    | some p =>
      obtain ⟨g1, g2, g3, g4⟩ := rows_inv hm h0 hs bs n p.1 p.2 hp
      rw [hp] at h
      simp only [Option.bind_some] at h
      cases hx : p.1[n]? with
      | none =>
        rw [hx] at h
        simp only [Option.some.injEq] at h
        subst h
        exact ⟨g1, g2, g3, g4⟩
      | some x =>
        rw [hx] at h
        simp only at h
        cases hr : bs.foldl (rowF most step x) (some (p.1, [])) with
        | none => rw [hr] at h; cases h
        | some r =>
          rw [hr] at h
          simp only [Option.map_some, Option.some.injEq, Prod.mk.injEq] at h
          obtain ⟨rfl, -⟩ := h
          obtain ⟨k1, k2, k3, -⟩ := row_pre bs p.1 r.1 [] r.2 hr g1 g2
          exact ⟨k1, k2, pre_get k3 g3, row_P (fun b => hs x b (g4 x (List.mem_of_getElem? hx))) bs p.1 r.1 [] r.2 hr g4⟩
/-- Each byte that is left out leads as one ahead of it. -/
def CovP (P : K → Prop) (step : K → Nat → K) (p : Nat → Bool) : Prop := ∀ b, b < 256 → p b = false → ∃ g, g < b ∧ p g = true ∧ ∀ x, P x → step x g = step x b
theorem row_canon {p : Nat → Bool} (hc : CovP P step p) (hx : P x) {f : List K} (h1 : f.length ≤ most) (h2 : f.Nodup) : ∀ m, m ≤ 256 →
    ((List.range m).foldl (rowF most step x) (some (f, []))).map Prod.fst = (((List.range m).filter p).foldl (rowF most step x) (some (f, []))).map Prod.fst := by
  intro m
  induction m with
  | zero => intro _; rfl
  | succ m ih =>
    intro hm
    have ih := ih (by omega)
    rw [List.range_succ, List.filter_append, List.foldl_append, List.foldl_append, List.foldl_cons, List.foldl_nil, rowF_fst, ih]
    cases hp : p m with
    | true =>
      rw [List.filter_cons_of_pos hp, List.filter_nil, List.foldl_cons, List.foldl_nil, rowF_fst]
    | false =>
      rw [List.filter_cons_of_neg (by rw [hp]; decide), List.filter_nil, List.foldl_nil]
      cases hA : (List.range m).foldl (rowF most step x) (some (f, [])) with
      | none => rw [← ih, hA]; rfl
      | some q =>
        obtain ⟨f', r'⟩ := q
        obtain ⟨k1, k2, k3, k4, k5⟩ := foldRow_pre h1 h2 hA
        obtain ⟨g, hg, hpg, hs⟩ := hc m (by omega) hp
        rw [List.length_range] at k4
        obtain ⟨t, ht⟩ := get_some (l := r') (k := g) (by omega)
        have h5 := k5 g g t (List.getElem?_range hg) ht
        rw [hs x hx] at h5
        rw [← ih, hA]
        simp only [Option.map_some, Option.bind_some, atF_old k2 h5]
theorem rows_canon {p : Nat → Bool} (hc : CovP P step p) (hm : 1 ≤ most) (h0 : P start) (hs : ∀ y b, P y → P (step y b)) : ∀ n, (rowsF most step (List.range 256) start n).map Prod.fst = (rowsF most step ((List.range 256).filter p) start n).map Prod.fst
  | 0 => rfl
  | n + 1 => by
    have ih := rows_canon hc hm h0 hs n
    simp only [rowsF]
    cases hA : rowsF most step (List.range 256) start n with
    | none =>
      rw [hA] at ih
      cases hB : rowsF most step ((List.range 256).filter p) start n with
      | none => rfl
      | some q => rw [hB] at ih; cases ih
    | some q =>
      rw [hA] at ih
      cases hB : rowsF most step ((List.range 256).filter p) start n with
      | none => rw [hB] at ih; cases ih
      | some q' =>
        rw [hB] at ih
        simp only [Option.map_some, Option.some.injEq] at ih
        obtain ⟨f, rows⟩ := q
        obtain ⟨f', rows'⟩ := q'
        simp only at ih
        subst ih
        obtain ⟨g1, g2, g3, g4⟩ := rows_inv hm h0 hs _ n f rows hA
        simp only [Option.bind_some]
        cases hx : f[n]? with
        | none => rfl
        | some x =>
          have hr := row_canon hc (g4 x (List.mem_of_getElem? hx)) g1 g2 256 (Nat.le_refl _)
          cases hA2 : (List.range 256).foldl (rowF most step x) (some (f, [])) with
          | none =>
            rw [hA2] at hr
            cases hB2 : ((List.range 256).filter p).foldl (rowF most step x) (some (f, [])) with
            | none => simp only [hA2, hB2]; rfl
            | some r => rw [hB2] at hr; cases hr
          | some r =>
            rw [hA2] at hr
            cases hB2 : ((List.range 256).filter p).foldl (rowF most step x) (some (f, [])) with
            | none => rw [hB2] at hr; cases hr
            | some r' =>
              rw [hB2] at hr
              simp only [hA2, hB2]
              simpa using hr
/-- All sets, in the order in which a walk over all bytes finds them. -/
def detW (most : Nat) (step : K → Nat → K) (start : K) : Option (List K) := (detF most step (List.range 256) start).map Prod.fst
theorem detW_of {p : Nat → Bool} (hc : CovP P step p) (hm : 1 ≤ most) (h0 : P start) (hs : ∀ y b, P y → P (step y b)) : (detF most step ((List.range 256).filter p) start).map Prod.fst = detW most step start := (rows_canon hc hm h0 hs most).symm
/-- A prefix of the walk has found a prefix. -/
theorem rows_pre (hm : 1 ≤ most) {bs : List Nat} : ∀ (k n : Nat) (f : List K) (rows : List (List Nat)), rowsF most step bs start (n + k) = some (f, rows) → ∃ f1 rows1, rowsF most step bs start n = some (f1, rows1) ∧ f1 <+: f
  | 0, n, f, rows, h => ⟨f, rows, h, List.prefix_refl _⟩
  | k + 1, n, f, rows, h => by
    rw [← Nat.add_assoc] at h
    simp only [rowsF] at h
    cases hp : rowsF most step bs start (n + k) with
    | none => rw [hp] at h; cases h
    | some p =>
      obtain ⟨f1, rows1, e1, e2⟩ := rows_pre hm k n p.1 p.2 hp
      obtain ⟨g1, g2, -⟩ := rows_inv (P := fun _ => True) hm trivial (fun _ _ _ => trivial) bs (n + k) p.1 p.2 hp
      rw [hp] at h
      simp only [Option.bind_some] at h
      cases hx : p.1[n + k]? with
      | none =>
        rw [hx] at h
        simp only [Option.some.injEq] at h
        subst h
        exact ⟨f1, rows1, e1, e2⟩
      | some x =>
        rw [hx] at h
        simp only at h
        cases hr : bs.foldl (rowF most step x) (some (p.1, [])) with
        | none => rw [hr] at h; cases h
        | some r =>
          rw [hr] at h
          simp only [Option.map_some, Option.some.injEq, Prod.mk.injEq] at h
          obtain ⟨rfl, -⟩ := h
          exact ⟨f1, rows1, e1, e2.trans (row_pre bs p.1 r.1 [] r.2 hr g1 g2).2.2.1⟩
theorem detW_len (hm : 1 ≤ most) {F : List K} (h : detW most step start = some F) : 1 ≤ F.length ∧ F.length ≤ most ∧ F.Nodup ∧ F[0]? = some start := by
  unfold detW at h
  cases hd : detF most step (List.range 256) start with
  | none => rw [hd] at h; cases h
  | some p =>
    rw [hd] at h
    simp only [Option.map_some, Option.some.injEq] at h
    subst h
    obtain ⟨g1, g2, g3, -⟩ := rows_inv (P := fun _ => True) hm trivial (fun _ _ _ => trivial) (List.range 256) most p.1 p.2 hd
    exact ⟨(List.getElem?_eq_some_iff.1 g3).1, g1, g2, g3⟩
end
/-! ### atoms as a table's cells -/
/-! ### both sides -/
/-- Steps lead from set to set. -/
structure Leads5 (a : NfM) (F : List (List Int)) (st : Int → Nat → Int) (fi : Int → Bool) : Prop where
  st : ∀ (q b : Nat) (x : List Int), F[q]? = some x → b < 256 → ∃ t : Nat, st (q : Int) b = (t : Int) ∧ F[t]? = some (stepA a x b)
  fi : ∀ (q : Nat) (x : List Int), F[q]? = some x → fi (q : Int) = decide (a.fin ∈ x)
end Go.Proofs.YthomdogheamfpaaDoor
