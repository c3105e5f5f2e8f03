/- Parts of the proof: PCel1, PCOk, PReps, PNode, PGr, PFst, PBu2, VSplit, PBu3, PShw1, PShw2, PShw3, PShw4, PShw5, PShw6, PNfa1, VMapI, PNfa2, VHeldG, PSort, VRange, VPush, PKeyS, PNfa3, PNfa4, PDet1, PNum, PTab0, VBook, PDet2, PDTb, PDBk, PDet3, PDet4, PDSt, PDet5, PDFi, PDAd, PDet6, PDet7, PAmbC, PCatI -/
import Derived.Test.YthomdogheamfpaaDoorKM3
import Derived.Test.YthomdogheamfpaaDoorKM2
import Derived.Sort.OwnSortedInts
import Derived.Shelf.Sort.Plain
import Derived.Shelf.Slices.In.SortNone
import Derived.TacticsIn
import Derived.RangeFuncRecord
/- The coarsest parting by the automaton alone: the plain run. -/
set_option linter.unusedVariables false
set_option linter.unusedSimpArgs false
set_option maxRecDepth 100000
namespace Go.Proofs.YthomdogheamfpaaDoor
open Go.VC

/-- The least bytes of the parts so far, the place of each byte so far. -/
def gRun (sim : Nat → Nat → Bool) : Nat → List Nat × List Nat
  | 0 => ([], [])
  | b + 1 => match (gRun sim b).1.findIdx? fun g => sim b g with
    | some k => ((gRun sim b).1, (gRun sim b).2 ++ [k])
    | none => ((gRun sim b).1 ++ [b], (gRun sim b).2 ++ [(gRun sim b).1.length])
structure GrOk (sim : Nat → Nat → Bool) (b : Nat) (f ps : List Nat) : Prop where
  plen : ps.length = b
  flen : f.length ≤ b
  lt : ∀ p ∈ ps, p < f.length
  first : ∀ (k g : Nat), f[k]? = some g → g < b ∧ ps[g]? = some k
  sig : ∀ (i p g : Nat), ps[i]? = some p → f[p]? = some g → sim i g = true ∧ g ≤ i
theorem gRun_ok {sim : Nat → Nat → Bool} (hr : ∀ a, sim a a = true) : ∀ b, GrOk sim b (gRun sim b).1 (gRun sim b).2
  | 0 => ⟨rfl, Nat.le_refl _, (fun p h => by cases h), (fun k g h => by cases h), (fun i p g h => by cases h)⟩
  | b + 1 => by
    have ih := gRun_ok hr b
    unfold gRun
    split
    · rename_i k hk
      rw [List.findIdx?_eq_some_iff_getElem] at hk
      obtain ⟨hlt, hsig, _⟩ := hk
      refine ⟨by simp [ih.plen], by have := ih.flen; simp only; omega, fun p hp => ?_, fun k' g hg => ?_, fun i p g hi hg => ?_⟩
      · rcases List.mem_append.1 hp with h | h
        · exact ih.lt p h
        · rw [List.mem_singleton] at h; subst h; exact hlt
      · obtain ⟨h1, h2⟩ := ih.first k' g hg
        exact ⟨by omega, by simp only; rw [List.getElem?_append_left (by rw [ih.plen]; exact h1)]; exact h2⟩
      · simp only at hi hg
        by_cases hib : i < b
        · rw [List.getElem?_append_left (by rw [ih.plen]; exact hib)] at hi
          exact ih.sig i p g hi hg
        · rw [List.getElem?_append_right (by rw [ih.plen]; omega), ih.plen] at hi
          have hi0 : i - b = 0 := by
            have := (List.getElem?_eq_some_iff.1 hi).1
            simp only [List.length_singleton] at this
            omega
          rw [hi0, List.getElem?_cons_zero] at hi
          cases hi
          rw [List.getElem?_eq_getElem hlt] at hg
          cases hg
          have hib' : i = b := by omega
          subst hib'
          exact ⟨hsig, by have := (ih.first _ _ (List.getElem?_eq_getElem hlt)).1; omega⟩
    · rename_i hk
      refine ⟨by simp [ih.plen], by have := ih.flen; simp; omega, fun p hp => ?_, fun k' g hg => ?_, fun i p g hi hg => ?_⟩
      · simp only [List.length_append, List.length_singleton]
        rcases List.mem_append.1 hp with h | h
        · have := ih.lt p h; omega
        · rw [List.mem_singleton] at h; subst h; omega
      · simp only at hg ⊢
        by_cases hkl : k' < (gRun sim b).1.length
        · rw [List.getElem?_append_left hkl] at hg
          obtain ⟨h1, h2⟩ := ih.first k' g hg
          exact ⟨by omega, by rw [List.getElem?_append_left (by rw [ih.plen]; exact h1)]; exact h2⟩
        · rw [List.getElem?_append_right (by omega)] at hg
          have h0 := (List.getElem?_eq_some_iff.1 hg).1
          simp only [List.length_singleton] at h0
          rw [show k' - (gRun sim b).1.length = 0 by omega, List.getElem?_cons_zero] at hg
          cases hg
          exact ⟨by omega, by rw [List.getElem?_append_right (by rw [ih.plen]; omega), ih.plen, Nat.sub_self, List.getElem?_cons_zero]; congr 1; omega⟩
      · simp only at hi hg
        by_cases hib : i < b
        · rw [List.getElem?_append_left (by rw [ih.plen]; exact hib)] at hi
          have hp := ih.lt p (List.mem_of_getElem? hi)
          rw [List.getElem?_append_left hp] at hg
          exact ih.sig i p g hi hg
        · rw [List.getElem?_append_right (by rw [ih.plen]; omega), ih.plen] at hi
          have hi0 : i - b = 0 := by
            have := (List.getElem?_eq_some_iff.1 hi).1
            simp only [List.length_singleton] at this
            omega
          rw [hi0, List.getElem?_cons_zero] at hi
          cases hi
          rw [List.getElem?_append_right (Nat.le_refl _), Nat.sub_self, List.getElem?_cons_zero] at hg
          cases hg
          have hib' : i = b := by omega
          subst hib'
          exact ⟨hr _, Nat.le_refl _⟩


theorem gRun_some {sim : Nat → Nat → Bool} {b k : Nat} (h : (gRun sim b).1.findIdx? (fun g => sim b g) = some k) : gRun sim (b + 1) = ((gRun sim b).1, (gRun sim b).2 ++ [k]) := by
  rw [gRun, h]
theorem gRun_none {sim : Nat → Nat → Bool} {b : Nat} (h : (gRun sim b).1.findIdx? (fun g => sim b g) = none) : gRun sim (b + 1) = ((gRun sim b).1 ++ [b], (gRun sim b).2 ++ [(gRun sim b).1.length]) := by
  rw [gRun, h]

/-! ### the same run as merge's -/
/-- What merge's sets hold. -/
theorem mRun_sets {next : List (List Int)} {cells : List (BitVec 256)} (hc : ∀ b, b < 256 → cellOf cells b < cells.length) : ∀ b, b ≤ 256 → ∀ (k : Nat) (x : BitVec 256), (mRun next cells (fun b => spanS b b) b).sets[k]? = some x → ∀ i, i < 256 → x.getLsbD i = atSet (mRun next cells (fun b => spanS b b) b).cell k i
  | 0, _ => fun k x h => by simp [mRun] at h
  | b + 1, hb => fun k x h i hi => by
    have ih := mRun_sets (next := next) hc b (by omega)
    have ho := mRun_ok (next := next) (sp := fun b => spanS b b) hc b (by omega)
    generalize hm : mRun next cells (fun b => spanS b b) b = st at *
    rw [mRun, hm] at h ⊢
    unfold mStep at h ⊢
    simp only at h ⊢
    generalize hr : mNew next st.cols st.sets (cellOf cells b) = r at *
    have hnew := mNew_ok (next := next) (f := cellOf cells b) ho.len ho.le ho.cols (hc b (by omega))
    rw [hr] at hnew
    have hp : r.2.2 < r.2.1.length := by omega
    -- the sets before the byte is put in
    have hold : ∀ (k : Nat) (y : BitVec 256), r.2.1[k]? = some y → y.getLsbD i = atSet st.cell k i := by
      intro k y hy
      unfold mNew at hr
      cases hf : mFind next st.cols (cellOf cells b) with
      | some j =>
        rw [hf] at hr
        subst hr
        exact ih k y hy i hi
      | none =>
        rw [hf] at hr
        subst hr
        simp only at hy
        by_cases hk : k < st.sets.length
        · rw [List.getElem?_append_left hk] at hy
          exact ih k y hy i hi
        · rw [List.getElem?_append_right (by omega)] at hy
          have h0 := (List.getElem?_eq_some_iff.1 hy).1
          simp only [List.length_singleton] at h0
          rw [show k - st.sets.length = 0 by omega, List.getElem?_cons_zero] at hy
          cases hy
          have : atSet st.cell k i = false := by
            unfold atSet
            cases hc' : st.cell[i]? with
            | none => rfl
            | some p =>
              have := ho.places p (List.mem_of_getElem? hc')
              have := ho.len
              simp; omega
          rw [this]; simp
    have hat : ∀ k, atSet (st.cell ++ [r.2.2]) k i = ((decide (i = b) && decide (k = r.2.2)) || atSet st.cell k i) := by
      intro k
      unfold atSet
      have hcl := ho.cell
      rcases Nat.lt_trichotomy i b with h | h | h
      · rw [List.getElem?_append_left (by omega), decide_eq_false (by omega)]; simp
      · subst h
        rw [List.getElem?_append_right (by omega), hcl, Nat.sub_self, List.getElem?_cons_zero, List.getElem?_eq_none (by omega)]
        by_cases hk : k = r.2.2 <;> simp [hk]
        exact fun h => hk h.symm
      · rw [List.getElem?_eq_none (by simp; omega), List.getElem?_eq_none (by omega), decide_eq_false (by omega)]; simp
    rw [hat]
    by_cases hk : k = r.2.2
    · subst hk
      rw [List.getElem?_set_self hp] at h
      cases h
      rw [BitVec.getLsbD_or, List.getD_eq_getElem?_getD, List.getElem?_eq_getElem hp, Option.getD_some, hold _ _ (List.getElem?_eq_getElem hp), spanS_bit b b i hi]
      have : (decide (b ≤ i) && decide (i ≤ b)) = decide (i = b) := by
        by_cases h : i = b
        · subst h; simp
        · rw [decide_eq_false h]
          rcases Nat.lt_or_ge i b with h1 | h1
          · rw [decide_eq_false (by omega)]; rfl
          · rw [decide_eq_false (show ¬ i ≤ b by omega)]; simp
      rw [this]
      simp [Bool.or_comm]
    · rw [List.getElem?_set_ne (Ne.symm hk)] at h
      rw [decide_eq_false hk, hold k x h]; simp
def simT (next : List (List Int)) (cells : List (BitVec 256)) (b g : Nat) : Bool := next.all fun row => row.getD (cellOf cells b) 0 == row.getD (cellOf cells g) 0
theorem alike_sim {cells : List (BitVec 256)} {next : List (List Int)} {fl : Nat} (hs : soundB cells next fl = true) {b g : Nat} (hb : b < 256) (hg : g < 256) : alikeB next (cellOf cells g) (cellOf cells b) = simT next cells b g := by
  obtain ⟨_, _, _, hrows⟩ := soundB_rows hs
  have h1 := (soundB_cells hs hb).1
  have h2 := (soundB_cells hs hg).1
  have key : ∀ row ∈ next, (row[cellOf cells g]? == row[cellOf cells b]?) = (row.getD (cellOf cells b) 0 == row.getD (cellOf cells g) 0) := by
    intro row hr
    have hl := (hrows row hr).1
    rw [List.getD_eq_getElem?_getD, List.getD_eq_getElem?_getD, List.getElem?_eq_getElem (by omega), List.getElem?_eq_getElem (by omega)]
    simp only [Option.getD_some]
    rw [Bool.eq_iff_iff]
    simp only [beq_iff_eq, Option.some.injEq]
    exact eq_comm
  unfold alikeB simT
  have hall : (next.all fun row => row[cellOf cells g]? == row[cellOf cells b]?) = next.all fun row => row.getD (cellOf cells b) 0 == row.getD (cellOf cells g) 0 := by
    rw [Bool.eq_iff_iff, List.all_eq_true, List.all_eq_true]
    constructor
    · intro h row hr; rw [← key row hr]; exact h row hr
    · intro h row hr; rw [key row hr]; exact h row hr
  rw [hall]
  by_cases he : cellOf cells g = cellOf cells b
  · rw [he]; simp
  · have : (cellOf cells g == cellOf cells b) = false := by simpa using he
    rw [this]; rfl
theorem simT_refl (next : List (List Int)) (cells : List (BitVec 256)) (a : Nat) : simT next cells a a = true := by simp [simT]
theorem findIdx_map {α β : Type} (f : α → β) (p : β → Bool) : ∀ l : List α, (l.map f).findIdx? p = l.findIdx? fun a => p (f a)
  | [] => rfl
  | a :: l => by
    rw [List.map_cons, List.findIdx?_cons, List.findIdx?_cons, findIdx_map f p l]
theorem findIdx_congr {α : Type} {p q : α → Bool} : ∀ {l : List α}, (∀ a ∈ l, p a = q a) → l.findIdx? p = l.findIdx? q
  | [], _ => rfl
  | a :: l, h => by
    rw [List.findIdx?_cons, List.findIdx?_cons, h a List.mem_cons_self, findIdx_congr fun x hx => h x (List.mem_cons_of_mem _ hx)]
theorem mRun_g {cells : List (BitVec 256)} {next : List (List Int)} {fl : Nat} (hs : soundB cells next fl = true) {sp : Nat → BitVec 256} : ∀ b, b ≤ 256 → (mRun next cells sp b).cols = (gRun (simT next cells) b).1.map (cellOf cells) ∧ (mRun next cells sp b).cell = (gRun (simT next cells) b).2
  | 0, _ => by simp [mRun, gRun]
  | b + 1, hb => by
    obtain ⟨h1, h2⟩ := mRun_g hs (sp := sp) b (by omega)
    have hok := gRun_ok (simT_refl next cells) b
    have hf : mFind next (mRun next cells sp b).cols (cellOf cells b) = (gRun (simT next cells) b).1.findIdx? fun g => simT next cells b g := by
      unfold mFind
      rw [h1, findIdx_map]
      exact findIdx_congr fun g hg => by
        obtain ⟨k, hk⟩ := List.getElem?_of_mem hg
        exact alike_sim hs (by omega) (by have := (hok.first k g hk).1; omega)
    unfold mRun mStep mNew
    rw [hf]
    cases hfi : (gRun (simT next cells) b).1.findIdx? fun g => simT next cells b g with
    | some k =>
      rw [gRun_some hfi]
      simp only
      exact ⟨h1, by rw [h2]⟩
    | none =>
      rw [gRun_none hfi]
      simp only
      exact ⟨by rw [h1, List.map_append]; rfl, by rw [h2, h1, List.length_map]⟩
attribute [local irreducible] mRun gRun
/-- What dfa.Cells tells of a table's automaton, by bytes. -/
theorem sets_of_g {cells : List (BitVec 256)} {next : List (List Int)} {final : List Bool} (hs : soundB cells next final.length = true) : (madeM cells next final).sets.length = (gRun (simT next cells) 256).1.length ∧
    ∀ (k : Nat) (x : BitVec 256), (madeM cells next final).sets[k]? = some x → ∀ i, i < 256 → x.getLsbD i = atSet (gRun (simT next cells) 256).2 k i := by
  have hc := fun b hb => (soundB_cells hs (b := b) hb).1
  obtain ⟨h1, h2⟩ := mRun_g hs (sp := fun b => spanS b b) 256 (Nat.le_refl _)
  have ho := mRun_ok (next := next) (sp := fun b => spanS b b) hc 256 (Nat.le_refl _)
  refine ⟨?_, fun k x hx i hi => ?_⟩
  · simp only [madeM]
    rw [← ho.len, h1, List.length_map]
  · rw [← h2]
    exact mRun_sets (next := next) hc 256 (Nat.le_refl _) k x hx i hi

end Go.Proofs.YthomdogheamfpaaDoor
/- The cells of a made automaton: a parting of the bytes, in the order of their least ones, that every step keeps to. -/
set_option linter.unusedVariables false
set_option linter.unusedSimpArgs false
set_option maxRecDepth 100000
namespace Go.Proofs.YthomdogheamfpaaDoor
open Go.VC
attribute [local irreducible] mRun gRun

structure CellsOk (o : Option AM) (ls : List Nat) : Prop where
  len : ls.length = (cellsM o).length
  up : ls.Pairwise (· < ·)
  least : ∀ (k : Nat) (c : BitVec 256), (cellsM o)[k]? = some c → ∃ l, ls[k]? = some l ∧ l < 256 ∧ (nextM c 0).1 = l ∧ c.getLsbD l = true
  keeps : ∀ (k : Nat) (c : BitVec 256) (l b : Nat), (cellsM o)[k]? = some c → ls[k]? = some l → b < 256 → c.getLsbD b = true → l ≤ b ∧ ∀ q : Int, 0 ≤ q → q < stN o → stepM o q b = stepM o q l
  cols : ∀ A, o = some A → ∀ k, k < A.sets.length → ∃ b, b < 256 ∧ A.cell[b]? = some k
  part : ∀ b, b < 256 → ∃ (k : Nat) (c : BitVec 256), (cellsM o)[k]? = some c ∧ c.getLsbD b = true ∧ ∀ (k' : Nat) (c' : BitVec 256), (cellsM o)[k']? = some c' → c'.getLsbD b = true → k' = k

theorem gRun_up {sim : Nat → Nat → Bool} (hr : ∀ a, sim a a = true) : ∀ b, (gRun sim b).1.Pairwise (· < ·)
  | 0 => by rw [gRun]; exact List.Pairwise.nil
  | b + 1 => by
    have ih := gRun_up hr b
    cases hf : (gRun sim b).1.findIdx? (fun g => sim b g) with
    | some k => rw [gRun_some hf]; exact ih
    | none =>
      rw [gRun_none hf]
      refine List.pairwise_append.2 ⟨ih, List.pairwise_singleton _ _, fun a ha c hc => ?_⟩
      rw [List.mem_singleton] at hc
      subst hc
      obtain ⟨k, hk⟩ := List.getElem?_of_mem ha
      exact ((gRun_ok hr c).first k a hk).1
theorem nextM_eq {c : BitVec 256} {l : Nat} (hl : l < 256) (h1 : c.getLsbD l = true) (h2 : ∀ b, b < l → c.getLsbD b = false) : (nextM c 0).1 = l := by
  have hf : ((List.range 256).find? fun b => decide (0 ≤ b) && c.getLsbD b) = some l := by
    rw [List.find?_range_eq_some]
    exact ⟨by simp [h1], by simpa using hl, fun j hj => by simp [h2 j hj]⟩
  unfold nextM
  rw [hf]
theorem cells_ok (cells : List (BitVec 256)) (next : List (List Int)) (final : List Bool) : ∃ ls, CellsOk (autoOf cells next final) ls := by
  unfold autoOf
  cases hs : soundB cells next final.length with
  | false =>
    refine ⟨[0], rfl, List.pairwise_singleton _ _, fun k c hc => ?_, fun k c l b hc hl hb hcb => ?_, fun A hb => ?_, fun b hb => ?_⟩
    · have hk : k = 0 := by have := (List.getElem?_eq_some_iff.1 hc).1; simpa [cellsM] using this
      subst hk
      have : c = BitVec.allOnes 256 := by simpa [cellsM] using hc.symm
      subst this
      exact ⟨0, rfl, by decide, nextM_eq (by decide) (by decide) (fun b hb => by omega), by decide⟩
    · have hk : k = 0 := by have := (List.getElem?_eq_some_iff.1 hc).1; simpa [cellsM] using this
      subst hk
      have : l = 0 := by simpa using hl.symm
      subst this
      refine ⟨Nat.zero_le _, fun q h0 h1 => ?_⟩
      simp only [Bool.false_eq_true, if_false] at h1 ⊢
      simp only [stN] at h1
      obtain rfl : q = 0 := by omega
      rfl
    · cases hb
    · refine ⟨0, BitVec.allOnes 256, rfl, ?_, fun k' c' h _ => ?_⟩
      · rw [BitVec.getLsbD_allOnes]; simp [hb]
      · have := (List.getElem?_eq_some_iff.1 h).1
        simpa [cellsM] using this
  | true =>
    simp only [if_true]
    obtain ⟨h1, h2⟩ := sets_of_g hs
    have hg := gRun_ok (simT_refl next cells) 256
    refine ⟨(gRun (simT next cells) 256).1, h1.symm, gRun_up (simT_refl next cells) 256, fun k c hc => ?_, fun k c l b hc hl hb hcb => ?_, fun A hA k hk => ?_, fun b hb => ?_⟩
    · have hk : k < (gRun (simT next cells) 256).1.length := by rw [← h1]; exact (List.getElem?_eq_some_iff.1 hc).1
      obtain ⟨g, hgk⟩ := get_some hk
      obtain ⟨g1, g2⟩ := hg.first k g hgk
      have hbit := h2 k c hc
      refine ⟨g, hgk, g1, nextM_eq g1 (by rw [hbit g g1]; simp [atSet, g2]) (fun b hb => ?_), by rw [hbit g g1]; simp [atSet, g2]⟩
      rw [hbit b (by omega)]
      unfold atSet
      rw [beq_eq_false_iff_ne]
      intro hp
      have := (hg.sig b k g hp hgk).2
      omega
    · rw [h2 k c hc b hb] at hcb
      have hp : (gRun (simT next cells) 256).2[b]? = some k := by simpa [atSet] using hcb
      obtain ⟨s1, s2⟩ := hg.sig b k l hp hl
      refine ⟨s2, fun q q0 q1 => ?_⟩
      obtain ⟨n, rfl⟩ := Int.eq_ofNat_of_zero_le q0
      have hl256 := (hg.first k l hl).1
      have hq : n < next.length := by simp only [stN, madeM, List.length_map] at q1; omega
      obtain ⟨row, hrow⟩ := get_some hq
      rw [madeM_step hs hrow hb, madeM_step hs hrow hl256]
      unfold simT at s1
      have := List.all_eq_true.1 s1 row (List.mem_of_getElem? hrow)
      simpa using this
    · cases hA
      obtain ⟨g, hgk⟩ := get_some (l := (gRun (simT next cells) 256).1) (k := k) (by rw [← h1]; exact hk)
      obtain ⟨g1, g2⟩ := hg.first k g hgk
      refine ⟨g, g1, ?_⟩
      have hm := (mRun_g hs (sp := fun b => spanS b b) 256 (Nat.le_refl _)).2
      simp only [madeM]
      rw [hm]; exact g2
    · obtain ⟨p, hp⟩ := get_some (l := (gRun (simT next cells) 256).2) (k := b) (by rw [hg.plen]; exact hb)
      have hpl := hg.lt p (List.mem_of_getElem? hp)
      obtain ⟨c, hc⟩ := get_some (l := (madeM cells next final).sets) (k := p) (by rw [h1]; exact hpl)
      refine ⟨p, c, hc, by rw [h2 p c hc b hb]; simp [atSet, hp], fun k' c' hc' hb' => ?_⟩
      rw [h2 k' c' hc' b hb] at hb'
      have : (gRun (simT next cells) 256).2[b]? = some k' := by simpa [atSet] using hb'
      rw [hp] at this
      exact (Option.some.inj this).symm
end Go.Proofs.YthomdogheamfpaaDoor
/- ambig.reps: the walk. -/
set_option linter.unusedVariables false
set_option linter.unusedSimpArgs false
set_option maxRecDepth 100000
namespace Go.VC
section
variable {α : Type} {T : Ty α} {e : TypeId} {a : Option Addr} {n cap : Nat} {xs : List α} {B : Nat → Prop} {H0 H : Heap} {ps : List Pc}
/-- One own slice appended to another. -/
theorem appSS {P : Program} {t ty by_ : Nat} {z : Value} {a2 : Option Addr} {n2 cap2 : Nat} {e2 : TypeId} {ys : List α} {K : Value → Heap → Prop} (st : StB B H0 H ps) (i j : Nat) (ht : SlT P t e T.size by_ z) (hp : ps[i]? = some (pS T e a n cap xs)) (hq : ps[j]? = some (pS T e2 a2 n2 cap2 ys))
    (hne : 0 < ys.length) (h1 : T.Ones) (h63 : xs.length + ys.length ≤ 4194304) (hby : by_ ≤ 1024)
    (k : ∀ a' cap' H', StB B H0 H' (ps.set i (pS T e a' (xs.length + ys.length) cap' (xs ++ ys))) → Agr (fun k => k < H.size ∧ ¬ slB (.slice a n cap) k) H H' → K (.slice a' (xs.length + ys.length) cap') H') :
    VEff P (Builtin.append_ #[t, t] ty [.slice a n cap, .slice a2 n2 cap2].toArray) H K := by
  obtain ⟨cs, ⟨h0, h2⟩, h3⟩ := (st.at_ j hq).1
  have hn2 := st.len j hq
  rcases h2 with ⟨h2, h4⟩ | ⟨b, c, l, h2, h4, h5, h6, h7, h8, h9⟩
  · omega
  · injection h2 with g1 g2 g3
    subst g1; subst g3
    refine appO st i ht hp (q := b) (o := 0) (ds := cs) (h5.cells fun j v hv => ?_) h3 hn2 (h1.reps h3) h63 hby k
    rw [← h9] at hv
    rw [Nat.zero_add]
    rw [List.getElem?_take] at hv
    split at hv
    · exact hv
    · cases hv
end
end Go.VC
namespace Go.Proofs.YthomdogheamfpaaDoor
open Go.VC
attribute [local irreducible] mRun gRun atRun
theorem cells_pos {o : Option AM} {ls : List Nat} (h : CellsOk o ls) : 0 < (cellsM o).length := by
  obtain ⟨k, c, hk, -⟩ := h.part 0 (by decide)
  exact Nat.lt_of_le_of_lt (Nat.zero_le k) (List.getElem?_eq_some_iff.1 hk).1
theorem cells_le {S : Nat → Prop} {H : Heap} {v : Value} {o : Option AM} (h : AutoV S H v o) : (cellsM o).length ≤ 256 := by
  cases o with
  | none => decide
  | some A => obtain ⟨_, _, _, hok, _⟩ := h; exact hok.sl
end Go.Proofs.YthomdogheamfpaaDoor
/- The nodes of ambig's graph: as keys of maps, in memory. -/
set_option linter.unusedVariables false
set_option linter.unusedSimpArgs false
set_option maxRecDepth 100000
namespace Go.Proofs.YthomdogheamfpaaDoor
open Go.VC

/-- A node: its stage, where its readers are. -/
structure Nd where
  s : Int
  x : Int
  y : Int
deriving DecidableEq
def Nd.Ok (n : Nd) : Prop := inK .i64 n.s ∧ inK .i64 n.x ∧ inK .i64 n.y
end Go.Proofs.YthomdogheamfpaaDoor
/- Graphs of nodes with ends: the least word that leads to an end; plain law. -/
set_option linter.unusedVariables false
set_option linter.unusedSimpArgs false
namespace Go.Proofs.YthomdogheamfpaaDoor

structure Gr where
  next : Nd → Nat → List Nd
  ends : Nd → Bool
/-- The word w leads from n to an end. -/
def Leads (g : Gr) : List Nat → Nd → Prop
  | [], n => g.ends n = true
  | b :: w, n => ∃ t, t ∈ g.next n b ∧ Leads g w t
/-- .. from some node of P. -/
def LeadsP (g : Gr) (P : Nd → Prop) (w : List Nat) : Prop := ∃ n, P n ∧ Leads g w n
/-- Words of one length: no later in order. -/
def lexL : List Nat → List Nat → Prop
  | a :: s, b :: t => a < b ∨ (a = b ∧ lexL s t)
  | _, _ => True
theorem lexL_anti : ∀ {s t : List Nat}, s.length = t.length → lexL s t → lexL t s → s = t
  | [], [], _, _, _ => rfl
  | [], _ :: _, h, _, _ => by simp at h
  | _ :: _, [], h, _, _ => by simp at h
  | a :: s, b :: t, h, h1, h2 => by
    simp only [List.length_cons, Nat.add_right_cancel_iff] at h
    rcases h1 with h1 | ⟨h1, h3⟩ <;> rcases h2 with h2 | ⟨h2, h4⟩
    · omega
    · omega
    · omega
    · rw [h1, lexL_anti h h3 h4]
def bytes_ (w : List Nat) : Prop := ∀ b ∈ w, b < 256
/-- Of the words of k bytes that lead from P to an end w is the first. -/
def FirstOf (g : Gr) (P : Nd → Prop) (k : Nat) (w : List Nat) : Prop := w.length = k ∧ bytes_ w ∧ LeadsP g P w ∧ ∀ u, u.length = k → bytes_ u → LeadsP g P u → lexL w u
/-- The first word of all: the shortest ones come first. -/
def FirstW (g : Gr) (P : Nd → Prop) (w : List Nat) : Prop := FirstOf g P w.length w ∧ ∀ u, bytes_ u → LeadsP g P u → w.length ≤ u.length
theorem FirstW.uniq {g : Gr} {P : Nd → Prop} {w v : List Nat} (h : FirstW g P w) (k : FirstW g P v) : w = v := by
  obtain ⟨⟨h1, h2, h3, h4⟩, h5⟩ := h
  obtain ⟨⟨k1, k2, k3, k4⟩, k5⟩ := k
  have e : w.length = v.length := Nat.le_antisymm (h5 v k2 k3) (k5 w h2 h3)
  exact lexL_anti e (h4 v e.symm k2 k3) (k4 w e h2 h3)
/-- Where bytes step as the least ones of their kind do, words over these tell all. -/
theorem leads_reps {g : Gr} {by_ : List Nat} (hby : ∀ c, c < 256 → ∃ r ∈ by_, r ≤ c ∧ ∀ n, g.next n r = g.next n c) : ∀ {w : List Nat} {n : Nd}, bytes_ w → Leads g w n → ∃ v, v.length = w.length ∧ (∀ b ∈ v, b ∈ by_) ∧ Leads g v n
  | [], n, _, h => ⟨[], rfl, (fun b hb => by cases hb), h⟩
  | c :: w, n, hb, ⟨t, ht, hw⟩ => by
    obtain ⟨v, h1, h2, h3⟩ := leads_reps hby (fun d hd => hb d (List.mem_cons_of_mem _ hd)) hw
    obtain ⟨r, hr, -, hs⟩ := hby c (hb c List.mem_cons_self)
    exact ⟨r :: v, by simp [h1], fun d hd => by
      rcases List.mem_cons.1 hd with rfl | hd
      · exact hr
      · exact h2 d hd, t, by rw [hs]; exact ht, h3⟩
end Go.Proofs.YthomdogheamfpaaDoor

/- Graphs of nodes: how far it is to an end; plain law. -/
set_option linter.unusedVariables false
set_option linter.unusedSimpArgs false
namespace Go.Proofs.YthomdogheamfpaaDoor

/-- What can be reached from a by the bytes of by_. -/
inductive Reach (g : Gr) (by_ : List Nat) (a : Nd) : Nd → Prop
  | refl : Reach g by_ a a
  | step {n t : Nd} {b : Nat} (h : Reach g by_ a n) (hb : b ∈ by_) (ht : t ∈ g.next n b) : Reach g by_ a t
/-- The distances to an end, of all that can be reached. -/
structure DistOk (g : Gr) (by_ : List Nat) (a : Nd) (left : Nd → Option Nat) : Prop where
  ends : ∀ n, Reach g by_ a n → g.ends n = true → left n = some 0
  pred : ∀ n k, left n = some k → ∀ p b, Reach g by_ a p → b ∈ by_ → n ∈ g.next p b → ∃ j, j ≤ k + 1 ∧ left p = some j
  word : ∀ n k, left n = some k → Reach g by_ a n ∧ ∃ w, w.length = k ∧ (∀ b ∈ w, b ∈ by_) ∧ Leads g w n
section
variable {g : Gr} {by_ : List Nat} {a : Nd} {left : Nd → Option Nat}
variable (hby : ∀ c, c < 256 → ∃ r ∈ by_, r ≤ c ∧ ∀ n, g.next n r = g.next n c)
include hby
end
end Go.Proofs.YthomdogheamfpaaDoor

/- Distances to an end by a queue, from the ends back; plain law. -/
set_option linter.unusedVariables false
set_option linter.unusedSimpArgs false
namespace Go.Proofs.YthomdogheamfpaaDoor
open Go.VC
/-- What leads to n. -/
def PredsOk (g : Gr) (by_ : List Nat) (a n : Nd) (left : Nd → Option Nat) (k : Nat) : Prop := ∀ p b, Reach g by_ a p → b ∈ by_ → n ∈ g.next p b → ∃ j, j ≤ k + 1 ∧ left p = some j
/-- The queue, no element out; k is the least distance that it may still hold. -/
structure BInv (g : Gr) (by_ : List Nat) (a : Nd) (left : Nd → Option Nat) (todo : List Nd) (k : Nat) : Prop where
  ends : ∀ n, Reach g by_ a n → g.ends n = true → left n = some 0
  word : ∀ n j, left n = some j → Reach g by_ a n ∧ ∃ w, w.length = j ∧ (∀ b ∈ w, b ∈ by_) ∧ Leads g w n
  q : ∀ n ∈ todo, ∃ j, left n = some j ∧ k ≤ j
  up : ∀ n j, left n = some j → j ≤ k + 1
  sorted : todo.Pairwise fun n p => ∀ i j, left n = some i → left p = some j → i ≤ j
  done : ∀ n j, left n = some j → n ∉ todo → PredsOk g by_ a n left j
/-- .. element n, at distance k, is out; those that lead to it are gone through: what holds of d is done. -/
structure BMid (g : Gr) (by_ : List Nat) (a : Nd) (left : Nd → Option Nat) (todo : List Nd) (n : Nd) (k : Nat) (d : Nd → Prop) : Prop where
  ends : ∀ n, Reach g by_ a n → g.ends n = true → left n = some 0
  word : ∀ n j, left n = some j → Reach g by_ a n ∧ ∃ w, w.length = j ∧ (∀ b ∈ w, b ∈ by_) ∧ Leads g w n
  here : left n = some k
  q : ∀ n ∈ todo, ∃ j, left n = some j ∧ k ≤ j
  up : ∀ n j, left n = some j → j ≤ k + 1
  sorted : todo.Pairwise fun n p => ∀ i j, left n = some i → left p = some j → i ≤ j
  done : ∀ m j, left m = some j → m ∉ todo → m ≠ n → PredsOk g by_ a m left j
  now : ∀ p, d p → ∃ j, j ≤ k + 1 ∧ left p = some j
section
variable {g : Gr} {by_ : List Nat} {a n p : Nd} {left : Nd → Option Nat} {todo : List Nd} {k : Nat} {d : Nd → Prop}
end
end Go.Proofs.YthomdogheamfpaaDoor

/- All that can be reached, in the order in which it is found, and what leads to it; plain law. -/
set_option linter.unusedVariables false
set_option linter.unusedSimpArgs false
namespace Go.Proofs.YthomdogheamfpaaDoor
/-- The nodes found so far; bk t p: p is listed as one that leads to t; what holds of d has been gone through. -/
structure RInv (g : Gr) (by_ : List Nat) (a : Nd) (order : List Nd) (bk : Nd → Nd → Prop) (d : Nd → Nat → Nd → Prop) : Prop where
  first : order[0]? = some a
  nodup : order.Nodup
  reach : ∀ n ∈ order, Reach g by_ a n
  back : ∀ t p, bk t p → Reach g by_ a p ∧ ∃ b, b ∈ by_ ∧ t ∈ g.next p b
  done : ∀ n b t, d n b t → t ∈ order ∧ bk t n
section
variable {g : Gr} {by_ : List Nat} {a n t : Nd} {b : Nat} {order : List Nd} {bk bk' : Nd → Nd → Prop} {d : Nd → Nat → Nd → Prop}
end
end Go.Proofs.YthomdogheamfpaaDoor

/- Rows of nodes, each with the least word of one length that leads to it; plain law. -/
set_option linter.unusedVariables false
set_option linter.unusedSimpArgs false
namespace Go.Proofs.YthomdogheamfpaaDoor

/-! ### the order -/
theorem lexL_refl : ∀ u : List Nat, lexL u u
  | [] => by unfold lexL; trivial
  | a :: u => by unfold lexL; exact .inr ⟨rfl, lexL_refl u⟩
theorem lexL_trans : ∀ {u v w : List Nat}, u.length = v.length → v.length = w.length → lexL u v → lexL v w → lexL u w
  | [], _, _, _, _, _, _ => by unfold lexL; trivial
  | a :: u, [], _, h, _, _, _ => by simp at h
  | a :: u, b :: v, [], _, h, _, _ => by simp at h
  | a :: u, b :: v, c :: w, h1, h2, h3, h4 => by
    simp only [List.length_cons, Nat.add_right_cancel_iff] at h1 h2
    unfold lexL at h3 h4 ⊢
    rcases h3 with h3 | ⟨rfl, h3⟩ <;> rcases h4 with h4 | ⟨rfl, h4⟩
    · exact .inl (Nat.lt_trans h3 h4)
    · exact .inl h3
    · exact .inl h4
    · exact .inr ⟨rfl, lexL_trans h1 h2 h3 h4⟩
theorem lexL_snoc : ∀ {u v : List Nat} (b : Nat), u.length = v.length → lexL u v → lexL (u ++ [b]) (v ++ [b])
  | [], [], b, _, _ => lexL_refl _
  | [], _ :: _, _, h, _ => by simp at h
  | _ :: _, [], _, h, _ => by simp at h
  | a :: u, c :: v, b, h, h1 => by
    unfold lexL at h1
    show lexL (a :: (u ++ [b])) (c :: (v ++ [b]))
    unfold lexL
    rcases h1 with h1 | ⟨rfl, h1⟩
    · exact .inl h1
    · exact .inr ⟨rfl, lexL_snoc b (by simpa using h) h1⟩

/-! ### ways -/
/-- w leads from n to t. -/
def To (g : Gr) : List Nat → Nd → Nd → Prop
  | [], n, t => n = t
  | b :: w, n, t => ∃ m, m ∈ g.next n b ∧ To g w m t
theorem to_snoc {g : Gr} {b : Nat} {t : Nd} : ∀ {w : List Nat} {n : Nd}, To g (w ++ [b]) n t ↔ ∃ m, To g w n m ∧ t ∈ g.next m b
  | [], n => by
    constructor
    · rintro ⟨m, hm, h⟩
      obtain rfl : m = t := h
      exact ⟨n, rfl, hm⟩
    · rintro ⟨m, h, ht⟩
      obtain rfl : n = m := h
      exact ⟨t, ht, rfl⟩
  | c :: w, n => by
    constructor
    · rintro ⟨m, hm, h⟩
      obtain ⟨p, h1, h2⟩ := to_snoc.1 h
      exact ⟨p, ⟨m, hm, h1⟩, h2⟩
    · rintro ⟨p, ⟨m, hm, h1⟩, h2⟩
      exact ⟨m, hm, to_snoc.2 ⟨p, h1, h2⟩⟩
theorem leads_to {g : Gr} : ∀ {w : List Nat} {n : Nd}, Leads g w n ↔ ∃ t, To g w n t ∧ g.ends t = true
  | [], n => ⟨fun h => ⟨n, rfl, h⟩, fun ⟨t, h, k⟩ => by obtain rfl : n = t := h; exact k⟩
  | b :: w, n => by
    constructor
    · rintro ⟨m, hm, h⟩
      obtain ⟨t, h1, h2⟩ := leads_to.1 h
      exact ⟨t, ⟨m, hm, h1⟩, h2⟩
    · rintro ⟨t, ⟨m, hm, h1⟩, h2⟩
      exact ⟨m, hm, leads_to.2 ⟨t, h1, h2⟩⟩
theorem to_reach {g : Gr} {by_ : List Nat} {a t : Nd} : ∀ {w : List Nat} {n : Nd}, Reach g by_ a n → (∀ b ∈ w, b ∈ by_) → To g w n t → Reach g by_ a t
  | [], n, hr, _, h => by obtain rfl : n = t := h; exact hr
  | b :: w, n, hr, hb, ⟨m, hm, h⟩ => to_reach (hr.step (hb b List.mem_cons_self) hm) (fun c hc => hb c (List.mem_cons_of_mem _ hc)) h
/-- Over the least bytes of their kinds a word is no later. -/
theorem leads_less {g : Gr} {by_ : List Nat} (hby : ∀ c, c < 256 → ∃ r ∈ by_, r ≤ c ∧ ∀ n, g.next n r = g.next n c) : ∀ {w : List Nat} {n : Nd}, bytes_ w → Leads g w n → ∃ v, v.length = w.length ∧ (∀ b ∈ v, b ∈ by_) ∧ Leads g v n ∧ lexL v w
  | [], n, _, h => ⟨[], rfl, (fun b hb => by cases hb), h, lexL_refl _⟩
  | c :: w, n, hb, ⟨t, ht, hw⟩ => by
    obtain ⟨v, h1, h2, h3, h4⟩ := leads_less hby (fun d hd => hb d (List.mem_cons_of_mem _ hd)) hw
    obtain ⟨r, hr, hrc, hs⟩ := hby c (hb c List.mem_cons_self)
    refine ⟨r :: v, by simp [h1], fun d hd => ?_, ⟨t, by rw [hs]; exact ht, h3⟩, ?_⟩
    · rcases List.mem_cons.1 hd with rfl | hd
      · exact hr
      · exact h2 d hd
    · unfold lexL
      rcases Nat.lt_or_eq_of_le hrc with h | h
      · exact .inl h
      · exact .inr ⟨h, h4⟩

/-! ### rows -/
abbrev NW := Nd × List Nat
structure RowOk (g : Gr) (by_ : List Nat) (a : Nd) (L : Nat) (F : List NW) : Prop where
  nd : (F.map (·.1)).Nodup
  ok : ∀ x ∈ F, x.2.length = L ∧ (∀ b ∈ x.2, b ∈ by_) ∧ To g x.2 a x.1
  all : ∀ w t, w.length = L → (∀ b ∈ w, b ∈ by_) → To g w a t → ∃ x ∈ F, x.1 = t ∧ lexL x.2 w
/-- The row of words of one byte more, while it is made: what holds of d has been put in. -/
structure RowMid (g : Gr) (by_ : List Nat) (a : Nd) (L : Nat) (F : List NW) (d : Nd → List Nat → Prop) : Prop where
  nd : (F.map (·.1)).Nodup
  ok : ∀ x ∈ F, x.2.length = L ∧ (∀ b ∈ x.2, b ∈ by_) ∧ To g x.2 a x.1
  all : ∀ t w, d t w → w.length = L → ∃ x ∈ F, x.1 = t ∧ lexL x.2 w
section
variable {g : Gr} {by_ : List Nat} {a n t : Nd} {L : Nat} {F F' : List NW} {d d' : Nd → List Nat → Prop} {w : List Nat} {r : Bool}
variable (hby : ∀ c, c < 256 → ∃ r ∈ by_, r ≤ c ∧ ∀ n, g.next n r = g.next n c)
include hby
end
end Go.Proofs.YthomdogheamfpaaDoor

/- The graphs of Meets, Cat and Iter, and what their words say; plain law. -/
set_option linter.unusedVariables false
set_option linter.unusedSimpArgs false
namespace Go.Proofs.YthomdogheamfpaaDoor
open Go.VC
/-- Where a word leads. -/
def runL (o : Option AM) (w : List Nat) (q : Int) : Int := w.foldl (fun q b => stepM o q b) q
theorem runL_cons (o : Option AM) (c : Nat) (w : List Nat) (q : Int) : runL o (c :: w) q = runL o w (stepM o q c) := rfl
def accL (o : Option AM) (w : List Nat) : Bool := finM o (runL o w 0)
def root : Nd := ⟨0, 0, 0⟩

section
variable {a b : Option AM}
end
section
variable {a : Option AM}
end
end Go.Proofs.YthomdogheamfpaaDoor
/- ambig's graphs in memory; maps of slices that begin with nil ones. -/
set_option linter.unusedVariables false
set_option linter.unusedSimpArgs false
set_option maxRecDepth 100000
namespace Go.VC
section
variable {α β : Type} {Ok : α → Prop} {enc : α → Value} {T : Ty β} {e : TypeId} {b : Nat} {m : α → Option Value} {B : Nat → Prop} {H0 H H' : Heap} {ps : List Pc}
end
end Go.VC
namespace Go.Proofs.YthomdogheamfpaaDoor
open Go.VC
/-- What is asked of a graph: its bytes, its nodes, their numbers. -/
structure GraphOk (g : Gr) (by_ : List Nat) (M C : Nat) : Prop where
  byl : ∀ b ∈ by_, b < 256
  nb : by_.length ≤ 256
  ok : ∀ n, Reach g by_ root n → n.Ok
  card : ∀ l : List Nd, l.Nodup → (∀ n ∈ l, Reach g by_ root n) → l.length ≤ M
  occ : ∀ n b t, Reach g by_ root n → b ∈ by_ → (g.next n b).count t ≤ C
  c0 : 1 ≤ C
  big : C * (256 * M) ≤ 5864062014805
end Go.Proofs.YthomdogheamfpaaDoor

/- ambig's reach: the walk. -/
set_option linter.unusedVariables false
set_option linter.unusedSimpArgs false
set_option maxRecDepth 100000
namespace Go.Proofs.YthomdogheamfpaaDoor
open Go.VC
end Go.Proofs.YthomdogheamfpaaDoor

/- ambig's first, once the distances are known: byte by byte; plain law. -/
set_option linter.unusedVariables false
set_option linter.unusedSimpArgs false
namespace Go.VC
end Go.VC
namespace Go.Proofs.YthomdogheamfpaaDoor
open Go.VC
/-- What is left of the word that is asked for: r bytes, from one of P on. -/
structure Pre (g : Gr) (a : Nd) (lf : Nd → Option Nat) (L r : Nat) (w : List Nat) (P : Nd → Prop) : Prop where
  len : w.length + r = L
  fst : ∀ v, FirstOf g P r v → FirstOf g (· = a) L (w ++ v)
  all : ∀ n, P n → lf n = some r
  ne : ∃ n, P n
section
variable {g : Gr} {by_ : List Nat} {a : Nd} {lf : Nd → Option Nat} {L k b : Nat} {w : List Nat} {P Q : Nd → Prop}
variable (hby : ∀ c, c < 256 → ∃ r ∈ by_, r ≤ c ∧ ∀ n, g.next n r = g.next n c)
include hby
end
def bA (w : List Nat) : ByteArray := ⟨(w.map UInt8.ofNat).toArray⟩
end Go.Proofs.YthomdogheamfpaaDoor

/- ambig's first: the walk. -/
set_option linter.unusedVariables false
set_option linter.unusedSimpArgs false
set_option maxRecDepth 100000
namespace Go.Proofs.YthomdogheamfpaaDoor
open Go.VC
/-- What first answers. -/
def FirstR (g : Gr) (w : List Nat) (ok : Bool) : Prop := (ok = true → FirstW g (· = root) w) ∧ (ok = false → w = [] ∧ ∀ u, bytes_ u → ¬ LeadsP g (· = root) u)
/-- The nodes whose distance is known. -/
structure Seen (g : Gr) (by_ : List Nat) (lf : Nd → Option Nat) (seen : List Nd) : Prop where
  nd : seen.Nodup
  mem : ∀ n, (lf n).isSome = true ↔ n ∈ seen
  le : ∀ n j, lf n = some j → j ≤ seen.length
  rch : ∀ n ∈ seen, Reach g by_ root n
end Go.Proofs.YthomdogheamfpaaDoor
/- strings.Builder: a builder of the call's own: its writing methods and String. -/
set_option linter.unusedVariables false
set_option linter.unusedSimpArgs false
set_option maxRecDepth 100000
namespace Go.VC
/-- The bytes of a text as numbers. -/
def strI (s : ByteArray) : List Int := s.data.toList.map fun b => (b.toNat : Int)
theorem strI_len (s : ByteArray) : (strI s).length = s.size := by unfold strI; rw [List.length_map]; rfl
theorem strI_append (s t : ByteArray) : strI (s ++ t) = strI s ++ strI t := by unfold strI; simp
theorem strI_u8 (s : ByteArray) : ∀ x ∈ strI s, inK .u8 x := fun x hx => by
  obtain ⟨b, -, rfl⟩ := List.mem_map.1 hx
  exact inU8b b
theorem strI_cells (s : ByteArray) : byteCells s = (strI s).map (Value.int .u8) := by
  unfold byteCells strI
  rw [List.map_map]
  rfl
/-- A text's bytes appended to an own slice. -/
theorem appStr {P : Program} {t tx ty by_ : Nat} {z : Value} {B : Nat → Prop} {H0 H : Heap} {ps : List Pc} {e : TypeId} {a : Option Addr} {n cap : Nat} {xs : List Int} {K : Value → Heap → Prop} {s : ByteArray} (st : StB B H0 H ps) (i : Nat) (ht : SlT P t e 1 by_ z) (htx : P.underlying tx = some .string)
    (hp : ps[i]? = some (pS tU8 e a n cap xs)) (h63 : xs.length + s.size ≤ maxLen) (hby : (xs.length + s.size) * by_ ≤ 140737488355328)
    (k : ∀ a' cap' H', StB B H0 H' (ps.set i (pS tU8 e a' (xs.length + s.size) cap' (xs ++ strI s))) → K (.slice a' (xs.length + s.size) cap') H') : VEff P (Builtin.append_ #[t, tx] ty [.slice a n cap, .string s].toArray) H K := by
  obtain ⟨cs, hsl, hr⟩ := (st.at_ i hp).1
  refine vappend (m := s.size) (news := byteCells s) ht hsl (Nat.zero_le _) (fun w hw => Src.ofString w htx s) h63 hby ?_
  intro v' H' hsl' hagr hsz hfr
  have hlen : (xs ++ strI s).length = xs.length + s.size := by rw [List.length_append, strI_len]
  have hown : SlO tU8 none_ H' 0 e v' (xs ++ strI s) := ⟨_, by rw [hlen]; exact hsl', Ty.reps_append (Ty.reps_frame (hagr.mono fun k hk => hk.elim) hr) (by rw [strI_cells]; exact u8_reps (strI_u8 s))⟩
  obtain ⟨a', cap', rfl⟩ := hown.hull
  rw [hlen] at hown hfr ⊢
  refine k a' cap' H' (st.upd i hp (hagr.mono fun k hk => ⟨hk.1, fun hb => hk.2 (.inl hb)⟩) _ ⟨hown, fun k hk => hk.elim⟩ (fun k hk => ?_) (fun k hk => ?_) hsz)
  · rcases hk with hk | hk
    · rcases hfr k hk with h | h
      · exact .inl (.inl h)
      · exact .inr h
    · exact hk.elim
  · rcases hk with hk | hk
    · exact (hown.lt hk).2
    · exact hk.elim
end Go.VC
namespace Go.Proofs.YthomdogheamfpaaDoor
open Go.VC
theorem ccP {B : Nat → Prop} {H0 H : Heap} {ps : List Pc} {b : Nat} {p : Option Addr} {v : Value} {K : Value → Heap → Prop} (st : StB B H0 H ps) (i : Nat) (hp : ps[i]? = some (pB 102 b [.pointer p, v])) (hpp : p = none ∨ p = some ⟨b, 0, none⟩)
    (k : ∀ H', StB B H0 H' (ps.set i (pB 102 b [.pointer (some ⟨b, 0, none⟩), v])) → K (.tuple #[]) H') : VCall Tryd.prog 98 #[.pointer (some ⟨b, 0, none⟩)] H K := by
  refine ⟨fun w hw => ⟨Tryd.call98 _ w, ?_⟩⟩
  subst hw
  have hb := st.blk i hp
  rcases hpp with rfl | rfl
  · have h0 : w.cell? ⟨b, 0, none⟩ = some (.pointer none) := by rw [cell_w, hb.cell]; rfl
    have hsh : w.shape? b = some (102, 2) := by
      unfold World.shape?
      rw [hb]
      rfl
    refine (cc_fresh b w h0 hsh (frozen_blk hb)).mono ?_
    rintro _ _ ⟨rfl, rfl⟩
    obtain ⟨h1, h2, h3⟩ := setCell_blk (o := 0) hb (.pointer (some ⟨b, 0, none⟩))
    exact ⟨_, rfl, by unfold World.setCell; split <;> exact ⟨rfl, rfl, rfl⟩, k _ (st.upd i hp (h2.mono fun k hk hkb => hk.2 hkb) _ h1 (fun k hk => .inl hk) (fun k hk => by rw [h3]; exact (st.in_ i hp hk).2) (by omega))⟩
  · have h0 : w.cell? ⟨b, 0, none⟩ = some (.pointer (some ⟨b, 0, none⟩)) := by rw [cell_w, hb.cell]; rfl
    refine (cc_used b w h0).mono ?_
    rintro _ _ ⟨rfl, rfl⟩
    exact ⟨_, rfl, Env.refl _, k _ (st.say i hp _ (st.at_ i hp) (fun k hk => hk))⟩
abbrev tByt8 : TypeId := 5
/-- A builder of the call's own that holds s. -/
def BuSt (B : Nat → Prop) (H0 : Heap) (b : Nat) (s : ByteArray) (rest : List Pc) (H : Heap) : Prop :=
  ∃ p a cap, (p = none ∨ p = some ⟨b, 0, none⟩) ∧ StB B H0 H (pB 102 b [.pointer p, .slice a s.size cap] :: pS tU8 tByt8 a s.size cap (strI s) :: rest)
section
variable {B : Nat → Prop} {H0 H H1 : Heap} {b : Nat} {s t : ByteArray} {rest : List Pc} {K : Value → Heap → Prop}
theorem BuSt.call (h : BuSt B H0 b s rest H) (ha : Agr (Old H) H H1) : BuSt B H0 b s rest H1 := by
  obtain ⟨p, a, cap, hp, st⟩ := h
  exact ⟨p, a, cap, hp, st.call ha⟩
theorem vwS (h : BuSt B H0 b s rest H) (hs : s.size + t.size ≤ 140737488355328) (k : ∀ H', BuSt B H0 b (s ++ t) rest H' → K (.tuple #[.int .i64 t.size, .nilIface]) H') : VCall Tryd.prog 53 #[.pointer (some ⟨b, 0, none⟩), .string t] H K := by
  obtain ⟨p, a, cap, hp, st⟩ := h
  refine ⟨FnOk.of_vc Tryd.func53 rfl (Tryd.call53 _) ?_⟩
  (conv => whnf); refine ccP st 0 rfl hp fun H1 st1 => ?_
  (conv => whnf); refine VC.fa fl102_1 ?_
  (conv => whnf); refine ld1 (v := .slice a s.size cap) ct85 (by rw [(st1.blk 0 rfl).cell]; rfl) trivial ?_
  (conv => whnf); refine appStr (s := t) st1 1 sl85 Tryd.underlying9 rfl (by rw [strI_len]; unfold maxLen; omega) (by rw [strI_len]; omega) fun a2 c2 H2 st2 => ?_
  rw [strI_len, ← strI_append] at st2
  rw [strI_len]
  have e : s.size + t.size = (s ++ t).size := by simp
  rw [e] at st2 ⊢
  (conv => whnf); refine VC.fa fl102_1 ?_
  (conv => whnf); refine st1B st2 0 ct85 rfl (show (0 : Nat) + 1 < 2 by decide) rfl fun H3 st3 => ?_
  (conv => whnf)
  exact k H3 ⟨_, a2, c2, .inr rfl, st3⟩
theorem vwB {c : Nat} (hc : c < 256) (h : BuSt B H0 b s rest H) (hs : s.size + 1 ≤ 140737488355328) (k : ∀ H', BuSt B H0 b (s ++ bA [c]) rest H' → K .nilIface H') : VCall Tryd.prog 55 #[.pointer (some ⟨b, 0, none⟩), .int .u8 (c : Int)] H K := by
  obtain ⟨p, a, cap, hp, st⟩ := h
  refine ⟨FnOk.of_vc Tryd.func55 rfl (Tryd.call55 _) ?_⟩
  (conv => whnf); refine ccP st 0 rfl hp fun H1 st1 => ?_
  (conv => whnf); refine VC.fa fl102_1 ?_
  (conv => whnf); refine ld1 (v := .slice a s.size cap) ct85 (by rw [(st1.blk 0 rfl).cell]; rfl) trivial ?_
  (conv => whnf); refine vbuild1 sl85 [.int .u8 (c : Int)] rfl rfl (by decide) (by decide) ?_
  intro q2 H2 hq2 hs2 hb2 ha2
  (conv => whnf); refine appG (ys := [(c : Int)]) (ds := [.int .u8 (c : Int)]) (st1.skip hq2 ha2) 1 sl85 rfl (hb2.cells fun j v hv => by rw [Nat.zero_add]; exact hv) (Ty.reps_one ⟨rfl, inU8 hc⟩) rfl (by simp [Value.oneCell']) (by rw [strI_len]; simp only [List.length_singleton, maxLen]; omega) (by rw [strI_len]; simp only [List.length_singleton]; omega) fun a3 c3 H3 st3 _ => ?_
  have e1 : strI s ++ [(c : Int)] = strI (s ++ bA [c]) := by
    rw [strI_append]
    congr 1
    show [(c : Int)] = [((UInt8.ofNat c).toNat : Int)]
    rw [UInt8.toNat_ofNat']
    congr 1
    omega
  have e : (strI s).length + [(c : Int)].length = (s ++ bA [c]).size := by rw [← strI_len (s ++ bA [c]), ← e1]; simp
  rw [e1, e] at st3
  rw [e]
  (conv => whnf); refine VC.fa fl102_1 ?_
  (conv => whnf); refine st1B st3 0 ct85 rfl (show (0 : Nat) + 1 < 2 by decide) rfl fun H4 st4 => ?_
  (conv => whnf)
  exact k H4 ⟨_, a3, c3, .inr rfl, st4⟩
end
end Go.Proofs.YthomdogheamfpaaDoor
/- A piece split in two; a map of slices that is only read from now on; keys that are texts. -/
set_option linter.unusedVariables false
set_option linter.unusedSimpArgs false
namespace Go.VC
section
variable {B : Nat → Prop} {H0 H : Heap} {ps : List Pc} {p : Pc}
theorem StB.apart2 (st : StB B H0 H ps) {i j : Nat} {q : Pc} (hp : ps[i]? = some p) (hq : ps[j]? = some q) (hij : i ≠ j) : Dis p q := by
  have hil := (List.getElem?_eq_some_iff.1 hp).1
  have hjl := (List.getElem?_eq_some_iff.1 hq).1
  have e1 := (List.getElem?_eq_some_iff.1 hp).2
  have e2 := (List.getElem?_eq_some_iff.1 hq).2
  intro k hk hk'
  rcases Nat.lt_or_gt_of_ne hij with h | h
  · exact List.pairwise_iff_getElem.1 st.dis i j hil hjl h k (by rw [e1]; exact hk) (by rw [e2]; exact hk')
  · exact List.pairwise_iff_getElem.1 st.dis j i hjl hil h k (by rw [e2]; exact hk') (by rw [e1]; exact hk)
end
section
variable {α β : Type} {Ok : α → Prop} {enc : α → Value} {T : Ty β} {e : TypeId} {b : Nat} {m : α → Option Value} {xs : α → List β} {B : Nat → Prop} {H0 H : Heap} {ps : List Pc}
end
/-- Every key. -/
abbrev anyK {α : Type} (_ : α) : Prop := True
theorem KeyW.ofE {P : Program} {kt : TypeId} {d : TypeDesc} {α : Type} {enc : α → Value} (hd : P.underlying kt = some d) (hk : KeyE d enc) : KeyW P kt anyK enc where
  inj := hk.inj
  check w em a _ := Go.MapKept.run_checkKey hd (hk.isKey a) em 9999
  find w a _ es hes := by
    have hall : ∀ x ∈ es, Go.MapKept.IsKey d x.key := fun x hx => by
      obtain ⟨b, -, e⟩ := hes x hx
      rw [e]; exact hk.isKey b
    rcases Go.MapKept.findNow_spec (hk.isKey a) es 0 hall with ⟨h1, h2⟩ | ⟨j, e, h1, h2, h3⟩
    · exact .inl ⟨Go.MapKept.run_findKey hd h1, h2⟩
    · exact .inr ⟨j, e, by rw [Nat.zero_add] at h1; exact Go.MapKept.run_findKey hd h1, h2, h3⟩
  stays w a _ := Go.MapKept.run_keyThatStays (hk.isKey a)
end Go.VC
/- strings.Builder's String, strconv.Itoa, strings.IndexByte as calls. -/
set_option linter.unusedVariables false
set_option linter.unusedSimpArgs false
set_option maxRecDepth 100000
namespace Go.Proofs.YthomdogheamfpaaDoor
open Go.VC Go.Lib
theorem vStr {H0 H : Heap} {b : Nat} {s : ByteArray} {rest : List Pc} {K : Value → Heap → Prop} (h : BuSt (Old H0) H0 b s rest H) (k : ∀ H', Agr (Old H0) H0 H' → K (.string s) H') : VCall Tryd.prog 56 #[.pointer (some ⟨b, 0, none⟩)] H K := by
  obtain ⟨p, a, cap, hp, st⟩ := h
  refine ⟨fun w hw => ⟨Tryd.call56 _ w, ?_⟩⟩
  subst hw
  have hb := st.blk 0 rfl
  have hBb : H0.size ≤ b := by
    have := (st.in_ 0 rfl (k := b) rfl).1
    unfold Old at this
    omega
  have hne : (Value.slice a s.size cap).ownBlock ≠ some b := fun e => by
    cases a with
    | none => cases e
    | some ad =>
      obtain ⟨q, o, sp⟩ := ad
      injection e with e
      have d := st.apart2 (i := 0) (j := 1) rfl rfl (by decide)
      refine d b rfl (.inl ?_)
      subst e
      obtain ⟨cs, ⟨-, hcase⟩, -⟩ := (st.at_ 1 rfl).1
      rcases hcase with ⟨he, -⟩ | ⟨b', c', l, he, -⟩
      · cases he
      · injection he with e1 e2 e3
        injection e1 with e1
        injection e1 with e4 e5 e6
        subst e5; subst e6
        exact ⟨_, _, _, rfl⟩
  have hrow : w.ownsRow H0.size 5 1 (.slice a s.size cap) (Go.Lib.byteCells s.data.toList).length (Go.Lib.byteCells s.data.toList) := by
    obtain ⟨cs, ⟨hcl, hcase⟩, hreps⟩ := (st.at_ 1 rfl).1
    obtain ⟨rfl, hrng⟩ := reps_u8 hreps
    have hce : Go.Lib.byteCells s.data.toList = (strI s).map (Value.int .u8) := by
      unfold Go.Lib.byteCells strI
      rw [List.map_map]
      rfl
    have hl : ((strI s).map (Value.int .u8)).length = s.size := by rw [List.length_map, strI_len]
    rw [hce, hl]
    refine ⟨by rw [hl, Nat.mul_one], ?_⟩
    rcases hcase with ⟨he, hn0⟩ | ⟨b', c', l, he, -, hb', hnc, hcm, hll, htk⟩
    · exact .inl ⟨he, by rw [← strI_len]; exact hn0⟩
    · have hge : H0.size ≤ b' := by
        have := (st.in_ 1 rfl (k := b') (.inl ⟨0, s.size, cap, by rw [he]; injection he with e1 e2 e3; subst e1; subst e3; rw [strI_len]⟩)).1
        unfold Old at this
        omega
      rw [strI_len] at he hnc htk
      exact .inr ⟨b', c', l.toArray, he, hge, hb', hnc, hcm, by rw [List.size_toArray]; exact hll, htk⟩
  have hAt : BuilderAtF 102 5 H0.size b (.pointer p) (Go.Lib.byteCells s.data.toList) w := BuilderAtF.of ⟨hBb, _, hb, hrow, hne⟩
  have hIs : IsBuilderF 102 5 H0.size b (Go.Lib.byteCells s.data.toList) w := by
    rcases hp with rfl | rfl
    · exact .inl hAt
    · exact .inr hAt
  refine (Builder_String_any_k H0.size b s.data.toList w hIs (old_size st.old)).mono ?_
  rintro _ w' ⟨rfl, -, hbel, -⟩
  refine ⟨_, rfl, ⟨hbel.os.symm ▸ rfl, hbel.tape.symm ▸ rfl, hbel.output.symm ▸ rfl⟩, ?_⟩
  exact k _ (st.old.trans (show Agr (Old H0) w.heap w'.heap from fun j hj => hbel.block j hj))
def itoS (i : Int) : ByteArray := ⟨(itoa i).toArray⟩
theorem itoa_p {H : Heap} {i : Int} (hpow : PowH Tryd.prog H) (h0 : -9223372036854775808 ≤ i) (h1 : i ≤ 9223372036854775807) : Pure Tryd.prog 54 #[.int .i64 i] H (.string (itoS i)) := by
  intro w hw
  refine ⟨Tryd.call54 _ w, ?_⟩
  refine (strconv_Itoa i h0 h1 w (hpow w hw)).mono ?_
  rintro _ _ ⟨rfl, n, os, rfl⟩
  refine ⟨_, rfl, ⟨rfl, rfl, rfl⟩, rfl, ?_⟩
  subst hw
  intro k hk
  show (w.heap ++ os)[k]? = w.heap[k]?
  exact Array.getElem?_append_left hk
theorem index_p (s : ByteArray) (c : Nat) (H : Heap) : Pure Tryd.prog 120 #[.string s, .int .u8 (c : Int)] H (.int .i64 (indexByte s.data.toList (UInt8.ofNat c))) := by
  intro w hw
  refine ⟨Tryd.call120 _ w, ?_⟩
  refine (strings_IndexByte s (c : Int) w).mono ?_
  rintro _ _ ⟨rfl, rfl⟩
  exact ⟨_, rfl, Env.refl _, rfl, by subst hw; exact Agr.refl _ _⟩
end Go.Proofs.YthomdogheamfpaaDoor
/- class.single: the walk; how a byte is written. -/
set_option linter.unusedVariables false
set_option linter.unusedSimpArgs false
set_option maxRecDepth 100000
namespace Go.Proofs.YthomdogheamfpaaDoor
open Go.VC Go.Lib
def hexD (n : Nat) : Nat := if n < 10 then 48 + n else 87 + n
def sglM (c : Nat) (sp : Bool) : List Nat := if c = 10 then [92, 110] else if c = 13 then [92, 114] else if c = 9 then [92, 116] else if c < 32 ∨ 126 < c then [92, 120, hexD (c / 16), hexD (c % 16)] else if sp then [92, c] else [c]
def spB (s : ByteArray) (c : Nat) : Bool := decide (0 ≤ indexByte s.data.toList (UInt8.ofNat c))
def escL : List Value := [.int .u8 110, .int .u8 10, .int .u8 114, .int .u8 13, .int .u8 116, .int .u8 9]
/-- The table of escapes lies in memory. -/
def EscH (H : Heap) : Prop := Cells H 0 0 escL ∧ 0 < H.size
theorem EscH.agr {H H' : Heap} (h : EscH H) (ha : Agr (Old H) H H') : EscH H' :=
  ⟨h.1.eq (ha 0 h.2), old_lt ha (show Old H 0 from h.2)⟩
theorem esc_z : (Tryd.prog.info? 199).bind (·.zero) = some (.agg #[.int .u8 0, .int .u8 0]) := by kernel_rfl
theorem hex_get {i : Nat} (hi : i < 16) : (⟨#[48, 49, 50, 51, 52, 53, 54, 55, 56, 57, 97, 98, 99, 100, 101, 102]⟩ : ByteArray).extract i (i + 1) = bA [hexD i] := by
  have : ∀ i : Fin 16, (⟨#[48, 49, 50, 51, 52, 53, 54, 55, 56, 57, 97, 98, 99, 100, 101, 102]⟩ : ByteArray).extract i.1 (i.1 + 1) = bA [hexD i.1] := by decide
  exact this ⟨i, hi⟩
theorem bA_cat (u v : List Nat) : bA u ++ bA v = bA (u ++ v) := by
  apply ByteArray.ext
  rw [ByteArray.data_append]
  unfold bA
  simp
theorem spec_ge {s : ByteArray} {c : Nat} : (decide (indexByte s.data.toList (UInt8.ofNat c) ≥ 0)) = spB s c := rfl
def escP (i : Nat) : Nat × Nat := match i with
  | 0 => (110, 10)
  | 1 => (114, 13)
  | _ => (116, 9)
set_option maxHeartbeats 4000000 in
theorem single_p {H : Heap} {s : ByteArray} {c : Nat} (hE : EscH H) (hc : c < 256) : Pure Tryd.prog 96 #[.int .u8 (c : Int), .string s] H (.string (bA (sglM c (spB s c)))) := by
  refine FnOk.of_vc Tryd.func96 rfl (Tryd.call96 _) ?_
  (conv => whnf); refine ldN (cs := escL) ag200 hE.1 trivial ?_
  (conv => whnf)
  refine VLoop.mk [8] (fun i : Nat => [.int .i64 (i : Int)]) (fun i H1 => i ≤ 3 ∧ (∀ j, j < i → (escP j).2 ≠ c) ∧ St H H1 []) (fun i _ => 3 - i) ?_ ?_
  · (conv => whnf)
    exact ⟨0, rfl, by omega, fun j hj => by omega, St.nil H⟩
  · rintro i H1 junk1 ⟨hi, hno, st1⟩
    (conv => whnf); refine VIte.mk (fun hz => ?_) (fun hz => ?_) <;> simp only [decide_eq_true_eq, decide_eq_false_iff_not] at hz
    · have hex : escL.toArray.extract (i * 2) (i * 2 + 2) = #[.int .u8 ((escP i).1 : Int), .int .u8 ((escP i).2 : Int)] := by
        have : i = 0 ∨ i = 1 ∨ i = 2 := by omega
        rcases this with rfl | rfl | rfl <;> rfl
      have hsg : (escP i).2 = c → sglM c (spB s c) = [92, (escP i).1] := fun e => by
        have : i = 0 ∨ i = 1 ∨ i = 2 := by omega
        rcases this with rfl | rfl | rfl <;> (subst e; rfl)
      have h1b : (escP i).1 < 256 ∧ (escP i).2 < 256 := by
        have : i = 0 ∨ i = 1 ∨ i = 2 := by omega
        rcases this with rfl | rfl | rfl <;> decide
      (conv => whnf); refine ixvN ar200 ag199 (by omega) (by omega) ?_
      rw [Int.toNat_natCast, hex]
      generalize (escP i).1 = l at *
      generalize hv : (escP i).2 = v at *
      (conv => whnf); refine valloc (.agg #[.int .u8 0, .int .u8 0]) [.int .u8 0, .int .u8 0] esc_z rfl ?_
      intro p2 H2 hp2 hs2 hb2 ha2
      have st2 := st1.box hp2 hs2 hb2 ha2
      (conv => whnf); refine stNB (cs := [.int .u8 (l : Int), .int .u8 (v : Int)]) st2 0 rfl rfl (Nat.le_refl _) rfl fun H3 st3 => ?_
      rw [splice_all (by rfl)] at st3
      (conv => whnf); refine VC.fa fl199_1 ?_
      (conv => whnf); refine ld1 (v := .int .u8 (v : Int)) ct5 (by rw [(st3.blk 0 rfl).cell]; rfl) trivial ?_
      by_cases he : v = c
      · have d1 : ((v : Int) == (c : Int)) = true := by rw [he]; exact beq_self_eq_true _
        (conv => whnf); rw [d1]
        (conv => whnf); refine VC.fa fl199_0 ?_
        (conv => whnf); refine ld1 (v := .int .u8 (l : Int)) ct5 (by rw [(st3.blk 0 rfl).cell]; rfl) trivial ?_
        (conv => whnf); refine vbuild1 sl85 [.int .u8 (l : Int)] rfl rfl (by decide) (by decide) ?_
        intro q4 H4 hq4 hs4 hb4 ha4
        (conv => whnf); refine vb2s [l] rfl rfl rfl (fun j x hx => by
          cases j with
          | zero => cases hx; rw [hb4.cell]; rfl
          | succ j => simp at hx) rfl ?_
        (conv => whnf); refine vcat (by rw [show (⟨([l].map UInt8.ofNat).toArray⟩ : ByteArray).size = 1 from rfl]; decide) ?_
        (conv => whnf)
        rw [hsg he]
        exact ⟨rfl, (st3.skip hq4 ha4).old⟩
      · have d1 : ((v : Int) == (c : Int)) = false := beq_eq_false_iff_ne.2 (by omega)
        (conv => whnf); rw [d1]
        (conv => whnf); rw [w64 (x := (i : Int) + 1) (by omega) (by omega)]
        refine ⟨rfl, i + 1, by simp, ⟨by omega, fun j hj => ?_, st3.pick [] (by decide)⟩, by omega⟩
        rcases Nat.lt_or_eq_of_le (Nat.le_of_lt_succ hj) with hj | rfl
        · exact hno j hj
        · rw [hv]; exact he
    · obtain rfl : i = 3 := by omega
      have n0 : (10 : Nat) ≠ c := hno 0 (by omega)
      have n1 : (13 : Nat) ≠ c := hno 1 (by omega)
      have n2 : (9 : Nat) ≠ c := hno 2 (by omega)
      have hs0 : sglM c (spB s c) = if c < 32 ∨ 126 < c then [92, 120, hexD (c / 16), hexD (c % 16)] else if spB s c then [92, c] else [c] := by
        unfold sglM
        rw [if_neg (Ne.symm n0), if_neg (Ne.symm n1), if_neg (Ne.symm n2)]
      by_cases hesc : c < 32 ∨ 126 < c
      · rw [hs0, if_pos hesc]
        have hc16 : c / 2 ^ 4 = c / 16 := rfl
        have hand : c &&& 15 = c % 16 := by rw [show (15 : Nat) = 2 ^ 4 - 1 by decide, Nat.and_two_pow_sub_one_eq_mod]
        have hi16 : c / 16 < 16 := by omega
        have hj16 : c % 16 < 16 := by omega
        have e4 : (((⟨#[92, 120]⟩ : ByteArray) ++ bA [hexD (c / 16)]) ++ bA [hexD (c % 16)]) = bA [92, 120, hexD (c / 16), hexD (c % 16)] := by
          rw [show (⟨#[92, 120]⟩ : ByteArray) = bA [92, 120] from rfl]
          exact (congrArg (· ++ bA [hexD (c % 16)]) (bA_cat _ _)).trans (bA_cat _ _)
        by_cases hlo : c < 32
        · have d1 : decide ((c : Int) < 32) = true := decide_eq_true (by omega)
          (conv => whnf); rw [d1]
          (conv => whnf); refine VDraw.lex rfl (by kernel_rfl) ?_
          (conv => whnf); refine vshr (b := 4) (by decide) ?_
          (conv => whnf); refine vshr (b := 4) (by decide) ?_
          (conv => whnf); rw [w8 (x := ((c / 2 ^ 4 : Nat) : Int) + 1) (by omega) (by omega)]
          (conv => whnf); refine vcutS Tryd.underlying9 (by omega) (by omega) (show ((c / 2 ^ 4 : Nat) : Int) + 1 ≤ ((16 : Nat) : Int) by omega) ?_
          rw [show ((c / 2 ^ 4 : Nat) : Int).toNat = c / 16 by omega, show (((c / 2 ^ 4 : Nat) : Int) + 1).toNat = c / 16 + 1 by omega, hex_get hi16]
          (conv => whnf); refine vcat (show 2 + 1 ≤ maxLen by decide) ?_
          (conv => whnf); refine vand (b := 15) ⟨by simp [IntKind.min, IntKind.signed], by simp [IntKind.max, IntKind.signed, IntKind.bits]; omega⟩ ⟨by decide, by decide⟩ ?_
          (conv => whnf); refine vand (b := 15) ⟨by simp [IntKind.min, IntKind.signed], by simp [IntKind.max, IntKind.signed, IntKind.bits]; omega⟩ ⟨by decide, by decide⟩ ?_
          rw [hand]
          (conv => whnf); rw [w8 (x := ((c % 16 : Nat) : Int) + 1) (by omega) (by omega)]
          (conv => whnf); refine vcutS Tryd.underlying9 (by omega) (by omega) (show ((c % 16 : Nat) : Int) + 1 ≤ ((16 : Nat) : Int) by omega) ?_
          rw [show ((c % 16 : Nat) : Int).toNat = c % 16 by omega, show (((c % 16 : Nat) : Int) + 1).toNat = c % 16 + 1 by omega, hex_get hj16]
          (conv => whnf); refine vcat (show 3 + 1 ≤ maxLen by decide) ?_
          (conv => whnf)
          rw [← e4]
          exact ⟨rfl, st1.old⟩
        · have d1 : decide ((c : Int) < 32) = false := decide_eq_false (by omega)
          have d2 : decide ((c : Int) > 126) = true := decide_eq_true (by omega)
          (conv => whnf); rw [d1]
          (conv => whnf); rw [d2]
          (conv => whnf); refine VDraw.lex rfl (by kernel_rfl) ?_
          (conv => whnf); refine vshr (b := 4) (by decide) ?_
          (conv => whnf); refine vshr (b := 4) (by decide) ?_
          (conv => whnf); rw [w8 (x := ((c / 2 ^ 4 : Nat) : Int) + 1) (by omega) (by omega)]
          (conv => whnf); refine vcutS Tryd.underlying9 (by omega) (by omega) (show ((c / 2 ^ 4 : Nat) : Int) + 1 ≤ ((16 : Nat) : Int) by omega) ?_
          rw [show ((c / 2 ^ 4 : Nat) : Int).toNat = c / 16 by omega, show (((c / 2 ^ 4 : Nat) : Int) + 1).toNat = c / 16 + 1 by omega, hex_get hi16]
          (conv => whnf); refine vcat (show 2 + 1 ≤ maxLen by decide) ?_
          (conv => whnf); refine vand (b := 15) ⟨by simp [IntKind.min, IntKind.signed], by simp [IntKind.max, IntKind.signed, IntKind.bits]; omega⟩ ⟨by decide, by decide⟩ ?_
          (conv => whnf); refine vand (b := 15) ⟨by simp [IntKind.min, IntKind.signed], by simp [IntKind.max, IntKind.signed, IntKind.bits]; omega⟩ ⟨by decide, by decide⟩ ?_
          rw [hand]
          (conv => whnf); rw [w8 (x := ((c % 16 : Nat) : Int) + 1) (by omega) (by omega)]
          (conv => whnf); refine vcutS Tryd.underlying9 (by omega) (by omega) (show ((c % 16 : Nat) : Int) + 1 ≤ ((16 : Nat) : Int) by omega) ?_
          rw [show ((c % 16 : Nat) : Int).toNat = c % 16 by omega, show (((c % 16 : Nat) : Int) + 1).toNat = c % 16 + 1 by omega, hex_get hj16]
          (conv => whnf); refine vcat (show 3 + 1 ≤ maxLen by decide) ?_
          (conv => whnf)
          rw [← e4]
          exact ⟨rfl, st1.old⟩
      · rw [hs0, if_neg hesc]
        have d1 : decide ((c : Int) < 32) = false := decide_eq_false (by omega)
        have d2 : decide ((c : Int) > 126) = false := decide_eq_false (by omega)
        (conv => whnf); rw [d1]
        (conv => whnf); rw [d2]
        (conv => whnf); refine pures (index_p s c H1) fun H2 ha2 => ?_
        have st2 := st1.call ha2
        (conv => whnf); rw [spec_ge]
        have hone : ∀ {G : Heap} {q t : Nat}, Blk G q t [.int .u8 (c : Int)] → ∀ (j x : Nat), [c][j]? = some x → VC.cell G q (0 + j) = some (.int .u8 (x : Int)) := fun {G q t} hq j x hx => by
          cases j with
          | zero => cases hx; rw [hq.cell]; rfl
          | succ j => simp at hx
        cases spB s c with
        | true =>
          (conv => whnf); refine vbuild1 sl85 [.int .u8 (c : Int)] rfl rfl (by decide) (by decide) ?_
          intro q4 H4 hq4 hs4 hb4 ha4
          (conv => whnf); refine vb2s [c] rfl rfl rfl (hone hb4) rfl ?_
          (conv => whnf); refine vcat (show 1 + 1 ≤ maxLen by decide) ?_
          (conv => whnf)
          exact ⟨rfl, (st2.skip hq4 ha4).old⟩
        | false =>
          (conv => whnf); refine vbuild1 sl85 [.int .u8 (c : Int)] rfl rfl (by decide) (by decide) ?_
          intro q4 H4 hq4 hs4 hb4 ha4
          (conv => whnf); refine vb2s [c] rfl rfl rfl (hone hb4) rfl ?_
          (conv => whnf)
          exact ⟨rfl, (st2.skip hq4 ha4).old⟩
end Go.Proofs.YthomdogheamfpaaDoor
/- louperef01.in, Special, Inner, One: the walks. -/
set_option linter.unusedVariables false
set_option linter.unusedSimpArgs false
set_option maxRecDepth 100000
namespace Go.Proofs.YthomdogheamfpaaDoor
open Go.VC Go.Lib
theorem spB_in {s : ByteArray} {c i : Nat} (h : s.data.toList[i]? = some (UInt8.ofNat c)) : spB s c = true := by
  unfold spB
  rw [decide_eq_true_eq]
  have h1 := indexByte_ge s.data.toList (UInt8.ofNat c)
  apply Classical.byContradiction
  intro h2
  exact absurd h (indexByte_none (by omega) i)
theorem spB_out {s : ByteArray} {c : Nat} (h : ∀ i : Nat, s.data.toList[i]? ≠ some (UInt8.ofNat c)) : spB s c = false := by
  unfold spB
  rw [decide_eq_false_iff_not]
  intro h2
  obtain ⟨o, ho⟩ := Int.eq_ofNat_of_zero_le h2
  exact h o (indexByte_some ho).1
theorem in_p {H : Heap} {s : ByteArray} {c : Nat} (hs : s.size ≤ 1048576) (hc : c < 256) : Pure Tryd.prog 123 #[.string s, .int .u8 (c : Int)] H (.bool (spB s c)) := by
  refine FnOk.of_vc Tryd.func123 rfl (Tryd.call123 _) ?_
  have hsz : s.data.toList.length = s.size := rfl
  (conv => whnf)
  refine VLoop.mk [5] (fun i : Nat => [.int .i64 (i : Int)]) (fun i H1 => i ≤ s.size ∧ (∀ j, j < i → s.data.toList[j]? ≠ some (UInt8.ofNat c)) ∧ St H H1 []) (fun i _ => s.size - i) ?_ ?_
  · (conv => whnf)
    exact ⟨0, rfl, by omega, fun j hj => by omega, St.nil H⟩
  · rintro i H1 junk1 ⟨hi, hno, st1⟩
    (conv => whnf); refine VIte.mk (fun hz => ?_) (fun hz => ?_) <;> simp only [decide_eq_true_eq, decide_eq_false_iff_not] at hz
    · obtain ⟨x, hx⟩ := get_some (l := s.data.toList) (k := i) (by omega)
      have hx2 : s.data[i]? = some x := by rw [← Array.getElem?_toList]; exact hx
      (conv => whnf); refine vidxs Tryd.underlying9 rfl hx2 ?_
      by_cases he : x.toNat = c
      · have d1 : ((x.toNat : Int) == (c : Int)) = true := by rw [he]; exact beq_self_eq_true _
        have hxc : x = UInt8.ofNat c := by rw [← he]; simp
        rw [spB_in (i := i) (by rw [← hxc]; exact hx)]
        (conv => whnf); rw [d1]
        (conv => whnf)
        exact ⟨rfl, st1.old⟩
      · have d1 : ((x.toNat : Int) == (c : Int)) = false := beq_eq_false_iff_ne.2 (by omega)
        (conv => whnf); rw [d1]
        (conv => whnf); rw [w64 (x := (i : Int) + 1) (by omega) (by omega)]
        refine ⟨rfl, i + 1, by simp, ⟨by omega, fun j hj => ?_, st1⟩, by omega⟩
        rcases Nat.lt_or_eq_of_le (Nat.le_of_lt_succ hj) with hj | rfl
        · exact hno j hj
        · rw [hx]
          intro e
          injection e with e
          apply he
          rw [e, UInt8.toNat_ofNat']
          omega
    · obtain rfl : i = s.size := by omega
      (conv => whnf)
      rw [spB_out fun j => by
        by_cases hj : j < s.size
        · exact hno j hj
        · rw [List.getElem?_eq_none (by omega)]; exact fun e => by cases e]
      exact ⟨rfl, st1.old⟩
def specS : ByteArray := ⟨#[40, 41, 91, 93, 123, 125, 124, 38, 45, 42, 43, 63, 46, 92, 47, 94]⟩
def innS : ByteArray := ⟨#[92, 93, 91, 45, 94, 47]⟩
theorem special_p {H : Heap} {c : Nat} (hc : c < 256) : Pure Tryd.prog 102 #[.int .u8 (c : Int)] H (.bool (spB specS c)) := by
  refine FnOk.of_vc Tryd.func102 rfl (Tryd.call102 _) ?_
  (conv => whnf); refine pures (in_p (s := specS) (by decide) hc) fun H1 ha1 => ?_
  (conv => whnf)
  exact ⟨rfl, ha1⟩
theorem inner_p {H : Heap} {c : Nat} (hc : c < 256) : Pure Tryd.prog 103 #[.int .u8 (c : Int)] H (.bool (spB innS c)) := by
  refine FnOk.of_vc Tryd.func103 rfl (Tryd.call103 _) ?_
  (conv => whnf); refine pures (in_p (s := innS) (by decide) hc) fun H1 ha1 => ?_
  (conv => whnf)
  exact ⟨rfl, ha1⟩
theorem hex_at {i : Nat} (hi : i < 16) : (⟨#[48, 49, 50, 51, 52, 53, 54, 55, 56, 57, 97, 98, 99, 100, 101, 102]⟩ : ByteArray).data[i]? = some (UInt8.ofNat (hexD i)) := by
  have : ∀ i : Fin 16, (⟨#[48, 49, 50, 51, 52, 53, 54, 55, 56, 57, 97, 98, 99, 100, 101, 102]⟩ : ByteArray).data[i.1]? = some (UInt8.ofNat (hexD i.1)) := by decide
  exact this ⟨i, hi⟩
theorem hexD_lt {i : Nat} (hi : i < 16) : hexD i < 256 := by unfold hexD; split <;> omega
theorem u8_nat {n : Nat} (h : n < 256) : (UInt8.ofNat n).toNat = n := by rw [UInt8.toNat_ofNat']; omega
set_option maxHeartbeats 4000000 in
theorem one_p {H : Heap} {c : Nat} {sp : Bool} (hc : c < 256) : Pure Tryd.prog 101 #[.int .u8 (c : Int), .bool sp] H (.string (bA (sglM c sp))) := by
  refine FnOk.of_vc Tryd.func101 rfl (Tryd.call101 _) ?_
  have dn : ∀ (k : Nat), c ≠ k → ((c : Int) == (k : Int)) = false := fun k h => beq_eq_false_iff_ne.2 (by omega)
  by_cases h10 : c = 10
  · subst h10
    (conv => whnf)
    exact ⟨rfl, Agr.refl _ _⟩
  by_cases h13 : c = 13
  · subst h13
    (conv => whnf)
    exact ⟨rfl, Agr.refl _ _⟩
  by_cases h9 : c = 9
  · subst h9
    (conv => whnf)
    exact ⟨rfl, Agr.refl _ _⟩
  have hs0 : sglM c sp = if c < 32 ∨ 126 < c then [92, 120, hexD (c / 16), hexD (c % 16)] else if sp then [92, c] else [c] := by
    unfold sglM
    rw [if_neg h10, if_neg h13, if_neg h9]
  have b10 : ((c : Int) == 10) = false := dn 10 h10
  have b13 : ((c : Int) == 13) = false := dn 13 h13
  have b9 : ((c : Int) == 9) = false := dn 9 h9
  (conv => whnf); rw [b10]
  (conv => whnf); rw [b13]
  (conv => whnf); rw [b9]
  have hone : ∀ {G : Heap} {q t : Nat}, Blk G q t [.int .u8 (c : Int)] → ∀ (j x : Nat), [c][j]? = some x → VC.cell G q (0 + j) = some (.int .u8 (x : Int)) := fun {G q t} hq j x hx => by
    cases j with
    | zero => cases hx; rw [hq.cell]; rfl
    | succ j => simp at hx
  by_cases hesc : c < 32 ∨ 126 < c
  · rw [hs0, if_pos hesc]
    have hi16 : c / 16 < 16 := by omega
    have hj16 : c % 16 < 16 := by omega
    have e4 : ((⟨#[92, 120]⟩ : ByteArray) ++ bA [hexD (c / 16), hexD (c % 16)]) = bA [92, 120, hexD (c / 16), hexD (c % 16)] := by
      rw [show (⟨#[92, 120]⟩ : ByteArray) = bA [92, 120] from rfl]
      exact bA_cat _ _
    have two : ∀ {G : Heap} {q t : Nat}, Blk G q t ([.int .u8 (hexD (c / 16) : Int)] ++ [.int .u8 (hexD (c % 16) : Int)]) → ∀ (j x : Nat), [hexD (c / 16), hexD (c % 16)][j]? = some x → VC.cell G q (0 + j) = some (.int .u8 (x : Int)) := fun {G q t} hq j x hx => by
      match j with
      | 0 => cases hx; rw [hq.cell]; rfl
      | 1 => cases hx; rw [hq.cell]; rfl
      | j + 2 => simp at hx
    by_cases hlo : c < 32
    · have d1 : decide ((c : Int) < 32) = true := decide_eq_true (by omega)
      (conv => whnf); rw [d1]
      (conv => whnf); refine VDraw.heldZ (Old H) [] (sq [0,1,2,3,4,5,6,7] (.f 8 (.f 9 (sq [10] (.f 11 .e))))) rfl (by kernel_rfl) ?_
      (conv => whnf); refine vquo (b := 16) (by decide) ⟨by simp [IntKind.min, IntKind.signed], by simp [IntKind.max, IntKind.signed, IntKind.bits]; omega⟩ ?_
      (conv => whnf); refine vidxs Tryd.underlying9 rfl (hex_at hi16) ?_
      (conv => whnf); refine vrem (b := 16) (by decide) ?_
      (conv => whnf); refine vidxs Tryd.underlying9 rfl (hex_at hj16) ?_
      rw [u8_nat (hexD_lt hi16), u8_nat (hexD_lt hj16)]
      (conv => whnf); refine vbuild2 sl85 [.int .u8 (hexD (c / 16) : Int)] [.int .u8 (hexD (c % 16) : Int)] rfl rfl rfl rfl (by decide) (by decide) ?_
      intro q4 H4 hq4 hs4 hb4 ha4
      have g4 : Agr (Old H) H H4 := ha4.mono fun k hk => by have : k < H.size := hk; omega
      refine ⟨g4, ?_⟩
      (conv => whnf); refine vb2s [hexD (c / 16), hexD (c % 16)] rfl rfl rfl (two hb4) rfl ?_
      refine ⟨g4, ?_⟩
      (conv => whnf); refine vcat (show 2 + 2 ≤ maxLen by decide) ?_
      (conv => whnf)
      rw [← e4]
      exact ⟨g4, rfl, g4⟩
    · have d1 : decide ((c : Int) < 32) = false := decide_eq_false (by omega)
      have d2 : decide ((c : Int) > 126) = true := decide_eq_true (by omega)
      (conv => whnf); rw [d1]
      (conv => whnf); rw [d2]
      (conv => whnf); refine VDraw.heldZ (Old H) [] (sq [0,1,2,3,4,5,6,7] (.f 8 (.f 9 (sq [10] (.f 11 .e))))) rfl (by kernel_rfl) ?_
      (conv => whnf); refine vquo (b := 16) (by decide) ⟨by simp [IntKind.min, IntKind.signed], by simp [IntKind.max, IntKind.signed, IntKind.bits]; omega⟩ ?_
      (conv => whnf); refine vidxs Tryd.underlying9 rfl (hex_at hi16) ?_
      (conv => whnf); refine vrem (b := 16) (by decide) ?_
      (conv => whnf); refine vidxs Tryd.underlying9 rfl (hex_at hj16) ?_
      rw [u8_nat (hexD_lt hi16), u8_nat (hexD_lt hj16)]
      (conv => whnf); refine vbuild2 sl85 [.int .u8 (hexD (c / 16) : Int)] [.int .u8 (hexD (c % 16) : Int)] rfl rfl rfl rfl (by decide) (by decide) ?_
      intro q4 H4 hq4 hs4 hb4 ha4
      have g4 : Agr (Old H) H H4 := ha4.mono fun k hk => by have : k < H.size := hk; omega
      refine ⟨g4, ?_⟩
      (conv => whnf); refine vb2s [hexD (c / 16), hexD (c % 16)] rfl rfl rfl (two hb4) rfl ?_
      refine ⟨g4, ?_⟩
      (conv => whnf); refine vcat (show 2 + 2 ≤ maxLen by decide) ?_
      (conv => whnf)
      rw [← e4]
      exact ⟨g4, rfl, g4⟩
  · rw [hs0, if_neg hesc]
    have d1 : decide ((c : Int) < 32) = false := decide_eq_false (by omega)
    have d2 : decide ((c : Int) > 126) = false := decide_eq_false (by omega)
    (conv => whnf); rw [d1]
    (conv => whnf); rw [d2]
    cases sp with
    | true =>
      (conv => whnf); refine vbuild1 sl85 [.int .u8 (c : Int)] rfl rfl (by decide) (by decide) ?_
      intro q4 H4 hq4 hs4 hb4 ha4
      (conv => whnf); refine vb2s [c] rfl rfl rfl (hone hb4) rfl ?_
      (conv => whnf); refine vcat (show 1 + 1 ≤ maxLen by decide) ?_
      (conv => whnf)
      exact ⟨rfl, ((St.nil H).skip hq4 ha4).old⟩
    | false =>
      (conv => whnf); refine vbuild1 sl85 [.int .u8 (c : Int)] rfl rfl (by decide) (by decide) ?_
      intro q4 H4 hq4 hs4 hb4 ha4
      (conv => whnf); refine vb2s [c] rfl rfl rfl (hone hb4) rfl ?_
      (conv => whnf)
      exact ⟨rfl, ((St.nil H).skip hq4 ha4).old⟩
end Go.Proofs.YthomdogheamfpaaDoor
/- How a set is written: plain. -/
set_option linter.unusedVariables false
set_option linter.unusedSimpArgs false
set_option maxRecDepth 100000
namespace Go.Proofs.YthomdogheamfpaaDoor
open Go.VC Go.Lib
abbrev innM (k : Nat) : List Nat := sglM k (spB innS k)
theorem sgl_len (c : Nat) (sp : Bool) : (sglM c sp).length ≤ 4 := by
  unfold sglM
  repeat' split
  all_goals simp
/-- The end of the run that begins at i. -/
def hiM (t : Nat → Bool) (i : Nat) : Nat := i + ((List.range' (i + 1) (255 - i)).takeWhile t).length
theorem takeWhile_len {t : Nat → Bool} : ∀ (m a k : Nat), k ≤ m → (∀ q, q < k → t (a + q) = true) → (k = m ∨ t (a + k) = false) → ((List.range' a m).takeWhile t).length = k
  | 0, a, k, hk, _, _ => by
    obtain rfl : k = 0 := by omega
    rfl
  | m + 1, a, 0, hk, _, he => by
    rcases he with he | he
    · omega
    · rw [List.range'_succ, List.takeWhile_cons_of_neg (by rw [Nat.add_zero] at he; rw [he]; decide)]; rfl
  | m + 1, a, k + 1, hk, h, he => by
    rw [List.range'_succ, List.takeWhile_cons_of_pos (by have := h 0 (by omega); simpa using this), List.length_cons]
    rw [takeWhile_len m (a + 1) k (by omega) (fun q hq => by have := h (q + 1) (by omega); rw [show a + 1 + q = a + (q + 1) by omega]; exact this) (by
      rcases he with he | he
      · exact .inl (by omega)
      · exact .inr (by rw [show a + 1 + k = a + (k + 1) by omega]; exact he))]
theorem hi_eq {t : Nat → Bool} {i j : Nat} (h1 : i ≤ j) (h2 : j ≤ 255) (h : ∀ k, i < k → k ≤ j → t k = true) (he : j = 255 ∨ t (j + 1) = false) : hiM t i = j := by
  unfold hiM
  rw [takeWhile_len (255 - i) (i + 1) (j - i) (by omega) (fun q hq => h _ (by omega) (by omega)) (by
    rcases he with he | he
    · exact .inl (by omega)
    · exact .inr (by rw [show i + 1 + (j - i) = j + 1 by omega]; exact he))]
  omega
def rngM (i j : Nat) : List Nat := innM i ++ (if i + 1 < j then [45] else []) ++ (if i < j then innM j else [])
def pieM (t : Nat → Bool) (i : Nat) : List Nat := if t i && !(decide (0 < i) && t (i - 1)) then rngM i (hiM t i) else []
def bodM (t : Nat → Bool) (n : Nat) : List Nat := (List.range n).flatMap (pieM t)
theorem run_len (i j : Nat) : (rngM i j).length ≤ 9 := by
  unfold rngM
  have h1 : (innM i).length ≤ 4 := sgl_len i (spB innS i)
  have h2 : (innM j).length ≤ 4 := sgl_len j (spB innS j)
  simp only [List.length_append]
  split <;> split <;> simp only [List.length_cons, List.length_nil] <;> omega
theorem pie_len (t : Nat → Bool) (i : Nat) : (pieM t i).length ≤ 9 := by
  unfold pieM
  split
  · exact run_len _ _
  · exact Nat.zero_le _
theorem bod_succ (t : Nat → Bool) (n : Nat) : bodM t (n + 1) = bodM t n ++ pieM t n := by
  unfold bodM
  rw [List.range_succ, List.flatMap_append]
  simp
theorem bod_len (t : Nat → Bool) : ∀ n, (bodM t n).length ≤ 9 * n
  | 0 => Nat.le_refl _
  | n + 1 => by
    rw [bod_succ, List.length_append]
    have := bod_len t n
    have := pie_len t n
    omega
theorem bod_off {t : Nat → Bool} {i : Nat} (h : t i = false) : bodM t (i + 1) = bodM t i := by
  rw [bod_succ]
  unfold pieM
  rw [h]
  simp
theorem pie_in {t : Nat → Bool} {k : Nat} (h0 : 0 < k) (h : t (k - 1) = true) : pieM t k = [] := by
  unfold pieM
  rw [h, decide_eq_true h0]
  simp
theorem bod_to {t : Nat → Bool} {i : Nat} : ∀ d, (∀ k, i ≤ k → k < i + d → t k = true) → bodM t (i + 1 + d) = bodM t (i + 1)
  | 0, _ => rfl
  | d + 1, h => by
    rw [show i + 1 + (d + 1) = (i + 1 + d) + 1 by omega, bod_succ, pie_in (by omega) (h _ (by omega) (by omega)), List.append_nil]
    exact bod_to d fun k h1 h2 => h k h1 (by omega)
theorem bod_run {t : Nat → Bool} {i j : Nat} (hi : t i = true) (hp : i = 0 ∨ t (i - 1) = false) (h1 : i ≤ j) (h2 : j ≤ 255) (h : ∀ k, i < k → k ≤ j → t k = true) (he : j = 255 ∨ t (j + 1) = false) : bodM t (j + 1) = bodM t i ++ rngM i j := by
  have := bod_to (t := t) (i := i) (j - i) fun k hk1 hk2 => by
    rcases Nat.lt_or_eq_of_le hk1 with hk | rfl
    · exact h k hk (by omega)
    · exact hi
  rw [show j + 1 = i + 1 + (j - i) by omega, this, bod_succ]
  congr 1
  unfold pieM
  have e : (decide (0 < i) && t (i - 1)) = false := by
    rcases hp with rfl | hp
    · rfl
    · rw [hp]; simp
  rw [hi, e, hi_eq h1 h2 h he]
  rfl
/-- A set as text. -/
def showM (s : BitVec 256) : List Nat := if countM s = 1 then sglM (nextM s 0).1 (spB specS (nextM s 0).1) else (if 128 < countM s then [91, 94] else [91]) ++ bodM (fun k => (if 128 < countM s then ~~~s else s).getLsbD k) 256 ++ [93]
theorem show_len (s : BitVec 256) : (showM s).length ≤ 2400 := by
  unfold showM
  split
  · exact Nat.le_trans (sgl_len _ _) (by decide)
  · have := bod_len (fun k => (if 128 < countM s then ~~~s else s).getLsbD k) 256
    generalize bodM (fun k => (if 128 < countM s then ~~~s else s).getLsbD k) 256 = l at *
    have h2 : (if 128 < countM s then [91, 94] else [91] : List Nat).length ≤ 2 := by split <;> decide
    simp only [List.length_append, List.length_singleton]
    omega
end Go.Proofs.YthomdogheamfpaaDoor
/- class.Show: the walk (printed by mkshw4.py). -/
set_option linter.unusedVariables false
set_option linter.unusedSimpArgs false
set_option maxRecDepth 100000
namespace Go.Proofs.YthomdogheamfpaaDoor
open Go.VC Go.Lib
theorem bsz (w : List Nat) : (bA w).size = w.length := by unfold bA; simp [ByteArray.size]
theorem cat_sz {u v : List Nat} (hu : u.length ≤ 4096) (hv : v.length ≤ 4096) : (bA u).size + (bA v).size ≤ maxLen := by
  rw [bsz, bsz]
  unfold maxLen
  omega
set_option maxHeartbeats 16000000 in
theorem show_p {H : Heap} {s : BitVec 256} (hE : EscH H) : Pure Tryd.prog 52 #[setV s] H (.string (bA (showM s))) := by
  refine FnOk.of_vc Tryd.func52 rfl (Tryd.call52 _) ?_
  have hld : ∀ {G : Heap} {p : Nat} {x : BitVec 256}, Blk G p 73 (setL x) → Cells G p 0 (setL x) := fun h => h.cells fun j v hv => by rw [Nat.zero_add]; exact hv
  (conv => whnf); refine vbox (setL s) rfl ?_
  intro p H1 hp hs1 hb1 ha1
  have st1 := (St.nil H).box hp hs1 hb1 ha1
  (conv => whnf); refine ldN (cs := setL s) ag73 (hld (st1.blk 0 rfl)) trivial ?_
  (conv => whnf); refine pures (count_p s H1) fun H2 ha2 => ?_
  have st2 := st1.call ha2
  by_cases h1 : countM s = 1
  · have d1 : ((countM s : Int) == 1) = true := by rw [h1]; rfl
    have hsh : showM s = sglM (nextM s 0).1 (spB specS (nextM s 0).1) := if_pos h1
    (conv => whnf); rw [d1]
    (conv => whnf); refine ldN (cs := setL s) ag73 (hld (st2.blk 0 rfl)) trivial ?_
    (conv => whnf); refine pures (next_p s 0 (by decide) H2) fun H3 ha3 => ?_
    have st3 := st2.call ha3
    (conv => whnf); refine pures (single_p (s := specS) (hE.agr st3.old) (nextM_lt s 0)) fun H4 ha4 => ?_
    (conv => whnf)
    rw [hsh]
    exact ⟨rfl, (st3.call ha4).old⟩
  · have d1 : ((countM s : Int) == 1) = false := beq_eq_false_iff_ne.2 (by omega)
    (conv => whnf); rw [d1]
    obtain ⟨u, hu⟩ : ∃ u, u = (if 128 < countM s then ~~~s else s) := ⟨_, rfl⟩
    obtain ⟨opn, ho⟩ : ∃ l : List Nat, l = (if 128 < countM s then [91, 94] else [91]) := ⟨_, rfl⟩
    have hsh : showM s = opn ++ bodM (fun k => u.getLsbD k) 256 ++ [93] := by rw [hu, ho]; exact if_neg h1
    have hol : opn.length ≤ 2 := by rw [ho]; split <;> decide
    (conv => whnf)
    refine VSeq.cut [6] (fun _ : Unit => [.string (bA opn)]) (fun _ H3 => St H H3 [pB 73 p (setL u)]) ?_ ?_
    · by_cases h128 : 128 < countM s
      · have d2 : decide ((countM s : Int) > 128) = true := decide_eq_true (by omega)
        (conv => whnf); rw [d2]
        (conv => whnf); refine ldN (cs := setL s) ag73 (hld (st2.blk 0 rfl)) trivial ?_
        (conv => whnf); refine pures (not_c s H2) fun H3 ha3 => ?_
        (conv => whnf); refine stNB (cs := setL (~~~s)) (st2.call ha3) 0 rfl rfl (Nat.le_refl _) rfl fun H4 st4 => ?_
        rw [splice_all (show (setL (~~~s)).length = (setL s).length from rfl)] at st4
        (conv => whnf)
        exact ⟨rfl, (), by rw [ho, if_pos h128]; rfl, by rw [hu, if_pos h128]; exact st4⟩
      · have d2 : decide ((countM s : Int) > 128) = false := decide_eq_false (by omega)
        (conv => whnf); rw [d2]
        (conv => whnf)
        exact ⟨rfl, (), by rw [ho, if_neg h128]; rfl, by rw [hu, if_neg h128]; exact st2⟩
    · rintro ⟨⟩ H3 junk3 st3
      rw [hsh]
      clear hsh ho hu st1 st2
      obtain ⟨t, ht⟩ : ∃ t : Nat → Bool, t = fun k => u.getLsbD k := ⟨_, rfl⟩
      have htk : ∀ k, u.getLsbD k = t k := fun k => by rw [ht]
      rw [← ht]
      have hbl : ∀ n, n ≤ 256 → (opn ++ bodM t n).length ≤ 2306 := fun n hn => by
        have := bod_len t n
        rw [List.length_append]
        omega
      (conv => whnf)
      refine VLoop.mk [6, 7] (fun i : Nat => [.string (bA (opn ++ bodM t i)), .int .i64 (i : Int)]) (fun i H4 => i ≤ 256 ∧ (i = 0 ∨ i = 256 ∨ t (i - 1) = false ∨ t i = false) ∧ St H H4 [pB 73 p (setL u)]) (fun i _ => 256 - i) ?_ ?_
      · (conv => whnf)
        exact ⟨0, by rw [show bodM t 0 = [] from rfl, List.append_nil]; rfl, Nat.zero_le _, .inl rfl, st3⟩
      · clear st3
        rintro i H4 junk4 ⟨hi, hpre, st4⟩
        (conv => whnf); refine VIte.mk (fun hz => ?_) (fun hz => ?_) <;> simp only [decide_eq_true_eq, decide_eq_false_iff_not] at hz
        · have hi8 : i < 256 := by omega
          (conv => whnf); refine VSeq.run ?_
          (conv => whnf); refine ldN (cs := setL u) ag73 (hld (st4.blk 0 rfl)) trivial ?_
          (conv => whnf); rw [w8 (x := (i : Int)) (by omega) (by omega)]
          (conv => whnf); refine pures (has_c u i hi8 H4) fun H5 ha5 => ?_
          have st5 := st4.call ha5
          rw [htk]
          cases hti : t i with
          | false =>
            (conv => whnf); rw [w64 (x := (i : Int) + 1) (by omega) (by omega)]
            exact ⟨rfl, i + 1, by rw [bod_off hti]; simp, ⟨by omega, .inr (.inr (.inl hti)), st5⟩, by omega⟩
          | true =>
            have hpr : i = 0 ∨ t (i - 1) = false := by
              rcases hpre with h | h | h | h
              · exact .inl h
              · omega
              · exact .inr h
              · rw [hti] at h; cases h
            (conv => whnf)
            refine VLoop.mk [8] (fun j : Nat => [.int .i64 (j : Int)]) (fun j H6 => i ≤ j ∧ j ≤ 255 ∧ (∀ k, i < k → k ≤ j → t k = true) ∧ St H H6 [pB 73 p (setL u)]) (fun j _ => 255 - j) ?_ ?_
            · (conv => whnf)
              exact ⟨i, rfl, Nat.le_refl _, by omega, fun k h1 h2 => by omega, st5⟩
            · clear st5 st4 ha5
              rintro j H6 junk6 ⟨hij, hj, hrun, st6⟩
              by_cases hj2 : j < 255
              · have d3 : decide ((j : Int) < 255) = true := decide_eq_true (by omega)
                (conv => whnf); rw [d3]
                (conv => whnf); refine ldN (cs := setL u) ag73 (hld (st6.blk 0 rfl)) trivial ?_
                (conv => whnf); rw [w64 (x := (j : Int) + 1) (by omega) (by omega)]
                (conv => whnf); rw [w8 (x := (j : Int) + 1) (by omega) (by omega)]
                rw [show (j : Int) + 1 = ((j + 1 : Nat) : Int) by omega]
                (conv => whnf); refine pures (has_c u (j + 1) (by omega) H6) fun H7 ha7 => ?_
                have st7 := st6.call ha7
                rw [htk]
                cases htj : t (j + 1) with
                | true =>
                  (conv => whnf); rw [w64 (x := (j : Int) + 1) (by omega) (by omega)]
                  refine ⟨rfl, j + 1, by simp, ⟨by omega, by omega, fun k h1 h2 => ?_, st7⟩, by omega⟩
                  rcases Nat.lt_or_eq_of_le h2 with h2 | rfl
                  · exact hrun k h1 (by omega)
                  · exact htj
                | false =>
                  have he : j = 255 ∨ t (j + 1) = false := .inr htj
                  have hbr := bod_run hti hpr hij hj hrun he
                  have hil : (sglM i (spB innS i)).length ≤ 4 := sgl_len _ _
                  have hjl : (sglM j (spB innS j)).length ≤ 4 := sgl_len _ _
                  have hbi : opn.length + (bodM t i).length ≤ 2306 := by rw [← List.length_append]; exact hbl i (by omega)
                  (conv => whnf); rw [w8 (x := (i : Int)) (by omega) (by omega)]
                  (conv => whnf); refine pures (single_p (s := innS) (hE.agr st7.old) hi8) fun H8 ha8 => ?_
                  have st8 := st7.call ha8
                  (conv => whnf); refine vcat (cat_sz (by rw [List.length_append]; omega) (show (sglM i (spB innS i)).length ≤ 4096 by omega)) ?_
                  rw [bA_cat]
                  (conv => whnf); refine VSeq.run ?_
                  (conv => whnf); rw [w64 (x := (i : Int) + 1) (by omega) (by omega)]
                  rcases (show j = i ∨ j = i + 1 ∨ i + 1 < j by omega) with hc3 | hc3 | hc3
                  · have e1 : decide ((j : Int) > (i : Int) + 1) = false := decide_eq_false (by omega)
                    have e2 : decide ((j : Int) > (i : Int)) = false := decide_eq_false (by omega)
                    (conv => whnf); rw [e1]
                    (conv => whnf); refine VSeq.run ?_
                    (conv => whnf); rw [e2]
                    (conv => whnf); rw [w64 (x := (j : Int) + 1) (by omega) (by omega)]
                    refine ⟨rfl, j + 1, ?_, ⟨by omega, ?_, st8⟩, by omega⟩
                    · rw [hbr]
                      unfold rngM
                      rw [if_neg (by omega), if_neg (by omega)]
                      simp
                    · rcases he with he | he
                      · exact .inr (.inl (by omega))
                      · exact .inr (.inr (.inr he))
                  · have e1 : decide ((j : Int) > (i : Int) + 1) = false := decide_eq_false (by omega)
                    have e2 : decide ((j : Int) > (i : Int)) = true := decide_eq_true (by omega)
                    (conv => whnf); rw [e1]
                    (conv => whnf); refine VSeq.run ?_
                    (conv => whnf); rw [e2]
                    (conv => whnf); rw [w8 (x := (j : Int)) (by omega) (by omega)]
                    (conv => whnf); refine pures (single_p (s := innS) (hE.agr st8.old) (show j < 256 by omega)) fun H9 ha9 => ?_
                    have st9 := st8.call ha9
                    (conv => whnf); refine vcat (cat_sz (by simp only [List.length_append]; omega) (show (sglM j (spB innS j)).length ≤ 4096 by omega)) ?_
                    rw [bA_cat]
                    (conv => whnf); rw [w64 (x := (j : Int) + 1) (by omega) (by omega)]
                    refine ⟨rfl, j + 1, ?_, ⟨by omega, ?_, st9⟩, by omega⟩
                    · rw [hbr]
                      unfold rngM
                      rw [if_neg (by omega), if_pos (by omega)]
                      simp
                    · rcases he with he | he
                      · exact .inr (.inl (by omega))
                      · exact .inr (.inr (.inr he))
                  · have e1 : decide ((j : Int) > (i : Int) + 1) = true := decide_eq_true (by omega)
                    have e2 : decide ((j : Int) > (i : Int)) = true := decide_eq_true (by omega)
                    (conv => whnf); rw [e1]
                    (conv => whnf); refine vcat (cat_sz (v := [45]) (by simp only [List.length_append]; omega) (by decide)) ?_
                    rw [show (⟨#[45]⟩ : ByteArray) = bA [45] from rfl, bA_cat]
                    (conv => whnf); refine VSeq.run ?_
                    (conv => whnf); rw [e2]
                    (conv => whnf); rw [w8 (x := (j : Int)) (by omega) (by omega)]
                    (conv => whnf); refine pures (single_p (s := innS) (hE.agr st8.old) (show j < 256 by omega)) fun H9 ha9 => ?_
                    have st9 := st8.call ha9
                    (conv => whnf); refine vcat (cat_sz (by simp only [List.length_append, List.length_singleton]; omega) (show (sglM j (spB innS j)).length ≤ 4096 by omega)) ?_
                    rw [bA_cat]
                    (conv => whnf); rw [w64 (x := (j : Int) + 1) (by omega) (by omega)]
                    refine ⟨rfl, j + 1, ?_, ⟨by omega, ?_, st9⟩, by omega⟩
                    · rw [hbr]
                      unfold rngM
                      rw [if_pos (by omega), if_pos (by omega)]
                      simp
                    · rcases he with he | he
                      · exact .inr (.inl (by omega))
                      · exact .inr (.inr (.inr he))
              · have d3 : decide ((j : Int) < 255) = false := decide_eq_false (by omega)
                have he : j = 255 ∨ t (j + 1) = false := .inl (by omega)
                have st7 := st6
                have H7 := H6
                (conv => whnf); rw [d3]
                have hbr := bod_run hti hpr hij hj hrun he
                have hil : (sglM i (spB innS i)).length ≤ 4 := sgl_len _ _
                have hjl : (sglM j (spB innS j)).length ≤ 4 := sgl_len _ _
                have hbi : opn.length + (bodM t i).length ≤ 2306 := by rw [← List.length_append]; exact hbl i (by omega)
                (conv => whnf); rw [w8 (x := (i : Int)) (by omega) (by omega)]
                (conv => whnf); refine pures (single_p (s := innS) (hE.agr st7.old) hi8) fun H8 ha8 => ?_
                have st8 := st7.call ha8
                (conv => whnf); refine vcat (cat_sz (by rw [List.length_append]; omega) (show (sglM i (spB innS i)).length ≤ 4096 by omega)) ?_
                rw [bA_cat]
                (conv => whnf); refine VSeq.run ?_
                (conv => whnf); rw [w64 (x := (i : Int) + 1) (by omega) (by omega)]
                rcases (show j = i ∨ j = i + 1 ∨ i + 1 < j by omega) with hc3 | hc3 | hc3
                · have e1 : decide ((j : Int) > (i : Int) + 1) = false := decide_eq_false (by omega)
                  have e2 : decide ((j : Int) > (i : Int)) = false := decide_eq_false (by omega)
                  (conv => whnf); rw [e1]
                  (conv => whnf); refine VSeq.run ?_
                  (conv => whnf); rw [e2]
                  (conv => whnf); rw [w64 (x := (j : Int) + 1) (by omega) (by omega)]
                  refine ⟨rfl, j + 1, ?_, ⟨by omega, ?_, st8⟩, by omega⟩
                  · rw [hbr]
                    unfold rngM
                    rw [if_neg (by omega), if_neg (by omega)]
                    simp
                  · rcases he with he | he
                    · exact .inr (.inl (by omega))
                    · exact .inr (.inr (.inr he))
                · have e1 : decide ((j : Int) > (i : Int) + 1) = false := decide_eq_false (by omega)
                  have e2 : decide ((j : Int) > (i : Int)) = true := decide_eq_true (by omega)
                  (conv => whnf); rw [e1]
                  (conv => whnf); refine VSeq.run ?_
                  (conv => whnf); rw [e2]
                  (conv => whnf); rw [w8 (x := (j : Int)) (by omega) (by omega)]
                  (conv => whnf); refine pures (single_p (s := innS) (hE.agr st8.old) (show j < 256 by omega)) fun H9 ha9 => ?_
                  have st9 := st8.call ha9
                  (conv => whnf); refine vcat (cat_sz (by simp only [List.length_append]; omega) (show (sglM j (spB innS j)).length ≤ 4096 by omega)) ?_
                  rw [bA_cat]
                  (conv => whnf); rw [w64 (x := (j : Int) + 1) (by omega) (by omega)]
                  refine ⟨rfl, j + 1, ?_, ⟨by omega, ?_, st9⟩, by omega⟩
                  · rw [hbr]
                    unfold rngM
                    rw [if_neg (by omega), if_pos (by omega)]
                    simp
                  · rcases he with he | he
                    · exact .inr (.inl (by omega))
                    · exact .inr (.inr (.inr he))
                · have e1 : decide ((j : Int) > (i : Int) + 1) = true := decide_eq_true (by omega)
                  have e2 : decide ((j : Int) > (i : Int)) = true := decide_eq_true (by omega)
                  (conv => whnf); rw [e1]
                  (conv => whnf); refine vcat (cat_sz (v := [45]) (by simp only [List.length_append]; omega) (by decide)) ?_
                  rw [show (⟨#[45]⟩ : ByteArray) = bA [45] from rfl, bA_cat]
                  (conv => whnf); refine VSeq.run ?_
                  (conv => whnf); rw [e2]
                  (conv => whnf); rw [w8 (x := (j : Int)) (by omega) (by omega)]
                  (conv => whnf); refine pures (single_p (s := innS) (hE.agr st8.old) (show j < 256 by omega)) fun H9 ha9 => ?_
                  have st9 := st8.call ha9
                  (conv => whnf); refine vcat (cat_sz (by simp only [List.length_append, List.length_singleton]; omega) (show (sglM j (spB innS j)).length ≤ 4096 by omega)) ?_
                  rw [bA_cat]
                  (conv => whnf); rw [w64 (x := (j : Int) + 1) (by omega) (by omega)]
                  refine ⟨rfl, j + 1, ?_, ⟨by omega, ?_, st9⟩, by omega⟩
                  · rw [hbr]
                    unfold rngM
                    rw [if_pos (by omega), if_pos (by omega)]
                    simp
                  · rcases he with he | he
                    · exact .inr (.inl (by omega))
                    · exact .inr (.inr (.inr he))
        · obtain rfl : i = 256 := by omega
          (conv => whnf); refine vcat (cat_sz (v := [93]) (Nat.le_trans (hbl 256 (Nat.le_refl _)) (by decide)) (by decide)) ?_
          rw [show (⟨#[93]⟩ : ByteArray) = bA [93] from rfl, bA_cat]
          (conv => whnf)
          exact ⟨rfl, st4.old⟩
end Go.Proofs.YthomdogheamfpaaDoor
/- louperef01.Count: the walk. -/
set_option linter.unusedVariables false
set_option linter.unusedSimpArgs false
set_option maxRecDepth 100000
namespace Go.Proofs.YthomdogheamfpaaDoor
open Go.VC Go.Lib
theorem funL_at {f : Nat → Bool} {i : Nat} (hi : i < 256) : (funL f)[i]? = some (.bool (f i)) := by
  unfold funL
  rw [List.getElem?_map, List.getElem?_range hi]
  rfl
def cntM (f : Nat → Bool) (n : Nat) : Nat := ((List.range n).filter f).length
theorem cnt_succ (f : Nat → Bool) (n : Nat) : cntM f (n + 1) = cntM f n + (if f n then 1 else 0) := by
  unfold cntM
  rw [List.range_succ, List.filter_append, List.length_append]
  cases h : f n <;> simp [h]
theorem cnt_le (f : Nat → Bool) (n : Nat) : cntM f n ≤ n := Nat.le_trans (List.length_filter_le _ _) (by simp)
theorem cnt_set {f : Nat → Bool} {x : BitVec 256} (hx : ∀ i, i < 256 → x.getLsbD i = f i) : cntM f 256 = countM x := by
  unfold cntM countM
  congr 1
  refine List.filter_congr fun i hi => ?_
  rw [List.mem_range] at hi
  exact (hx i hi).symm
theorem refcount_p {H : Heap} {f : Nat → Bool} : Pure Tryd.prog 100 #[.agg (funL f).toArray] H (.int .i64 (cntM f 256 : Int)) := by
  refine FnOk.of_vc Tryd.func100 rfl (Tryd.call100 _) ?_
  (conv => whnf); refine vbox (funL f) rfl ?_
  intro p H1 hp hs1 hb1 ha1
  have st1 := (St.nil H).box hp hs1 hb1 ha1
  (conv => whnf)
  refine VLoop.mk [3, 4] (fun i : Nat => [.int .i64 (cntM f i : Int), .int .i64 (i : Int)]) (fun i H2 => i ≤ 256 ∧ St H H2 [pB 112 p (funL f)]) (fun i _ => 256 - i) ?_ ?_
  · (conv => whnf)
    exact ⟨0, rfl, Nat.zero_le _, st1⟩
  · rintro i H2 junk2 ⟨hi, st2⟩
    (conv => whnf); refine VIte.mk (fun hz => ?_) (fun hz => ?_) <;> simp only [decide_eq_true_eq, decide_eq_false_iff_not] at hz
    · have hle := cnt_le f i
      have hs := cnt_succ f i
      (conv => whnf); refine VSeq.run ?_
      (conv => whnf); refine ixa ar112 (by omega) (by omega) ?_
      rw [show 0 + (i : Int).toNat * 1 = i by omega]
      (conv => whnf); refine ld1 (v := .bool (f i)) ct4 (by rw [(st2.blk 0 rfl).cell]; exact funL_at (by omega)) trivial ?_
      cases hf : f i with
      | true =>
        rw [hf] at hs
        (conv => whnf); rw [w64 (x := (cntM f i : Int) + 1) (by omega) (by omega)]
        (conv => whnf); rw [w64 (x := (i : Int) + 1) (by omega) (by omega)]
        exact ⟨rfl, i + 1, by rw [hs]; simp, ⟨by omega, st2⟩, by omega⟩
      | false =>
        rw [hf] at hs
        (conv => whnf); rw [w64 (x := (i : Int) + 1) (by omega) (by omega)]
        exact ⟨rfl, i + 1, by rw [hs]; simp, ⟨by omega, st2⟩, by omega⟩
    · obtain rfl : i = 256 := by omega
      (conv => whnf)
      exact ⟨rfl, st2.old⟩
end Go.Proofs.YthomdogheamfpaaDoor
/- louperef01.Show: the walk (printed by mkshw6.py). -/
set_option linter.unusedVariables false
set_option linter.unusedSimpArgs false
set_option maxRecDepth 100000
namespace Go.Proofs.YthomdogheamfpaaDoor
open Go.VC Go.Lib
theorem neqZ {P : Program} {t : TypeId} {x y : Operand} {S : Nat → Prop} {H : Heap} {K : Value → Prop} {a b z : Bool} (h : P.underlying t = some .bool) (hz : (a != b) = z) (k : K (.bool z)) : VDet P (do eqGuard .neq t x y (.bool a) (.bool b); binOp .neq t (.bool a) (.bool b)) S H K := by
  subst hz
  exact bneq_b h k
theorem eqZ {P : Program} {t : TypeId} {x y : Operand} {S : Nat → Prop} {H : Heap} {K : Value → Prop} {a b z : Bool} (h : P.underlying t = some .bool) (hz : (a == b) = z) (k : K (.bool z)) : VDet P (do eqGuard .eql t x y (.bool a) (.bool b); binOp .eql t (.bool a) (.bool b)) S H K := by
  subst hz
  exact beq_b h k
theorem bod_one {t : Nat → Bool} {i j : Nat} (hi : t i = true) (hp : i = 0 ∨ t (i - 1) = false) (h1 : i ≤ j) (h2 : j ≤ 255) (h : ∀ k, i < k → k ≤ j → t k = true) (he : j = 255 ∨ t (j + 1) = false) : bodM t (i + 1) = bodM t i ++ rngM i j := by
  rw [bod_succ]
  congr 1
  unfold pieM
  have e : (decide (0 < i) && t (i - 1)) = false := by
    rcases hp with rfl | hp
    · rfl
    · rw [hp]; simp
  rw [hi, e, hi_eq h1 h2 h he]
  rfl
theorem first_of {x : BitVec 256} {i : Nat} (hi : x.getLsbD i = true) (hno : ∀ j, j < i → x.getLsbD j = false) : (nextM x 0).1 = i := by
  have hx : x ≠ 0 := fun e => by rw [e] at hi; simp at hi
  obtain ⟨h1, h2⟩ := least_of hx
  rcases Nat.lt_trichotomy (nextM x 0).1 i with h | h | h
  · rw [hno _ h] at h1; cases h1
  · exact h
  · rw [h2 _ h] at hi; cases hi
set_option maxHeartbeats 16000000 in
theorem refshow_p {H : Heap} {f : Nat → Bool} {x : BitVec 256} (hx : ∀ i, i < 256 → x.getLsbD i = f i) : Pure Tryd.prog 59 #[.agg (funL f).toArray] H (.string (bA (showM x))) := by
  refine FnOk.of_vc Tryd.func59 rfl (Tryd.call59 _) ?_
  have hld : ∀ {G : Heap} {p : Nat}, Blk G p 112 (funL f) → Cells G p 0 (funL f) := fun h => h.cells fun j v hv => by rw [Nat.zero_add]; exact hv
  (conv => whnf); refine vbox (funL f) rfl ?_
  intro p H1 hp hs1 hb1 ha1
  have st1 := (St.nil H).box hp hs1 hb1 ha1
  (conv => whnf); refine ldN (cs := funL f) ag112 (hld (st1.blk 0 rfl)) trivial ?_
  (conv => whnf); refine pures (refcount_p (f := f)) fun H2 ha2 => ?_
  have st2 := st1.call ha2
  rw [cnt_set hx]
  by_cases h1 : countM x = 1
  · have d1 : ((countM x : Int) == 1) = true := by rw [h1]; rfl
    have hsh : showM x = sglM (nextM x 0).1 (spB specS (nextM x 0).1) := if_pos h1
    (conv => whnf); refine VSeq.run ?_
    (conv => whnf); rw [d1]
    (conv => whnf)
    refine VLoop.mk [4] (fun i : Nat => [.int .i64 (i : Int)]) (fun i H3 => i ≤ 256 ∧ (∀ j, j < i → x.getLsbD j = false) ∧ St H H3 [pB 112 p (funL f)]) (fun i _ => 256 - i) ?_ ?_
    · (conv => whnf)
      exact ⟨0, rfl, Nat.zero_le _, fun j hj => by omega, st2⟩
    · rintro i H3 junk3 ⟨hi, hno, st3⟩
      (conv => whnf); refine VIte.mk (fun hz => ?_) (fun hz => ?_) <;> simp only [decide_eq_true_eq, decide_eq_false_iff_not] at hz
      · have hi8 : i < 256 := by omega
        (conv => whnf); refine ixa ar112 (by omega) (by omega) ?_
        rw [show 0 + (i : Int).toNat * 1 = i by omega]
        (conv => whnf); refine ld1 (v := .bool (f i)) ct4 (by rw [(st3.blk 0 rfl).cell]; exact funL_at hi8) trivial ?_
        cases hf : f i with
        | true =>
          have hn := first_of ((hx i hi8).trans hf) hno
          (conv => whnf); rw [w8 (x := (i : Int)) (by omega) (by omega)]
          (conv => whnf); refine pures (special_p hi8) fun H4 ha4 => ?_
          have st4 := st3.call ha4
          (conv => whnf); refine pures (one_p hi8) fun H5 ha5 => ?_
          (conv => whnf)
          rw [hsh, hn]
          exact ⟨rfl, (st4.call ha5).old⟩
        | false =>
          (conv => whnf); rw [w64 (x := (i : Int) + 1) (by omega) (by omega)]
          refine ⟨rfl, i + 1, by simp, ⟨by omega, fun j hj => ?_, st3⟩, by omega⟩
          rcases Nat.lt_or_eq_of_le (Nat.le_of_lt_succ hj) with hj | rfl
          · exact hno j hj
          · exact (hx _ hi8).trans hf
      · exfalso
        have : countM x = 0 := by
          unfold countM
          rw [List.length_eq_zero_iff, List.filter_eq_nil_iff]
          intro b hb
          rw [List.mem_range] at hb
          rw [hno b (by omega)]
          decide
        omega
  · have d1 : ((countM x : Int) == 1) = false := beq_eq_false_iff_ne.2 (by omega)
    (conv => whnf); refine VSeq.run ?_
    (conv => whnf); rw [d1]
    obtain ⟨u, hu⟩ : ∃ u, u = (if 128 < countM x then ~~~x else x) := ⟨_, rfl⟩
    obtain ⟨opn, ho⟩ : ∃ l : List Nat, l = (if 128 < countM x then [91, 94] else [91]) := ⟨_, rfl⟩
    obtain ⟨w, hw⟩ : ∃ w, w = !decide (128 < countM x) := ⟨_, rfl⟩
    have hsh : showM x = opn ++ bodM (fun k => u.getLsbD k) 256 ++ [93] := by rw [hu, ho]; exact if_neg h1
    have hol : opn.length ≤ 2 := by rw [ho]; split <;> decide
    have hfw : ∀ k, k < 256 → (f k == w) = u.getLsbD k := fun k hk => by
      rw [hu, hw, ← hx k hk]
      by_cases h : 128 < countM x
      · rw [if_pos h, decide_eq_true h, BitVec.getLsbD_not, decide_eq_true hk]
        cases x.getLsbD k <;> rfl
      · rw [if_neg h, decide_eq_false h]
        cases x.getLsbD k <;> rfl
    (conv => whnf)
    refine VSeq.cut [5, 6] (fun _ : Unit => [.string (bA opn), .bool w]) (fun _ H3 => St H H3 [pB 112 p (funL f)]) ?_ ?_
    · by_cases h128 : 128 < countM x
      · have d2 : decide ((countM x : Int) > 128) = true := decide_eq_true (by omega)
        (conv => whnf); rw [d2]
        (conv => whnf)
        exact ⟨rfl, (), by rw [ho, if_pos h128, hw, decide_eq_true h128]; rfl, st2⟩
      · have d2 : decide ((countM x : Int) > 128) = false := decide_eq_false (by omega)
        (conv => whnf); rw [d2]
        (conv => whnf)
        exact ⟨rfl, (), by rw [ho, if_neg h128, hw, decide_eq_false h128]; rfl, st2⟩
    · rintro ⟨⟩ H3 junk3 st3
      rw [hsh]
      clear hsh ho hu st1 st2
      obtain ⟨t, ht⟩ : ∃ t : Nat → Bool, t = fun k => u.getLsbD k := ⟨_, rfl⟩
      have htk : ∀ k, k < 256 → (f k == w) = t k := fun k hk => by rw [ht]; exact hfw k hk
      have htn : ∀ k, k < 256 → (f k != w) = !(t k) := fun k hk => by rw [← htk k hk]; rfl
      rw [← ht]
      have hbl : ∀ n, n ≤ 256 → opn.length + (bodM t n).length ≤ 2306 := fun n hn => by
        have := bod_len t n
        omega
      (conv => whnf)
      refine VLoop.mk [5, 7] (fun i : Nat => [.string (bA (opn ++ bodM t i)), .int .i64 (i : Int)]) (fun i H4 => i ≤ 256 ∧ St H H4 [pB 112 p (funL f)]) (fun i _ => 256 - i) ?_ ?_
      · (conv => whnf)
        exact ⟨0, by rw [show bodM t 0 = [] from rfl, List.append_nil]; rfl, Nat.zero_le _, st3⟩
      · clear st3
        rintro i H4 junk4 ⟨hi, st4⟩
        (conv => whnf); refine VIte.mk (fun hz => ?_) (fun hz => ?_) <;> simp only [decide_eq_true_eq, decide_eq_false_iff_not] at hz
        · have hi8 : i < 256 := by omega
          have hbi := hbl i (by omega)
          (conv => whnf); refine VSeq.run ?_
          (conv => whnf); refine ixa ar112 (by omega) (by omega) ?_
          rw [show 0 + (i : Int).toNat * 1 = i by omega]
          (conv => whnf); refine ld1 (v := .bool (f i)) ct4 (by rw [(st4.blk 0 rfl).cell]; exact funL_at hi8) trivial ?_
          (conv => whnf); refine neqZ (by kernel_rfl) (htn i hi8) ?_
          cases hti : t i with
          | false =>
            (conv => whnf); rw [w64 (x := (i : Int) + 1) (by omega) (by omega)]
            exact ⟨rfl, i + 1, by rw [bod_off hti]; simp, ⟨by omega, st4⟩, by omega⟩
          | true =>
            by_cases hi0 : 0 < i
            · have d3 : decide ((i : Int) > 0) = true := decide_eq_true (by omega)
              (conv => whnf); rw [d3]
              (conv => whnf); rw [w64 (x := (i : Int) - 1) (by omega) (by omega)]
              (conv => whnf); refine ixa ar112 (by omega) (by omega) ?_
              rw [show 0 + ((i : Int) - 1).toNat * 1 = i - 1 by omega]
              (conv => whnf); refine ld1 (v := .bool (f (i - 1))) ct4 (by rw [(st4.blk 0 rfl).cell]; exact funL_at (by omega)) trivial ?_
              (conv => whnf); refine eqZ (by kernel_rfl) (htk (i - 1) (by omega)) ?_
              cases htp : t (i - 1) with
              | true =>
                (conv => whnf); rw [w64 (x := (i : Int) + 1) (by omega) (by omega)]
                exact ⟨rfl, i + 1, by rw [bod_succ, pie_in hi0 htp, List.append_nil]; simp, ⟨by omega, st4⟩, by omega⟩
              | false =>
                have hpr : i = 0 ∨ t (i - 1) = false := .inr htp
                (conv => whnf)
                refine VLoop.mk [8] (fun n : Nat => [.int .i64 (n : Int)]) (fun n H6 => 1 ≤ n ∧ i + n ≤ 256 ∧ (∀ k, i < k → k < i + n → t k = true) ∧ St H H6 [pB 112 p (funL f)]) (fun n _ => 256 - n) ?_ ?_
                · (conv => whnf)
                  exact ⟨1, rfl, Nat.le_refl _, by omega, fun k h1 h2 => by omega, st4⟩
                · clear st4
                  rintro n H6 junk6 ⟨hn1, hn2, hrun, st6⟩
                  by_cases hj2 : i + n < 256
                  · have d4 : decide ((i : Int) + (n : Int) < 256) = true := decide_eq_true (by omega)
                    (conv => whnf); rw [w64 (x := (i : Int) + (n : Int)) (by omega) (by omega)]
                    (conv => whnf); rw [d4]
                    (conv => whnf); rw [w64 (x := (i : Int) + (n : Int)) (by omega) (by omega)]
                    (conv => whnf); refine ixa ar112 (by omega) (by omega) ?_
                    rw [show 0 + ((i : Int) + (n : Int)).toNat * 1 = i + n by omega]
                    (conv => whnf); refine ld1 (v := .bool (f (i + n))) ct4 (by rw [(st6.blk 0 rfl).cell]; exact funL_at hj2) trivial ?_
                    (conv => whnf); refine eqZ (by kernel_rfl) (htk (i + n) hj2) ?_
                    cases htj : t (i + n) with
                    | true =>
                      (conv => whnf); rw [w64 (x := (n : Int) + 1) (by omega) (by omega)]
                      refine ⟨rfl, n + 1, by simp, ⟨by omega, by omega, fun k h1 h2 => ?_, st6⟩, by omega⟩
                      rcases Nat.lt_or_eq_of_le (show k ≤ i + n by omega) with h2 | rfl
                      · exact hrun k h1 h2
                      · exact htj
                    | false =>
                      have he : i + n - 1 = 255 ∨ t (i + n - 1 + 1) = false := .inr (by rw [show i + n - 1 + 1 = i + n by omega]; exact htj)
                      have hbr := bod_one hti hpr (j := i + n - 1) (by omega) (by omega) (fun k h1 h2 => hrun k h1 (by omega)) he
                      have hil : (sglM i (spB innS i)).length ≤ 4 := sgl_len _ _
                      have hjl : (sglM (i + n - 1) (spB innS (i + n - 1))).length ≤ 4 := sgl_len _ _
                      (conv => whnf); rw [w8 (x := (i : Int)) (by omega) (by omega)]
                      (conv => whnf); refine pures (inner_p hi8) fun H8 ha8 => ?_
                      have st8 := st6.call ha8
                      (conv => whnf); refine pures (one_p hi8) fun H9 ha9 => ?_
                      have st9 := st8.call ha9
                      (conv => whnf); refine vcat (cat_sz (by rw [List.length_append]; omega) (show (sglM i (spB innS i)).length ≤ 4096 by omega)) ?_
                      rw [bA_cat]
                      (conv => whnf); rw [w64 (x := (i : Int) + (n : Int)) (by omega) (by omega)]
                      (conv => whnf); rw [w64 (x := (i : Int) + (n : Int) - 1) (by omega) (by omega)]
                      (conv => whnf); rw [w8 (x := (i : Int) + (n : Int) - 1) (by omega) (by omega)]
                      rw [show (i : Int) + (n : Int) - 1 = ((i + n - 1 : Nat) : Int) by omega]
                      (conv => whnf); refine VSeq.run ?_
                      rcases (show n = 1 ∨ n = 2 ∨ 2 < n by omega) with hc3 | hc3 | hc3
                      · have e1 : decide ((n : Int) > 2) = false := decide_eq_false (by omega)
                        have e2 : decide ((n : Int) > 1) = false := decide_eq_false (by omega)
                        (conv => whnf); rw [e1]
                        (conv => whnf); rw [e2]
                        (conv => whnf); rw [w64 (x := (i : Int) + 1) (by omega) (by omega)]
                        refine ⟨rfl, i + 1, ?_, ⟨by omega, st9⟩, by omega⟩
                        rw [hbr]
                        unfold rngM
                        rw [if_neg (by omega), if_neg (by omega)]
                        simp
                      · have e1 : decide ((n : Int) > 2) = false := decide_eq_false (by omega)
                        have e2 : decide ((n : Int) > 1) = true := decide_eq_true (by omega)
                        (conv => whnf); rw [e1]
                        (conv => whnf); rw [e2]
                        (conv => whnf); refine pures (inner_p (show i + n - 1 < 256 by omega)) fun H10 ha10 => ?_
                        have st10 := st9.call ha10
                        (conv => whnf); refine pures (one_p (show i + n - 1 < 256 by omega)) fun H11 ha11 => ?_
                        have st11 := st10.call ha11
                        (conv => whnf); refine vcat (cat_sz (by simp only [List.length_append, List.length_singleton]; omega) (show (sglM (i + n - 1) (spB innS (i + n - 1))).length ≤ 4096 by omega)) ?_
                        rw [bA_cat]
                        (conv => whnf); rw [w64 (x := (i : Int) + 1) (by omega) (by omega)]
                        refine ⟨rfl, i + 1, ?_, ⟨by omega, st11⟩, by omega⟩
                        rw [hbr]
                        unfold rngM
                        rw [if_neg (by omega), if_pos (by omega)]
                        simp
                      · have e1 : decide ((n : Int) > 2) = true := decide_eq_true (by omega)
                        have e2 : decide ((n : Int) > 1) = true := decide_eq_true (by omega)
                        (conv => whnf); rw [e1]
                        (conv => whnf); refine vcat (cat_sz (v := [45]) (by simp only [List.length_append]; omega) (by decide)) ?_
                        rw [show (⟨#[45]⟩ : ByteArray) = bA [45] from rfl, bA_cat]
                        (conv => whnf); rw [e2]
                        (conv => whnf); refine pures (inner_p (show i + n - 1 < 256 by omega)) fun H10 ha10 => ?_
                        have st10 := st9.call ha10
                        (conv => whnf); refine pures (one_p (show i + n - 1 < 256 by omega)) fun H11 ha11 => ?_
                        have st11 := st10.call ha11
                        (conv => whnf); refine vcat (cat_sz (by simp only [List.length_append, List.length_singleton]; omega) (show (sglM (i + n - 1) (spB innS (i + n - 1))).length ≤ 4096 by omega)) ?_
                        rw [bA_cat]
                        (conv => whnf); rw [w64 (x := (i : Int) + 1) (by omega) (by omega)]
                        refine ⟨rfl, i + 1, ?_, ⟨by omega, st11⟩, by omega⟩
                        rw [hbr]
                        unfold rngM
                        rw [if_pos (by omega), if_pos (by omega)]
                        simp
                  · have d4 : decide ((i : Int) + (n : Int) < 256) = false := decide_eq_false (by omega)
                    have he : i + n - 1 = 255 ∨ t (i + n - 1 + 1) = false := .inl (by omega)
                    (conv => whnf); rw [w64 (x := (i : Int) + (n : Int)) (by omega) (by omega)]
                    (conv => whnf); rw [d4]
                    have hbr := bod_one hti hpr (j := i + n - 1) (by omega) (by omega) (fun k h1 h2 => hrun k h1 (by omega)) he
                    have hil : (sglM i (spB innS i)).length ≤ 4 := sgl_len _ _
                    have hjl : (sglM (i + n - 1) (spB innS (i + n - 1))).length ≤ 4 := sgl_len _ _
                    (conv => whnf); rw [w8 (x := (i : Int)) (by omega) (by omega)]
                    (conv => whnf); refine pures (inner_p hi8) fun H8 ha8 => ?_
                    have st8 := st6.call ha8
                    (conv => whnf); refine pures (one_p hi8) fun H9 ha9 => ?_
                    have st9 := st8.call ha9
                    (conv => whnf); refine vcat (cat_sz (by rw [List.length_append]; omega) (show (sglM i (spB innS i)).length ≤ 4096 by omega)) ?_
                    rw [bA_cat]
                    (conv => whnf); rw [w64 (x := (i : Int) + (n : Int)) (by omega) (by omega)]
                    (conv => whnf); rw [w64 (x := (i : Int) + (n : Int) - 1) (by omega) (by omega)]
                    (conv => whnf); rw [w8 (x := (i : Int) + (n : Int) - 1) (by omega) (by omega)]
                    rw [show (i : Int) + (n : Int) - 1 = ((i + n - 1 : Nat) : Int) by omega]
                    (conv => whnf); refine VSeq.run ?_
                    rcases (show n = 1 ∨ n = 2 ∨ 2 < n by omega) with hc3 | hc3 | hc3
                    · have e1 : decide ((n : Int) > 2) = false := decide_eq_false (by omega)
                      have e2 : decide ((n : Int) > 1) = false := decide_eq_false (by omega)
                      (conv => whnf); rw [e1]
                      (conv => whnf); rw [e2]
                      (conv => whnf); rw [w64 (x := (i : Int) + 1) (by omega) (by omega)]
                      refine ⟨rfl, i + 1, ?_, ⟨by omega, st9⟩, by omega⟩
                      rw [hbr]
                      unfold rngM
                      rw [if_neg (by omega), if_neg (by omega)]
                      simp
                    · have e1 : decide ((n : Int) > 2) = false := decide_eq_false (by omega)
                      have e2 : decide ((n : Int) > 1) = true := decide_eq_true (by omega)
                      (conv => whnf); rw [e1]
                      (conv => whnf); rw [e2]
                      (conv => whnf); refine pures (inner_p (show i + n - 1 < 256 by omega)) fun H10 ha10 => ?_
                      have st10 := st9.call ha10
                      (conv => whnf); refine pures (one_p (show i + n - 1 < 256 by omega)) fun H11 ha11 => ?_
                      have st11 := st10.call ha11
                      (conv => whnf); refine vcat (cat_sz (by simp only [List.length_append, List.length_singleton]; omega) (show (sglM (i + n - 1) (spB innS (i + n - 1))).length ≤ 4096 by omega)) ?_
                      rw [bA_cat]
                      (conv => whnf); rw [w64 (x := (i : Int) + 1) (by omega) (by omega)]
                      refine ⟨rfl, i + 1, ?_, ⟨by omega, st11⟩, by omega⟩
                      rw [hbr]
                      unfold rngM
                      rw [if_neg (by omega), if_pos (by omega)]
                      simp
                    · have e1 : decide ((n : Int) > 2) = true := decide_eq_true (by omega)
                      have e2 : decide ((n : Int) > 1) = true := decide_eq_true (by omega)
                      (conv => whnf); rw [e1]
                      (conv => whnf); refine vcat (cat_sz (v := [45]) (by simp only [List.length_append]; omega) (by decide)) ?_
                      rw [show (⟨#[45]⟩ : ByteArray) = bA [45] from rfl, bA_cat]
                      (conv => whnf); rw [e2]
                      (conv => whnf); refine pures (inner_p (show i + n - 1 < 256 by omega)) fun H10 ha10 => ?_
                      have st10 := st9.call ha10
                      (conv => whnf); refine pures (one_p (show i + n - 1 < 256 by omega)) fun H11 ha11 => ?_
                      have st11 := st10.call ha11
                      (conv => whnf); refine vcat (cat_sz (by simp only [List.length_append, List.length_singleton]; omega) (show (sglM (i + n - 1) (spB innS (i + n - 1))).length ≤ 4096 by omega)) ?_
                      rw [bA_cat]
                      (conv => whnf); rw [w64 (x := (i : Int) + 1) (by omega) (by omega)]
                      refine ⟨rfl, i + 1, ?_, ⟨by omega, st11⟩, by omega⟩
                      rw [hbr]
                      unfold rngM
                      rw [if_pos (by omega), if_pos (by omega)]
                      simp
            · have d3 : decide ((i : Int) > 0) = false := decide_eq_false (by omega)
              have hpr : i = 0 ∨ t (i - 1) = false := .inl (by omega)
              (conv => whnf); rw [d3]
              (conv => whnf)
              refine VLoop.mk [8] (fun n : Nat => [.int .i64 (n : Int)]) (fun n H6 => 1 ≤ n ∧ i + n ≤ 256 ∧ (∀ k, i < k → k < i + n → t k = true) ∧ St H H6 [pB 112 p (funL f)]) (fun n _ => 256 - n) ?_ ?_
              · (conv => whnf)
                exact ⟨1, rfl, Nat.le_refl _, by omega, fun k h1 h2 => by omega, st4⟩
              · clear st4
                rintro n H6 junk6 ⟨hn1, hn2, hrun, st6⟩
                by_cases hj2 : i + n < 256
                · have d4 : decide ((i : Int) + (n : Int) < 256) = true := decide_eq_true (by omega)
                  (conv => whnf); rw [w64 (x := (i : Int) + (n : Int)) (by omega) (by omega)]
                  (conv => whnf); rw [d4]
                  (conv => whnf); rw [w64 (x := (i : Int) + (n : Int)) (by omega) (by omega)]
                  (conv => whnf); refine ixa ar112 (by omega) (by omega) ?_
                  rw [show 0 + ((i : Int) + (n : Int)).toNat * 1 = i + n by omega]
                  (conv => whnf); refine ld1 (v := .bool (f (i + n))) ct4 (by rw [(st6.blk 0 rfl).cell]; exact funL_at hj2) trivial ?_
                  (conv => whnf); refine eqZ (by kernel_rfl) (htk (i + n) hj2) ?_
                  cases htj : t (i + n) with
                  | true =>
                    (conv => whnf); rw [w64 (x := (n : Int) + 1) (by omega) (by omega)]
                    refine ⟨rfl, n + 1, by simp, ⟨by omega, by omega, fun k h1 h2 => ?_, st6⟩, by omega⟩
                    rcases Nat.lt_or_eq_of_le (show k ≤ i + n by omega) with h2 | rfl
                    · exact hrun k h1 h2
                    · exact htj
                  | false =>
                    have he : i + n - 1 = 255 ∨ t (i + n - 1 + 1) = false := .inr (by rw [show i + n - 1 + 1 = i + n by omega]; exact htj)
                    have hbr := bod_one hti hpr (j := i + n - 1) (by omega) (by omega) (fun k h1 h2 => hrun k h1 (by omega)) he
                    have hil : (sglM i (spB innS i)).length ≤ 4 := sgl_len _ _
                    have hjl : (sglM (i + n - 1) (spB innS (i + n - 1))).length ≤ 4 := sgl_len _ _
                    (conv => whnf); rw [w8 (x := (i : Int)) (by omega) (by omega)]
                    (conv => whnf); refine pures (inner_p hi8) fun H8 ha8 => ?_
                    have st8 := st6.call ha8
                    (conv => whnf); refine pures (one_p hi8) fun H9 ha9 => ?_
                    have st9 := st8.call ha9
                    (conv => whnf); refine vcat (cat_sz (by rw [List.length_append]; omega) (show (sglM i (spB innS i)).length ≤ 4096 by omega)) ?_
                    rw [bA_cat]
                    (conv => whnf); rw [w64 (x := (i : Int) + (n : Int)) (by omega) (by omega)]
                    (conv => whnf); rw [w64 (x := (i : Int) + (n : Int) - 1) (by omega) (by omega)]
                    (conv => whnf); rw [w8 (x := (i : Int) + (n : Int) - 1) (by omega) (by omega)]
                    rw [show (i : Int) + (n : Int) - 1 = ((i + n - 1 : Nat) : Int) by omega]
                    (conv => whnf); refine VSeq.run ?_
                    rcases (show n = 1 ∨ n = 2 ∨ 2 < n by omega) with hc3 | hc3 | hc3
                    · have e1 : decide ((n : Int) > 2) = false := decide_eq_false (by omega)
                      have e2 : decide ((n : Int) > 1) = false := decide_eq_false (by omega)
                      (conv => whnf); rw [e1]
                      (conv => whnf); rw [e2]
                      (conv => whnf); rw [w64 (x := (i : Int) + 1) (by omega) (by omega)]
                      refine ⟨rfl, i + 1, ?_, ⟨by omega, st9⟩, by omega⟩
                      rw [hbr]
                      unfold rngM
                      rw [if_neg (by omega), if_neg (by omega)]
                      simp
                    · have e1 : decide ((n : Int) > 2) = false := decide_eq_false (by omega)
                      have e2 : decide ((n : Int) > 1) = true := decide_eq_true (by omega)
                      (conv => whnf); rw [e1]
                      (conv => whnf); rw [e2]
                      (conv => whnf); refine pures (inner_p (show i + n - 1 < 256 by omega)) fun H10 ha10 => ?_
                      have st10 := st9.call ha10
                      (conv => whnf); refine pures (one_p (show i + n - 1 < 256 by omega)) fun H11 ha11 => ?_
                      have st11 := st10.call ha11
                      (conv => whnf); refine vcat (cat_sz (by simp only [List.length_append, List.length_singleton]; omega) (show (sglM (i + n - 1) (spB innS (i + n - 1))).length ≤ 4096 by omega)) ?_
                      rw [bA_cat]
                      (conv => whnf); rw [w64 (x := (i : Int) + 1) (by omega) (by omega)]
                      refine ⟨rfl, i + 1, ?_, ⟨by omega, st11⟩, by omega⟩
                      rw [hbr]
                      unfold rngM
                      rw [if_neg (by omega), if_pos (by omega)]
                      simp
                    · have e1 : decide ((n : Int) > 2) = true := decide_eq_true (by omega)
                      have e2 : decide ((n : Int) > 1) = true := decide_eq_true (by omega)
                      (conv => whnf); rw [e1]
                      (conv => whnf); refine vcat (cat_sz (v := [45]) (by simp only [List.length_append]; omega) (by decide)) ?_
                      rw [show (⟨#[45]⟩ : ByteArray) = bA [45] from rfl, bA_cat]
                      (conv => whnf); rw [e2]
                      (conv => whnf); refine pures (inner_p (show i + n - 1 < 256 by omega)) fun H10 ha10 => ?_
                      have st10 := st9.call ha10
                      (conv => whnf); refine pures (one_p (show i + n - 1 < 256 by omega)) fun H11 ha11 => ?_
                      have st11 := st10.call ha11
                      (conv => whnf); refine vcat (cat_sz (by simp only [List.length_append, List.length_singleton]; omega) (show (sglM (i + n - 1) (spB innS (i + n - 1))).length ≤ 4096 by omega)) ?_
                      rw [bA_cat]
                      (conv => whnf); rw [w64 (x := (i : Int) + 1) (by omega) (by omega)]
                      refine ⟨rfl, i + 1, ?_, ⟨by omega, st11⟩, by omega⟩
                      rw [hbr]
                      unfold rngM
                      rw [if_pos (by omega), if_pos (by omega)]
                      simp
                · have d4 : decide ((i : Int) + (n : Int) < 256) = false := decide_eq_false (by omega)
                  have he : i + n - 1 = 255 ∨ t (i + n - 1 + 1) = false := .inl (by omega)
                  (conv => whnf); rw [w64 (x := (i : Int) + (n : Int)) (by omega) (by omega)]
                  (conv => whnf); rw [d4]
                  have hbr := bod_one hti hpr (j := i + n - 1) (by omega) (by omega) (fun k h1 h2 => hrun k h1 (by omega)) he
                  have hil : (sglM i (spB innS i)).length ≤ 4 := sgl_len _ _
                  have hjl : (sglM (i + n - 1) (spB innS (i + n - 1))).length ≤ 4 := sgl_len _ _
                  (conv => whnf); rw [w8 (x := (i : Int)) (by omega) (by omega)]
                  (conv => whnf); refine pures (inner_p hi8) fun H8 ha8 => ?_
                  have st8 := st6.call ha8
                  (conv => whnf); refine pures (one_p hi8) fun H9 ha9 => ?_
                  have st9 := st8.call ha9
                  (conv => whnf); refine vcat (cat_sz (by rw [List.length_append]; omega) (show (sglM i (spB innS i)).length ≤ 4096 by omega)) ?_
                  rw [bA_cat]
                  (conv => whnf); rw [w64 (x := (i : Int) + (n : Int)) (by omega) (by omega)]
                  (conv => whnf); rw [w64 (x := (i : Int) + (n : Int) - 1) (by omega) (by omega)]
                  (conv => whnf); rw [w8 (x := (i : Int) + (n : Int) - 1) (by omega) (by omega)]
                  rw [show (i : Int) + (n : Int) - 1 = ((i + n - 1 : Nat) : Int) by omega]
                  (conv => whnf); refine VSeq.run ?_
                  rcases (show n = 1 ∨ n = 2 ∨ 2 < n by omega) with hc3 | hc3 | hc3
                  · have e1 : decide ((n : Int) > 2) = false := decide_eq_false (by omega)
                    have e2 : decide ((n : Int) > 1) = false := decide_eq_false (by omega)
                    (conv => whnf); rw [e1]
                    (conv => whnf); rw [e2]
                    (conv => whnf); rw [w64 (x := (i : Int) + 1) (by omega) (by omega)]
                    refine ⟨rfl, i + 1, ?_, ⟨by omega, st9⟩, by omega⟩
                    rw [hbr]
                    unfold rngM
                    rw [if_neg (by omega), if_neg (by omega)]
                    simp
                  · have e1 : decide ((n : Int) > 2) = false := decide_eq_false (by omega)
                    have e2 : decide ((n : Int) > 1) = true := decide_eq_true (by omega)
                    (conv => whnf); rw [e1]
                    (conv => whnf); rw [e2]
                    (conv => whnf); refine pures (inner_p (show i + n - 1 < 256 by omega)) fun H10 ha10 => ?_
                    have st10 := st9.call ha10
                    (conv => whnf); refine pures (one_p (show i + n - 1 < 256 by omega)) fun H11 ha11 => ?_
                    have st11 := st10.call ha11
                    (conv => whnf); refine vcat (cat_sz (by simp only [List.length_append, List.length_singleton]; omega) (show (sglM (i + n - 1) (spB innS (i + n - 1))).length ≤ 4096 by omega)) ?_
                    rw [bA_cat]
                    (conv => whnf); rw [w64 (x := (i : Int) + 1) (by omega) (by omega)]
                    refine ⟨rfl, i + 1, ?_, ⟨by omega, st11⟩, by omega⟩
                    rw [hbr]
                    unfold rngM
                    rw [if_neg (by omega), if_pos (by omega)]
                    simp
                  · have e1 : decide ((n : Int) > 2) = true := decide_eq_true (by omega)
                    have e2 : decide ((n : Int) > 1) = true := decide_eq_true (by omega)
                    (conv => whnf); rw [e1]
                    (conv => whnf); refine vcat (cat_sz (v := [45]) (by simp only [List.length_append]; omega) (by decide)) ?_
                    rw [show (⟨#[45]⟩ : ByteArray) = bA [45] from rfl, bA_cat]
                    (conv => whnf); rw [e2]
                    (conv => whnf); refine pures (inner_p (show i + n - 1 < 256 by omega)) fun H10 ha10 => ?_
                    have st10 := st9.call ha10
                    (conv => whnf); refine pures (one_p (show i + n - 1 < 256 by omega)) fun H11 ha11 => ?_
                    have st11 := st10.call ha11
                    (conv => whnf); refine vcat (cat_sz (by simp only [List.length_append, List.length_singleton]; omega) (show (sglM (i + n - 1) (spB innS (i + n - 1))).length ≤ 4096 by omega)) ?_
                    rw [bA_cat]
                    (conv => whnf); rw [w64 (x := (i : Int) + 1) (by omega) (by omega)]
                    refine ⟨rfl, i + 1, ?_, ⟨by omega, st11⟩, by omega⟩
                    rw [hbr]
                    unfold rngM
                    rw [if_pos (by omega), if_pos (by omega)]
                    simp
        · obtain rfl : i = 256 := by omega
          (conv => whnf); refine vcat (cat_sz (v := [93]) (by rw [List.length_append]; exact Nat.le_trans (hbl 256 (Nat.le_refl _)) (by decide)) (by decide)) ?_
          rw [show (⟨#[93]⟩ : ByteArray) = bA [93] from rfl, bA_cat]
          (conv => whnf)
          exact ⟨rfl, st4.old⟩
end Go.Proofs.YthomdogheamfpaaDoor
/- Nondeterministic automata, plain: what silent edges reach, what a text reaches. -/
set_option linter.unusedVariables false
set_option linter.unusedSimpArgs false
namespace Go.Proofs.YthomdogheamfpaaDoor
open Go.VC
structure EdM where
  fr : Int
  to : Int
  sil : Bool
  set : BitVec 256
structure NfM where
  st : Int
  start : Int
  fin : Int
  edges : List EdM
def NfM.has (a : NfM) (q : Int) : Bool := decide (0 ≤ q) && decide (q < a.st) && decide (a.st ≤ 65536)
/-- What silent edges reach. -/
inductive Sils (a : NfM) : Int → Int → Prop
  | refl (p : Int) : Sils a p p
  | step {p : Int} {e : EdM} : Sils a p e.fr → e ∈ a.edges → e.sil = true → a.has e.to = true → Sils a p e.to
abbrev PS := Int → Prop
def clS (a : NfM) (X : PS) : PS := fun q => ∃ p, X p ∧ Sils a p q
def hopS (a : NfM) (X : PS) (b : Nat) : PS := fun q => ∃ e ∈ a.edges, e.sil = false ∧ e.set.getLsbD b = true ∧ X e.fr ∧ a.has e.to = true ∧ q = e.to
def goS (a : NfM) (X : PS) (b : Nat) : PS := clS a (hopS a X b)
/-! ### sorted lists -/
open Classical in
/-- The list of a set of states, rising. -/
noncomputable def lstS (X : PS) : List Int := ((List.range 65536).map fun (n : Nat) => (n : Int)).filter fun q => decide (X q)
/-! ### a text of two parts -/
/-! ### turned round -/
/-- A way through the automaton that reads a text. -/
inductive Way (a : NfM) : Int → List Nat → Int → Prop
  | nil {p : Int} : a.has p = true → Way a p [] p
  | sil {e : EdM} {s : List Nat} {q : Int} : e ∈ a.edges → e.sil = true → a.has e.fr = true → Way a e.to s q → Way a e.fr s q
  | hop {e : EdM} {b : Nat} {s : List Nat} {q : Int} : e ∈ a.edges → e.sil = false → e.set.getLsbD b = true → a.has e.fr = true → Way a e.to s q → Way a e.fr (b :: s) q
end Go.Proofs.YthomdogheamfpaaDoor
/- Taking a map's slice out, and laying it again by an update. -/
set_option linter.unusedVariables false
set_option linter.unusedSimpArgs false
namespace Go.VC
section
variable {α β : Type} {Ok : α → Prop} {enc : α → Value} {T : Ty β} {e : TypeId} {b : Nat} {m : α → Option Value} {xs : α → List β} {B : Nat → Prop} {H0 H H' : Heap} {ps : List Pc} {P : Program} {t kt et : TypeId} {a : α}
end
end Go.VC
/- Nondeterministic automata in memory. -/
set_option linter.unusedVariables false
set_option linter.unusedSimpArgs false
set_option maxRecDepth 100000
namespace Go.Proofs.YthomdogheamfpaaDoor
open Go.VC
/-- An edge of the program's. -/
def edL (e : EdM) : List Value := [.int .i64 e.fr, .int .i64 e.to, .bool e.sil, .int .u64 (wd e.set 0), .int .u64 (wd e.set 1), .int .u64 (wd e.set 2), .int .u64 (wd e.set 3)]
def EdM.Ok (e : EdM) : Prop := inK .i64 e.fr ∧ inK .i64 e.to
def tEd : Ty EdM where
  size := 7
  rep _ _ cs e := cs = edL e ∧ e.Ok
  len h := by rw [h.1]; rfl
  frame h _ := h
  mono h _ := h
section
variable {S S' : Nat → Prop} {H H' : Heap} {v : Value} {a : NfM}
end
/-! ### has -/
end Go.Proofs.YthomdogheamfpaaDoor
/- Regions whose order is open, with operations under conditions. -/
set_option linter.unusedVariables false
set_option linter.unusedSimpArgs false
namespace Go.VC
/-- An operation's condition: what is asked where it is wanted, and where it isn't. -/
def whenK (all : List Oper) (o : Oper) (fr : Fr) (yes no : Fr → Prop) : Prop :=
  match o.guard with
  | none => yes fr
  | some (j, want) => match (all[j]?).bind (·.dst) with
    | none => False
    | some t => rdK fr t fun v => match v with
      | .bool b => VIte b
        (wrK fr t (.bool true) fun fr1 => match want with
          | true => yes fr1
          | false => no fr1)
        (wrK fr t (.bool false) fun fr1 => match want with
          | false => yes fr1
          | true => no fr1)
      | .tuple _ => no fr
      | _ => False
theorem whenK_sound {all : List Oper} {o : Oper} {fr : Fr} {a : Act} {yes no : Fr → Prop} (hat : At fr a) (h : whenK all o fr yes no) :
    (Region.wanted o (yielded all.toArray a.tmps) = true ∧ yes fr) ∨ (Region.wanted o (yielded all.toArray a.tmps) = false ∧ no fr) := by
  unfold whenK at h
  split at h
  · rename_i hg
    exact .inl ⟨by simp [Region.wanted, hg], h⟩
  · rename_i j want hg
    split at h
    · exact h.elim
    · rename_i t ht
      rw [rdK_eq] at h
      split at h
      · rename_i b hb
        have hy := yielded_at hat ht hb
        have hs : fr.set t (.bool b) = fr := rd_set_self hb (by simp [undef])
        cases b <;> cases want <;> simp only [VIte, wrK_eq, hs] at h
        · exact .inl ⟨by simp [Region.wanted, hg, hy], h⟩
        · exact .inr ⟨by simp [Region.wanted, hg, hy], h⟩
        · exact .inr ⟨by simp [Region.wanted, hg, hy], h⟩
        · exact .inl ⟨by simp [Region.wanted, hg, hy], h⟩
      · rename_i vs hb
        exact .inr ⟨by simp [Region.wanted, hg, yielded_no hat ht hb], h⟩
      · exact h.elim
def skipG (o : Oper) (H : Heap) (K : Fr → Heap → Prop) (fr : Fr) : Prop := putK o.dst fr undef fun fr' => apK K fr' H
def quietG (P : Program) (S : Nat → Prop) (o : Oper) (H : Heap) (K : Fr → Heap → Prop) (fr : Fr) : Prop :=
  match isDet o && convDet P o with
  | true => detK P S o fr H fun v => putK o.dst fr v fun fr' => apK K fr' H
  | false => False
def doG (P : Program) (S : Nat → Prop) (z : Bool) (H0 : Heap) (o : Oper) (H : Heap) (K : Fr → Heap → Prop) (fr : Fr) : Prop :=
  match z with
  | true => opK P false (fun _ => True) o fr H fun v H' => putK o.dst fr v fun fr' => apK K fr' H'
  | false => opK P false (fun _ => True) o fr H fun v H' => Agr S H0 H' ∧ putK o.dst fr v fun fr' => apK K fr' H'
def stepG (P : Program) (S : Nat → Prop) (Z : List Nat) (H0 : Heap) (all : List Oper) (i : Nat) (fr : Fr) (H : Heap) (next : Fr → Heap → Prop) : Prop :=
  match all[i]? with
  | none => False
  | some o => whenK all o fr (doG P S (Z.contains i) H0 o H next) (skipG o H next)
def heldG (P : Program) (S : Nat → Prop) (Z : List Nat) (H0 : Heap) (all : List Oper) (s : Sch) : Fr → Heap → (Fr → Heap → Prop) → Prop :=
  Sch.rec (motive := fun _ => Fr → Heap → (Fr → Heap → Prop) → Prop) (fun fr H K => K fr H)
    (fun i _ ih fr H K => match all[i]? with
      | none => False
      | some o => whenK all o fr (quietG P S o H fun fr' H' => ih fr' H' K) (skipG o H fun fr' H' => ih fr' H' K))
    (fun i _ ih fr H K => stepG P S Z H0 all i fr H fun fr' H' => ih fr' H' K)
    (fun i _ j _ ih ih' fr H K => (stepG P S Z H0 all i fr H fun fr' H' => ih fr' H' K) ∧ stepG P S Z H0 all j fr H fun fr' H' => ih' fr' H' K) s
theorem heldG_q (P : Program) (S : Nat → Prop) (Z : List Nat) (H0 : Heap) (all : List Oper) (i : Nat) (s : Sch) (fr : Fr) (H : Heap) (K : Fr → Heap → Prop) : heldG P S Z H0 all (.q i s) fr H K =
    (match all[i]? with
      | none => False
      | some o => whenK all o fr (quietG P S o H fun fr' H' => heldG P S Z H0 all s fr' H' K) (skipG o H fun fr' H' => heldG P S Z H0 all s fr' H' K)) := rfl
theorem stepG_sound {P : Program} {S : Nat → Prop} {Z : List Nat} {w0 : World} {all : List Oper} {Q : Exit → Act → World → Prop} {i : Nat} {fr : Fr} {a : Act} {w : World} {next : Fr → Heap → Prop} {N : Act → World → Prop}
    (hat : At fr a) (hc : Env w0 w) (hcl : Z.contains i = false → Cls w0 S w) (h : stepG P S Z w0.heap all i fr w.heap next)
    (hn : ∀ fr' a' w', At fr' a' → Env w0 w' → (Z.contains i = false → Cls w0 S w') → next fr' w'.heap → N a' w') : wpOp P all.toArray Q i N a w := by
  unfold stepG at h
  split at h
  · exact h.elim
  · rename_i o ho
    have ho' : all.toArray[i]? = some o := by simpa using ho
    rcases whenK_sound hat h with ⟨hwant, h⟩ | ⟨hwant, h⟩
    · unfold wpOp
      rw [ho']
      dsimp only
      rw [if_pos hwant]
      unfold doG at h
      split at h
      · rename_i hz
        refine .inl (Oper.wp_mono ?_ (opK_sound hat h _))
        rintro a' w' ⟨v, rfl, henv, hk⟩
        rw [putK_eq] at hk
        exact hn _ _ _ (hat.put o.dst v) (hc.trans henv) (fun hne => by rw [hz] at hne; cases hne) hk
      · refine .inl (Oper.wp_mono ?_ (opK_sound hat h _))
        rintro a' w' ⟨v, rfl, henv, hagr, hk⟩
        rw [putK_eq] at hk
        exact hn _ _ _ (hat.put o.dst v) (hc.trans henv) (fun _ => ⟨hc.trans henv, hagr⟩) hk
    · unfold wpOp
      rw [ho']
      dsimp only
      rw [if_neg (by rw [hwant]; exact Bool.false_ne_true)]
      unfold skipG at h
      rw [putK_eq] at h
      exact hn _ _ _ (hat.put o.dst undef) hc hcl h
theorem heldG_sound {P : Program} {S : Nat → Prop} {Z : List Nat} {w0 : World} {all : List Oper} {Q : Exit → Act → World → Prop} (hs : Region.noSelect all.toArray = true)
    (hp : ∀ c a w, ¬ Q (.panic c) a w) : ∀ (l : Sch) (listed : Array Bool) (fr : Fr) (a : Act) (w : World) (K : Fr → Heap → Prop), At fr a → Env w0 w → (zAll Z l = false → Cls w0 S w) → Shut all.toArray listed →
    (∀ fr' a' w', At fr' a' → Env w0 w' → K fr' w'.heap → Q .normal a' w') → heldBZ all.toArray Z l listed = true → l.even = true →
    heldG P S Z w0.heap all l fr w.heap K → wpAnyZ P all.toArray Q (Cls w0 S) Z l.len listed a w
  | .e, listed, fr, a, w, K, hat, he, _, _, hq, hB, _, h => ⟨by simpa [heldBZ] using hB, hq fr a w hat he h⟩
  | .q i s, listed, fr, a, w, K, hat, he, hc, hsh, hq, hB, hev, h => by
    have hc := hc rfl
    simp only [heldBZ, Bool.and_eq_true, Bool.not_eq_true', List.all_eq_true] at hB
    obtain ⟨⟨⟨⟨b1, b2⟩, b3⟩, b4⟩, hB2⟩ := hB
    rw [heldG_q] at h
    split at h
    · exact h.elim
    · rename_i o ho
      have ho' : all.toArray[i]? = some o := by simpa using ho
      have hri : i ∈ Region.ready .any all.toArray listed := by simpa using b1
      rcases whenK_sound hat h with ⟨hwant, h⟩ | ⟨hwant, h⟩
      · unfold quietG at h
        split at h
        · obtain ⟨v, hv, hk⟩ := detK_sound h
          rw [putK_eq] at hk
          refine wpAnyZ_first (v := v) (f := all.toArray.size) ho' (Region.noSelect_spec hs) (fun c a' w' hh => (hp _ _ _ hh).elim) b3 (fun j hj => b4 j (by simpa using hj)) s.len listed a w hsh (Region.free_spec ho' b2) hri
            (.inl ⟨hwant, fun w' hw' => ?_⟩) hc ?_
          · rw [hat.evalF]
            exact hv w' fun k hk => (hw'.2 k hk).trans (hc.2 k hk).symm
          · exact heldG_sound hs hp s _ _ _ w K (hat.put o.dst v) he (fun _ => hc) (hsh.put hri) hq hB2 hev hk
        · exact h.elim
      · unfold skipG at h
        rw [putK_eq] at h
        exact wpAnyZ_first (v := undef) (f := all.toArray.size) ho' (Region.noSelect_spec hs) (fun c a' w' hh => (hp _ _ _ hh).elim) b3 (fun j hj => b4 j (by simpa using hj)) s.len listed a w hsh (Region.free_spec ho' b2) hri
          (.inr ⟨hwant, rfl⟩) hc (heldG_sound hs hp s _ _ _ w K (hat.put o.dst undef) he (fun _ => hc) (hsh.put hri) hq hB2 hev h)
  | .f i s, listed, fr, a, w, K, hat, he, hc, hsh, hq, hB, hev, h => by
    simp only [heldBZ, Bool.and_eq_true, Bool.or_eq_true, Bool.not_eq_true', beq_iff_eq] at hB
    obtain ⟨⟨b1, b2⟩, hB2⟩ := hB
    refine ⟨(fun h0 => by rw [b1] at h0; cases h0), fun j hj => ?_⟩
    have hj0 := hj
    rw [b1] at hj
    obtain rfl : j = i := by simpa using hj
    refine stepG_sound hat he (fun hz => hc (by simp only [zAll, hz, Bool.false_and])) h fun fr' a' w' h1 h2 h3 h4 => ⟨h3, heldG_sound hs hp s _ _ _ w' K h1 h2 (fun hz => ?_) (hsh.put hj0) hq hB2 hev h4⟩
    rcases b2 with b2 | b2
    · exact h3 b2
    · rw [b2] at hz; cases hz
  | .b i s j s', listed, fr, a, w, K, hat, he, hc, hsh, hq, hB, hev, h => by
    simp only [heldBZ, Bool.and_eq_true, Bool.or_eq_true, Bool.not_eq_true', beq_iff_eq] at hB
    obtain ⟨⟨⟨b1, b2⟩, hB2⟩, hB3⟩ := hB
    simp only [Sch.even, Bool.and_eq_true, beq_iff_eq] at hev
    obtain ⟨⟨e1, e2⟩, e3⟩ := hev
    refine ⟨(fun h0 => by rw [b1] at h0; cases h0), fun k hk => ?_⟩
    have hk0 := hk
    rw [b1] at hk
    rcases List.mem_cons.1 hk with rfl | hk
    · refine stepG_sound hat he (fun hz => hc (by simp only [zAll, hz, Bool.false_and])) h.1 fun fr' a' w' h1 h2 h3 h4 => ⟨h3, heldG_sound hs hp s _ _ _ w' K h1 h2 (fun hz => ?_) (hsh.put hk0) hq hB2 e1 h4⟩
      rcases b2 with b2 | b2
      · exact h3 b2.1
      · rw [b2.1] at hz; cases hz
    · obtain rfl : k = j := by simpa using hk
      rw [e3]
      refine stepG_sound hat he (fun hz => hc (by simp only [zAll, hz, Bool.and_false, Bool.false_and])) h.2 fun fr' a' w' h1 h2 h3 h4 => ⟨h3, heldG_sound hs hp s' _ _ _ w' K h1 h2 (fun hz => ?_) (hsh.put hk0) hq hB3 e2 h4⟩
      rcases b2 with b2 | b2
      · exact h3 b2.2
      · rw [b2.2] at hz; cases hz
theorem VDraw.heldG {P : Program} {l : List Oper} {fr : Fr} {H : Heap} {K : Fr → Heap → Prop} (S : Nat → Prop) (Z : List Nat) (sched : Sch) (hm : P.follows .mixedOrders = true)
    (hB : (Region.noSelect l.toArray && (sched.len == l.length) && sched.even && heldBZ l.toArray Z sched (Array.replicate l.length false)) = true)
    (h : VC.heldG P S Z H l sched fr H K) : VDraw P l fr H K := by
  refine ⟨?_⟩
  intro id Q a w hat hw hp hq
  subst hw
  simp only [Bool.and_eq_true, beq_iff_eq] at hB
  refine wp_region_any hm (wpAny_of_Z (S := Cls w S) (Z := Z) _ _ _ _ ?_)
  have hsh : Shut l.toArray (Array.replicate l.length false) := fun j o _ hj => by
    rw [Array.getD_eq_getD_getElem?, Array.getElem?_replicate] at hj
    split at hj <;> simp at hj
  have := heldG_sound (P := P) (S := S) (Z := Z) (w0 := w) (Q := Q) hB.1.1.1 hp sched (Array.replicate l.length false) fr a { w with drawn := w.drawn + 1 } K hat ⟨rfl, rfl, rfl⟩ (fun _ => ⟨⟨rfl, rfl, rfl⟩, Agr.refl _ _⟩) hsh hq hB.2 hB.1.2 h
  rw [hB.1.1.2] at this
  simpa using this
end Go.VC
/- The library's slices.Sort at []int, by the kit's shelf (laid by its tool); as an operation on own slices. -/
set_option linter.unusedVariables false
set_option linter.unusedSimpArgs false
set_option maxRecDepth 100000
namespace Go.VC
open Go.Sort
/-- A function that sorts ints. -/
structure SortsI (P : Program) (f : FuncId) : Prop where
  call : ∀ (args : Array Value) (w : World), (callFunc f args).run P w = .ok (.enter f args) w
  some_ : ∀ (blk off cap : Nat) (zs : List Int) (w : World), Holds (Value.int .i64) w blk off zs.toArray → blk < w.heap.size → zs.length < 4611686018427387904 →
    Calls P f #[.slice (some ⟨blk, off, none⟩) zs.length cap] w fun e w' => e = .returned (.tuple #[]) ∧ ∃ n os, w' = grow (putRow (Value.int .i64) (Sort.ahead w n) blk off (zs.mergeSort fun x y => decide (x ≤ y)).toArray) os
  none_ : ∀ (p : Option Addr) (cap : Nat) (w : World), Calls P f #[.slice p 0 cap] w fun e w' => e = .returned (.tuple #[]) ∧ w' = w
end Go.VC
namespace Go.Proofs.YthomdogheamfpaaDoor
open Go.VC
end Go.Proofs.YthomdogheamfpaaDoor
/- A range over a function: its rounds, and the code around it (the calculus once more, within a fence that holds everything). -/
set_option linter.unusedVariables false
set_option linter.unusedSimpArgs false
namespace Go.VC
/-- The fence that holds everything; ro: the round that the frame is of. -/
def FW (ro : Option Nat) : Fence := { Fence.wide with round := ro }
/-- The marks that loops over functions have left. -/
def marks (ds : List Nat) : List Deferred := ds.map fun D => { target := .collected D, args := #[] }
structure AtD (ds : List Nat) (fr : Fr) (a : Act) : Prop where
  tmps : a.tmps.toList = fr
  defers : a.defers = marks ds
/-! ### yield -/
/-- A call of yield. -/
structure VRound (P : Program) (l : Nat) (args : Array Value) (H : Heap) (K : Value → Heap → Prop) : Prop where
  in_ ::
  out_ : ∀ w : World, w.heap = H → ∃ f tmps assign body, (Instr.yield l args).run P w = .ok (.round l f tmps assign body) w ∧ RoundIn (FW none) 0 P l f tmps assign body w fun e w' => ∃ v, e = .returned v ∧ Env w w' ∧ K v w'.heap
/-- One operation; a call of yield is taken in, a deferred call is not. -/
def yK (P : Program) (o : Oper) (fr : Fr) (H : Heap) (K : Value → Heap → Prop) : Prop :=
  match o.op with
  | .call { callee := .value f, args, .. } => evK fr f fun g => match g with
    | .func (.yield l) first cap => evsK fr args.toList fun vs => VRound P l (first.toList ++ vs).toArray H K
    | _ => opK P false (fun _ => True) o fr H K
  | .defer _ => False
  | _ => opK P false (fun _ => True) o fr H K
/-- An operation under a condition. -/
def guardYK (P : Program) (o : Oper) (want : Bool) (t : Nat) (fr : Fr) (H : Heap) (K : Fr → Heap → Prop) : Prop :=
  rdK fr t fun v => match v with
    | .bool b => VIte b
      (wrK fr t (.bool true) fun fr1 => match want with
        | true => yK P o fr1 H fun v H' => putK o.dst fr1 v fun fr' => apK K fr' H'
        | false => putK o.dst fr1 undef fun fr' => apK K fr' H)
      (wrK fr t (.bool false) fun fr1 => match want with
        | false => yK P o fr1 H fun v H' => putK o.dst fr1 v fun fr' => apK K fr' H'
        | true => putK o.dst fr1 undef fun fr' => apK K fr' H)
    | .tuple _ => putK o.dst fr undef fun fr' => apK K fr' H
    | _ => False
/-! ### code -/
abbrev KD := Fr → List Nat → Heap → Prop
def LiftD (w0 : World) (Q : Exit → Fr → List Nat → Heap → Prop) : Exit → Act → World → Prop
  | .panic _, _, _ => False
  | .outgrown, _, _ => False
  | e, a, w => ∃ fr ds, AtD ds fr a ∧ Env w0 w ∧ Q e fr ds w.heap
def exitKD (X : List (Nat × KD)) (id : Nat) (fr : Fr) (ds : List Nat) (H : Heap) : Prop :=
  match X with
  | [] => False
  | (j, k) :: X => match Nat.beq j id with
    | true => k fr ds H
    | false => exitKD X id fr ds H
def QxD (kn : KD) (X : List (Nat × KD)) (kr : KD) (e : Exit) (fr : Fr) (ds : List Nat) (H : Heap) : Prop :=
  match e with
  | .normal => kn fr ds H
  | .exit id => exitKD X id fr ds H
  | .ret => kr fr ds H
  | _ => False
structure VLoopD (P : Program) (ro : Option Nat) (c : Code) (fr : Fr) (ds : List Nat) (H : Heap) (X : List (Nat × KD)) (kr : KD) : Prop where
  in_ ::
  out_ : ∀ (n : Nat) (a : Act) (w : World), AtD ds fr a → w.heap = H → (Code.loop c).wpIn (FW ro) n P (LiftD w (QxD (fun _ _ _ => False) X kr)) a w
/-- A range over a function. -/
structure VRF (P : Program) (g : Operand) (ps : Array Tmp) (assign body : Code) (fr : Fr) (ds : List Nat) (H : Heap) (kn : KD) (X : List (Nat × KD)) (kr : KD) : Prop where
  in_ ::
  out_ : ∀ (n : Nat) (a : Act) (w : World), AtD ds fr a → w.heap = H → (Code.rangeFunc g ps assign body).wpIn (FW none) n P (LiftD w (QxD kn X kr)) a w
section
variable (P : Program) (ro : Option Nat) (a b : Code) (fr : Fr) (ds : List Nat) (H : Heap) (kn : KD) (X : List (Nat × KD)) (kr : KD)
end
/-! ### loops -/
/-! ### functions -/
/-- A function's end: the marks are taken, then the results are read. -/
structure VRet (P : Program) (rs : List ResultVar) (R : Value → Heap → Prop) (fr : Fr) (ds : List Nat) (H : Heap) : Prop where
  in_ ::
  nd : ds.Nodup
  open_ : ∀ D ∈ ds, H[D]? = some (.deferred (some []))
  res : ∀ H', Agr (fun k => k ∉ ds) H H' → H'.size = H.size → resK P rs fr H' R
/-! ### the statement, and its rounds -/
end Go.VC
/- Appending to an own slice that is used on as it was; pieces in another order, bundled, put aside. -/
set_option linter.unusedVariables false
set_option linter.unusedSimpArgs false
namespace Go.VC
section
variable {B : Nat → Prop} {H0 H : Heap} {ps qs : List Pc} {p : Pc}
end
section
variable {α : Type} {T : Ty α} {e : TypeId} {a : Option Addr} {n cap : Nat} {xs : List α} {B : Nat → Prop} {H0 H : Heap} {p1 p2 : Pc} {rest : List Pc}
end
end Go.VC
/- slices.Sorted of maps.Keys of a map of ints: the walk. -/
set_option linter.unusedVariables false
set_option linter.unusedSimpArgs false
set_option maxRecDepth 100000
namespace Go.VC
section
variable {B : Nat → Prop} {H0 H : Heap} {ps rest : List Pc}
end
end Go.VC
namespace Go.Proofs.YthomdogheamfpaaDoor
open Go.VC
abbrev kI : Int → Value := Value.int .i64
theorem keyIW : KeyW Tryd.prog 3 (anyK (α := Int)) kI := KeyW.ofE Tryd.underlying3 (keyI .i64)
theorem mapII : MapTW Tryd.prog 88 3 3 (.int .i64 0) := ⟨rfl, rfl⟩
abbrev Dom (mm : Int → Option Value) : Int → Prop := fun q => (mm q).isSome = true
abbrev tIk : Ty Int := tInt .i64
theorem kint {x : Int} (h : 0 ≤ x ∧ x < 65536) : inK .i64 x := ⟨by simp [IntKind.min, IntKind.signed, IntKind.bits]; omega, by simp [IntKind.max, IntKind.signed, IntKind.bits]; omega⟩
end Go.Proofs.YthomdogheamfpaaDoor
/- nfa.ways, nfa.settle: the walks. -/
set_option linter.unusedVariables false
set_option linter.unusedSimpArgs false
set_option maxRecDepth 100000
namespace Go.VC
end Go.VC
namespace Go.Proofs.YthomdogheamfpaaDoor
open Go.VC
/-- The edges that leave q. -/
def outP (a : NfM) (q : Int) (e : EdM) : Bool := a.has e.fr && a.has e.to && decide (e.fr = q)
def outE (a : NfM) (q : Int) : List EdM := a.edges.filter (outP a q)
/-! ### settle -/
/-- The map of the edges, to be read. -/
structure FromV (B : Nat → Prop) (H0 : Heap) (mb : Nat) (a : NfM) : Prop where
  ex : ∃ m, MapW anyK kI H0 mb m ∧ ∀ q, ∃ ad cap, slAt m q = .slice ad (outE a q).length cap ∧ SlD tEd B H0 ad cap (outE a q)
  at_ : B mb
structure StlR (a : NfM) (X : PS) (q : Int) (Y : PS) : Prop where
  sub : ∀ p, X p → Y p
  own : Y q
  new : ∀ p, Y p → X p ∨ Sils a q p
  shut : ∀ p, Y p → ¬ X p → ∀ e ∈ a.edges, e.sil = true → e.fr = p → a.has e.to = true → Y e.to
open Classical in
noncomputable def mss (X : PS) : Nat := (lstS fun p => ¬ X p).length
end Go.Proofs.YthomdogheamfpaaDoor
/- nfa.Reach, nfa.Accepts: the walks. -/
set_option linter.unusedVariables false
set_option linter.unusedSimpArgs false
set_option maxRecDepth 100000
namespace Go.Proofs.YthomdogheamfpaaDoor
open Go.VC
def byN (s : ByteArray) : List Nat := s.data.toList.map UInt8.toNat
end Go.Proofs.YthomdogheamfpaaDoor
/- Making automata deterministic: the plain law (names of sets, the walk by lengths and bytes). -/
set_option linter.unusedVariables false
set_option linter.unusedSimpArgs false
set_option maxRecDepth 100000
namespace Go.Proofs.YthomdogheamfpaaDoor
open Go.VC
/-! ### names -/
def digN (q : Int) : List Nat := (Go.Lib.itoa q).map UInt8.toNat
theorem digL_N (q : Int) : digL q = (digN q).map fun (x : Nat) => (x : Int) := by
  unfold digL digN
  rw [List.map_map]
  rfl
def valN (n : Nat) (l : List Nat) : Nat := l.foldl (fun n b => 10 * n + (b - 48)) n
theorem dec_spec (u : Nat) : (∀ b ∈ (Go.Lib.decDigits u).map UInt8.toNat, 48 ≤ b ∧ b ≤ 57) ∧ valN 0 ((Go.Lib.decDigits u).map UInt8.toNat) = u := by
  induction u using Nat.strongRecOn with
  | _ u ih =>
    rw [Go.Lib.decDigits]
    by_cases h : u < 10
    · rw [dif_pos h]
      have e : (UInt8.ofNat (48 + u)).toNat = 48 + u := by rw [UInt8.toNat_ofNat']; omega
      refine ⟨fun b hb => ?_, ?_⟩
      · simp only [List.map_cons, List.map_nil, List.mem_singleton, e] at hb; omega
      · simp only [List.map_cons, List.map_nil, e, valN, List.foldl_cons, List.foldl_nil]; omega
    · rw [dif_neg h]
      obtain ⟨h1, h2⟩ := ih (u / 10) (by omega)
      have e : (UInt8.ofNat (48 + u % 10)).toNat = 48 + u % 10 := by rw [UInt8.toNat_ofNat']; omega
      refine ⟨fun b hb => ?_, ?_⟩
      · rw [List.map_append, List.mem_append] at hb
        rcases hb with hb | hb
        · exact h1 b hb
        · simp only [List.map_cons, List.map_nil, List.mem_singleton, e] at hb; omega
      · unfold valN at h2 ⊢
        rw [List.map_append, List.foldl_append, h2]
        simp only [List.map_cons, List.map_nil, e, List.foldl_cons, List.foldl_nil]; omega
theorem dig_nat {q : Int} (h : 0 ≤ q) : digN q = (Go.Lib.decDigits q.toNat).map UInt8.toNat := by
  unfold digN Go.Lib.itoa
  rw [if_neg (by omega)]
theorem dig_rng {q : Int} (h : 0 ≤ q) : ∀ b ∈ digN q, 48 ≤ b ∧ b ≤ 57 := by rw [dig_nat h]; exact (dec_spec _).1
theorem dig_val {q : Int} (h : 0 ≤ q) : (valN 0 (digN q) : Int) = q := by rw [dig_nat h, (dec_spec _).2]; omega
theorem dec_len : ∀ (k u : Nat), u < 10 ^ (k + 1) → (Go.Lib.decDigits u).length ≤ k + 1
  | 0, u, h => by
    rw [Go.Lib.decDigits, dif_pos (by simpa using h)]; simp
  | k + 1, u, h => by
    rw [Go.Lib.decDigits]
    by_cases h1 : u < 10
    · rw [dif_pos h1]; simp
    · rw [dif_neg h1, List.length_append]
      have := dec_len k (u / 10) (by rw [Nat.div_lt_iff_lt_mul (by decide)]; rw [Nat.pow_succ] at h; omega)
      simp only [List.length_cons, List.length_nil]; omega
theorem dig_len {q : Int} (h : 0 ≤ q ∧ q < 65536) : (digN q).length ≤ 5 := by
  rw [dig_nat h.1, List.length_map]
  exact dec_len 4 _ (by omega)
theorem byN_of5 {l : List Nat} (h : ∀ x ∈ l, x < 256) : byN ⟨(l.map UInt8.ofNat).toArray⟩ = l := by
  unfold byN
  rw [List.map_map]
  refine (List.map_congr_left fun x hx => ?_).trans (List.map_id _)
  show (UInt8.ofNat x).toNat = x
  rw [UInt8.toNat_ofNat']
  exact Nat.mod_eq_of_lt (h x hx)
/-! ### the walk over all sets that words lead to -/
section
variable {K : Type} [DecidableEq K]
/-- The number of a thing among those found; a new one is put behind them while there is room. -/
def atF (most : Nat) (f : List K) (k : K) : Option (List K × Nat) := match f.findIdx? (· = k) with
  | some i => some (f, i)
  | none => if f.length < most then some (f ++ [k], f.length) else none
def rowF (most : Nat) (step : K → Nat → K) (x : K) (s : Option (List K × List Nat)) (b : Nat) : Option (List K × List Nat) :=
  s.bind fun p => (atF most p.1 (step x b)).map fun r => (r.1, p.2 ++ [r.2])
def rowsF (most : Nat) (step : K → Nat → K) (bs : List Nat) (start : K) : Nat → Option (List K × List (List Nat))
  | 0 => some ([start], [])
  | n + 1 => (rowsF most step bs start n).bind fun p => match p.1[n]? with
    | none => some p
    | some x => (bs.foldl (rowF most step x) (some (p.1, []))).map fun r => (r.1, p.2 ++ [r.2])
variable {most : Nat} {step : K → Nat → K} {bs : List Nat} {start : K}
theorem rowF_none (x : K) : ∀ l : List Nat, l.foldl (rowF most step x) none = none
  | [] => rfl
  | b :: l => by rw [List.foldl_cons]; exact rowF_none x l
theorem atF_some {f f' : List K} {k : K} {i : Nat} (h : atF most f k = some (f', i)) (hl : f.length ≤ most) (hn : f.Nodup) : f'[i]? = some k ∧ f'.length ≤ most ∧ f'.Nodup ∧ f <+: f' := by
  unfold atF at h
  cases hf : f.findIdx? (· = k) with
  | some j =>
    rw [hf] at h
    injection h with h
    injection h with h1 h2
    subst h1; subst h2
    obtain ⟨hj, h3, -⟩ := List.findIdx?_eq_some_iff_getElem.1 hf
    have h3 : f[j] = k := by simpa using h3
    exact ⟨by rw [List.getElem?_eq_getElem hj, h3], hl, hn, List.prefix_refl _⟩
  | none =>
    rw [hf] at h
    simp only at h
    split at h
    · rename_i hlt
      injection h with h
      injection h with h1 h2
      subst h1; subst h2
      have hno : k ∉ f := fun hk => by
        have := List.findIdx?_eq_none_iff.1 hf k hk
        simp at this
      refine ⟨by simp, by simp only [List.length_append, List.length_cons, List.length_nil]; omega, ?_, List.prefix_append _ _⟩
      rw [List.nodup_append]
      exact ⟨hn, by simp, fun a ha b hb => by rw [List.mem_singleton] at hb; subst hb; intro e; subst e; exact hno ha⟩
    · cases h
omit [DecidableEq K] in
theorem pre_get {f f' : List K} {i : Nat} {k : K} (h : f <+: f') (hi : f[i]? = some k) : f'[i]? = some k := by
  obtain ⟨t, rfl⟩ := h
  rw [List.getElem?_append_left (List.getElem?_eq_some_iff.1 hi).1]
  exact hi
/-- What holds while the rows are made. -/
structure RowsOk (most : Nat) (step : K → Nat → K) (bs : List Nat) (start : K) (n : Nat) (f : List K) (rows : List (List Nat)) : Prop where
  len : f.length ≤ most
  nd : f.Nodup
  zero : f[0]? = some start
  rl : rows.length = n
  cols : ∀ row ∈ rows, row.length = bs.length
  ok : ∀ (i k : Nat) (row : List Nat) (b t : Nat) (x : K), rows[i]? = some row → bs[k]? = some b → row[k]? = some t → f[i]? = some x → f[t]? = some (step x b)
theorem foldRow_ok {f : List K} {x : K} (hl : f.length ≤ most) (hn : f.Nodup) : ∀ (k : Nat), k ≤ bs.length → ∀ (f' : List K) (row : List Nat), (bs.take k).foldl (rowF most step x) (some (f, [])) = some (f', row) →
    f'.length ≤ most ∧ f'.Nodup ∧ f <+: f' ∧ row.length = k ∧ ∀ (j b t : Nat), bs[j]? = some b → row[j]? = some t → f'[t]? = some (step x b) := by
  intro k
  induction k with
  | zero =>
    intro _ f' row h
    simp only [List.take_zero, List.foldl_nil, Option.some.injEq, Prod.mk.injEq] at h
    obtain ⟨rfl, rfl⟩ := h
    exact ⟨hl, hn, List.prefix_refl _, rfl, fun j b t _ h => by simp at h⟩
  | succ k ih =>
    intro hk f' row h
    obtain ⟨b, hb⟩ := get_some (l := bs) (k := k) (by omega)
    rw [take_succ_snoc hb, List.foldl_append] at h
    cases hp : (bs.take k).foldl (rowF most step x) (some (f, [])) with
    | none => rw [hp] at h; cases h
    | some p =>
      obtain ⟨f1, r1⟩ := p
      obtain ⟨i1, i2, i3, i4, i5⟩ := ih (by omega) f1 r1 hp
      rw [hp] at h
      simp only [List.foldl_cons, List.foldl_nil, rowF, Option.bind_some] at h
      cases ha : atF most f1 (step x b) with
      | none => rw [ha] at h; cases h
      | some r =>
        obtain ⟨f2, t2⟩ := r
        rw [ha] at h
        simp only [Option.map_some, Option.some.injEq, Prod.mk.injEq] at h
        obtain ⟨rfl, rfl⟩ := h
        obtain ⟨a1, a2, a3, a4⟩ := atF_some ha i1 i2
        refine ⟨a2, a3, i3.trans a4, by simp [i4], fun j c t hc ht => ?_⟩
        by_cases hj : j < k
        · rw [List.getElem?_append_left (by omega)] at ht
          exact pre_get a4 (i5 j c t hc ht)
        · have hjl := (List.getElem?_eq_some_iff.1 ht).1
          simp only [List.length_append, List.length_cons, List.length_nil] at hjl
          obtain rfl : j = k := by omega
          rw [hb] at hc
          injection hc with hc
          subst hc
          rw [List.getElem?_append_right (by omega), i4, Nat.sub_self] at ht
          simp only [List.getElem?_cons_zero, Option.some.injEq] at ht
          subst ht
          exact a1
theorem foldRow_pre {f : List K} {x : K} (hl : f.length ≤ most) (hn : f.Nodup) {f' : List K} {row : List Nat} (h : bs.foldl (rowF most step x) (some (f, [])) = some (f', row)) :
    f'.length ≤ most ∧ f'.Nodup ∧ f <+: f' ∧ row.length = bs.length ∧ ∀ (j b t : Nat), bs[j]? = some b → row[j]? = some t → f'[t]? = some (step x b) :=
  foldRow_ok hl hn bs.length (Nat.le_refl _) f' row (by rw [List.take_length]; exact h)
theorem rowsF_ok (hm : 1 ≤ most) : ∀ (n : Nat) (f : List K) (rows : List (List Nat)), rowsF most step bs start n = some (f, rows) → (∀ j, j < n → j < f.length) → RowsOk most step bs start n f rows
  | 0, f, rows, h, _ => by
    simp only [rowsF, Option.some.injEq, Prod.mk.injEq] at h
    obtain ⟨rfl, rfl⟩ := h
    exact ⟨hm, by simp, rfl, rfl, (fun row h => by cases h), fun i k row b t x h => by simp at h⟩
  | n + 1, f, rows, h, hlt => by
    simp only [rowsF] at h
    cases hp : rowsF most step bs start n with
    | none => rw [hp] at h; cases h
    | some p =>
      obtain ⟨f1, rows1⟩ := p
      rw [hp] at h
      simp only [Option.bind_some] at h
      cases hx : f1[n]? with
      | none =>
        rw [hx] at h
        simp only [Option.some.injEq, Prod.mk.injEq] at h
        obtain ⟨rfl, rfl⟩ := h
        have := hlt n (by omega)
        rw [List.getElem?_eq_none_iff] at hx
        omega
      | some x =>
        rw [hx] at h
        simp only at h
        cases hr : bs.foldl (rowF most step x) (some (f1, [])) with
        | none => rw [hr] at h; cases h
        | some r =>
          obtain ⟨f2, row⟩ := r
          rw [hr] at h
          simp only [Option.map_some, Option.some.injEq, Prod.mk.injEq] at h
          obtain ⟨rfl, rfl⟩ := h
          have hxl := (List.getElem?_eq_some_iff.1 hx).1
          have ih := rowsF_ok hm n f1 rows1 hp fun j hj => by omega
          obtain ⟨g1, g2, g3, g4, g5⟩ := foldRow_pre ih.len ih.nd hr
          refine ⟨g1, g2, pre_get g3 ih.zero, by simp [ih.rl], fun r hr' => ?_, fun i k r b t y hi hk ht hy => ?_⟩
          · rcases List.mem_append.1 hr' with hr' | hr'
            · exact ih.cols r hr'
            · rw [List.mem_singleton] at hr'; subst hr'; exact g4
          · by_cases hin : i < n
            · rw [List.getElem?_append_left (by rw [ih.rl]; exact hin)] at hi
              obtain ⟨y1, hy1⟩ := get_some (l := f1) (k := i) (by omega)
              have := pre_get g3 hy1
              rw [hy] at this
              injection this with this
              subst this
              exact pre_get g3 (ih.ok i k r b t y hi hk ht hy1)
            · have hil := (List.getElem?_eq_some_iff.1 hi).1
              simp only [List.length_append, List.length_cons, List.length_nil, ih.rl] at hil
              obtain rfl : i = n := by omega
              rw [List.getElem?_append_right (by rw [ih.rl]; exact Nat.le_refl _), ih.rl, Nat.sub_self] at hi
              simp only [List.getElem?_cons_zero, Option.some.injEq] at hi
              subst hi
              have := pre_get g3 hx
              rw [hy] at this
              injection this with this
              subst this
              exact g5 k b t hk ht
/-- Once all that was found has its row, nothing more is done. -/
theorem rowsF_stop {n : Nat} {f : List K} {rows : List (List Nat)} (h : rowsF most step bs start n = some (f, rows)) (hn : f.length ≤ n) : ∀ m, n ≤ m → rowsF most step bs start m = some (f, rows) := by
  intro m hm
  induction m with
  | zero => obtain rfl : n = 0 := by omega
            exact h
  | succ m ih =>
    by_cases he : n = m + 1
    · subst he; exact h
    · have := ih (by omega)
      simp only [rowsF, this, Option.bind_some]
      rw [List.getElem?_eq_none (by omega)]
/-- What comes out: all that was found, with its rows, or nothing where there is no room. -/
def detF (most : Nat) (step : K → Nat → K) (bs : List Nat) (start : K) : Option (List K × List (List Nat)) := rowsF most step bs start most
theorem detF_done {n : Nat} {f : List K} {rows : List (List Nat)} (h : rowsF most step bs start n = some (f, rows)) (hn : f.length = n) (hl : f.length ≤ most) : detF most step bs start = some (f, rows) :=
  rowsF_stop h (by omega) most (by omega)
end
end Go.Proofs.YthomdogheamfpaaDoor
/- louperef07.Number: the walk; numbers as text. -/
set_option linter.unusedVariables false
set_option linter.unusedSimpArgs false
set_option maxRecDepth 100000
namespace Go.Proofs.YthomdogheamfpaaDoor
open Go.VC Go.Lib
/-- A number's decimal text. -/
def dN (u : Nat) : List Nat := (decDigits u).map UInt8.toNat
theorem dN_small {u : Nat} (h : u < 10) : dN u = [48 + u] := by
  unfold dN
  rw [decDigits_one h, List.map_cons, List.map_nil, UInt8.toNat_ofNat']
  congr 1
  omega
theorem dN_step {u : Nat} (h : ¬ u < 10) : dN u = dN (u / 10) ++ [48 + u % 10] := by
  unfold dN
  rw [decDigits, dif_neg h, List.map_append, List.map_cons, List.map_nil, UInt8.toNat_ofNat']
  congr 2
  omega
theorem dN_len (u : Nat) : (dN u).length ≤ u + 1 := by
  induction u using Nat.strongRecOn with
  | _ u ih =>
    by_cases h : u < 10
    · rw [dN_small h]; simp
    · rw [dN_step h, List.length_append, List.length_singleton]
      have := ih (u / 10) (by omega)
      omega
theorem itoS_nat (u : Nat) : itoS (u : Int) = bA (dN u) := by
  unfold itoS bA dN itoa
  rw [if_neg (by omega), Int.toNat_natCast, List.map_map]
  congr 2
  rw [show (UInt8.ofNat ∘ UInt8.toNat) = id from funext fun b => by simp, List.map_id]
theorem wU {x : Int} (h0 : 0 ≤ x) (h1 : x ≤ 18446744073709551615) : IntKind.wrap .u64 x = x := wrap_in ⟨h0, h1⟩
set_option maxHeartbeats 4000000 in
theorem number_p {H : Heap} {n : Nat} (hn : n ≤ 4294967296) : Pure Tryd.prog 58 #[.int .i64 (n : Int)] H (.string (bA (dN n))) := by
  refine FnOk.of_vc Tryd.func58 rfl (Tryd.call58 _) ?_
  (conv => whnf); rw [wU (x := (n : Int)) (by omega) (by omega)]
  (conv => whnf); refine VSeq.run ?_
  (conv => whnf)
  refine VLoop.mk [3, 5] (fun x : Nat × List Nat => match x with | (m, w) => [.int .u64 (m : Int), .string (bA w)]) (fun x H1 => match x with | (m, w) => m ≤ n ∧ dN n = dN m ++ w ∧ St H H1 []) (fun x _ => x.1) ?_ ?_
  · (conv => whnf)
    exact ⟨(n, []), rfl, Nat.le_refl _, by simp, St.nil H⟩
  · rintro ⟨m, w⟩ H1 junk1 ⟨hm, he, st1⟩
    have hwl : w.length ≤ n + 1 := by
      have := dN_len n
      rw [he, List.length_append] at this
      omega
    (conv => whnf); refine vrem (b := 10) (by decide) ?_
    (conv => whnf); rw [wU (x := 48 + ((m % 10 : Nat) : Int)) (by omega) (by omega)]
    (conv => whnf); rw [w8 (x := 48 + ((m % 10 : Nat) : Int)) (by omega) (by omega)]
    rw [show 48 + ((m % 10 : Nat) : Int) = ((48 + m % 10 : Nat) : Int) by omega]
    (conv => whnf); refine vbuild1 sl85 [.int .u8 ((48 + m % 10 : Nat) : Int)] rfl rfl (by decide) (by decide) ?_
    intro q2 H2 hq2 hs2 hb2 ha2
    have st2 := st1.skip hq2 ha2
    (conv => whnf); refine vb2s [48 + m % 10] rfl rfl rfl (fun j x hx => by
      cases j with
      | zero => cases hx; rw [hb2.cell]; rfl
      | succ j => simp at hx) rfl ?_
    (conv => whnf); refine vcat (show 1 + (bA w).size ≤ maxLen by rw [bsz]; unfold maxLen; omega) ?_
    rw [show (⟨([48 + m % 10].map UInt8.ofNat).toArray⟩ : ByteArray) = bA [48 + m % 10] from rfl, bA_cat]
    (conv => whnf); refine vquo (b := 10) (by decide) ⟨by simp [IntKind.min, IntKind.signed], by simp [IntKind.max, IntKind.signed, IntKind.bits]; omega⟩ ?_
    by_cases h0 : m < 10
    · have d2 : (((m / 10 : Nat) : Int) == 0) = true := by rw [show m / 10 = 0 by omega]; rfl
      (conv => whnf); rw [d2]
      (conv => whnf); refine vcat (show 0 + (bA ([48 + m % 10] ++ w)).size ≤ maxLen by rw [bsz]; unfold maxLen; simp only [List.length_append, List.length_singleton]; omega) ?_
      (conv => whnf)
      rw [he, dN_small h0]
      refine ⟨?_, st2.old⟩
      rw [show m % 10 = m by omega]
      congr 1
    · have d2 : (((m / 10 : Nat) : Int) == 0) = false := beq_eq_false_iff_ne.2 (by omega)
      (conv => whnf); rw [d2]
      (conv => whnf)
      exact ⟨rfl, (m / 10, [48 + m % 10] ++ w), rfl, ⟨by omega, by rw [he, dN_step h0]; simp, st2⟩, show m / 10 < m by omega⟩
end Go.Proofs.YthomdogheamfpaaDoor
/- The table of an automaton as text: plain. -/
set_option linter.unusedVariables false
set_option linter.unusedSimpArgs false
set_option maxRecDepth 100000
namespace Go.Proofs.YthomdogheamfpaaDoor
open Go.VC Go.Lib
theorem dN_len5 {u : Nat} (h : u < 65536) : (dN u).length ≤ 5 := by
  unfold dN
  rw [List.length_map]
  exact dec_len 4 u (by omega)
theorem dN_len6 {u : Nat} (h : u ≤ 65536) : (dN u).length ≤ 6 := by
  unfold dN
  rw [List.length_map]
  exact dec_len 5 u (by omega)
def segM (st : Nat → Nat → Nat) (i : Nat) (c : BitVec 256) : List Nat := [32] ++ showM c ++ [62] ++ dN (st i (nextM c 0).1)
def segsM (st : Nat → Nat → Nat) (i : Nat) (cells : List (BitVec 256)) : List Nat := cells.flatMap (segM st i)
def lineM (cells : List (BitVec 256)) (st : Nat → Nat → Nat) (fi : Nat → Bool) (i : Nat) : List Nat := dN i ++ (if fi i then [42] else []) ++ segsM st i cells ++ [10]
def linesM (cells : List (BitVec 256)) (st : Nat → Nat → Nat) (fi : Nat → Bool) (n : Nat) : List Nat := (List.range n).flatMap (lineM cells st fi)
def headM (n : Nat) : List Nat := [115, 116, 97, 116, 101, 115, 32] ++ dN n ++ [10]
def tableM (cells : List (BitVec 256)) (n : Nat) (st : Nat → Nat → Nat) (fi : Nat → Bool) : List Nat := headM n ++ linesM cells st fi n
theorem linesM_succ (cells : List (BitVec 256)) (st : Nat → Nat → Nat) (fi : Nat → Bool) (n : Nat) : linesM cells st fi (n + 1) = linesM cells st fi n ++ lineM cells st fi n := by
  unfold linesM
  rw [List.range_succ, List.flatMap_append]
  simp
theorem segsM_snoc (st : Nat → Nat → Nat) (i : Nat) (l : List (BitVec 256)) (c : BitVec 256) : segsM st i (l ++ [c]) = segsM st i l ++ segM st i c := by
  unfold segsM
  rw [List.flatMap_append]
  simp
theorem seg_len {st : Nat → Nat → Nat} {i : Nat} {c : BitVec 256} (h : st i (nextM c 0).1 < 65536) : (segM st i c).length ≤ 2407 := by
  unfold segM
  have h1 := show_len c
  have h2 := dN_len5 h
  simp only [List.length_append, List.length_singleton]
  omega
theorem segs_len {st : Nat → Nat → Nat} {i : Nat} : ∀ {l : List (BitVec 256)}, (∀ c ∈ l, st i (nextM c 0).1 < 65536) → (segsM st i l).length ≤ l.length * 2407
  | [], _ => Nat.le_refl _
  | c :: l, h => by
    have h1 := seg_len (h c (by simp))
    have h2 := segs_len (l := l) fun x hx => h x (by simp [hx])
    unfold segsM at h2 ⊢
    rw [List.flatMap_cons, List.length_append, List.length_cons]
    omega
theorem line_len {cells : List (BitVec 256)} {st : Nat → Nat → Nat} {fi : Nat → Bool} {i : Nat} (hi : i < 65536) (hc : cells.length ≤ 256) (h : ∀ c ∈ cells, st i (nextM c 0).1 < 65536) : (lineM cells st fi i).length ≤ 616199 := by
  unfold lineM
  have h1 := dN_len5 hi
  have h2 := segs_len h
  have h3 : (if fi i then [42] else [] : List Nat).length ≤ 1 := by split <;> decide
  simp only [List.length_append, List.length_singleton]
  omega
theorem lines_len {cells : List (BitVec 256)} {st : Nat → Nat → Nat} {fi : Nat → Bool} (hc : cells.length ≤ 256) : ∀ {n : Nat}, n ≤ 65536 → (∀ i, i < n → ∀ c ∈ cells, st i (nextM c 0).1 < 65536) → (linesM cells st fi n).length ≤ n * 616199
  | 0, _, _ => Nat.le_refl _
  | n + 1, hn, h => by
    have h1 := lines_len (fi := fi) hc (n := n) (by omega) fun i hi => h i (by omega)
    have h2 := line_len (fi := fi) (show n < 65536 by omega) hc (h n (by omega))
    rw [linesM_succ, List.length_append]
    omega
end Go.Proofs.YthomdogheamfpaaDoor
/- A block whose first cell is anything, and whose other cells hold slices of the call's own. -/
set_option linter.unusedVariables false
set_option linter.unusedSimpArgs false
namespace Go.VC
section
variable {α : Type} {T : Ty α} {B : Nat → Prop} {H0 H H1 : Heap} {ps : List Pc} {e te : TypeId} {b : Nat} {w0 : Value} {vs : List Value} {ss : Nat → Slot} {xs : List α} {v : Value} {j : Nat}
end
end Go.VC
/- dfa.ready: an automaton's ways by the state that they leave: the walk. -/
set_option linter.unusedVariables false
set_option linter.unusedSimpArgs false
set_option maxRecDepth 100000
namespace Go.VC
section
variable {α : Type} {T : Ty α} {e te : TypeId} {nb : Nat} {vs : List Value} {xs : List (List α)} {B : Nat → Prop} {H0 H H1 : Heap} {ps : List Pc}
end
end Go.VC
namespace Go.Proofs.YthomdogheamfpaaDoor
open Go.VC
/-! ### grouping -/
section
variable {β : Type}
end
def okE (a : NfM) (e : EdM) : Bool := a.has e.fr && a.has e.to
def keyS (a : NfM) (e : EdM) : Option (Nat × Int) := if okE a e && e.sil then some (e.fr.toNat, e.to) else none
end Go.Proofs.YthomdogheamfpaaDoor
/- louperef05.tabled: the walk. -/
set_option linter.unusedVariables false
set_option linter.unusedSimpArgs false
set_option maxRecDepth 100000
namespace Go.Proofs.YthomdogheamfpaaDoor
open Go.VC
theorem bool_reps {S : Nat → Prop} {H : Heap} : ∀ xs : List Bool, tBool.reps S H (xs.map Value.bool) xs
  | [] => rfl
  | x :: xs => ⟨[.bool x], xs.map Value.bool, rfl, rfl, bool_reps xs⟩
end Go.Proofs.YthomdogheamfpaaDoor
/- The document's book of sets: hash: the walk. -/
set_option linter.unusedVariables false
set_option linter.unusedSimpArgs false
set_option maxRecDepth 100000
namespace Go.Proofs.YthomdogheamfpaaDoor
open Go.VC
end Go.Proofs.YthomdogheamfpaaDoor
/- (*dfa.net).close: the name of all that silent ways reach: the walk. -/
set_option linter.unusedVariables false
set_option linter.unusedSimpArgs false
set_option maxRecDepth 100000
namespace Go.VC
section
variable {α : Type} {T : Ty α} {e : TypeId} {a : Option Addr} {n cap : Nat} {xs ys : List α} {B S : Nat → Prop} {H0 H : Heap} {ps : List Pc}
end
end Go.VC
namespace Go.Proofs.YthomdogheamfpaaDoor
open Go.VC
structure ClsI (a : NfM) (X : List Int) (todo : List Int) (mm : Int → Option Value) : Prop where
  has : ∀ q ∈ todo, a.has q = true
  one : ∀ p, Dom mm p → mm p = some (.int .i64 1)
  tcl : ∀ p ∈ todo, clS a (· ∈ X) p
  mcl : ∀ p, Dom mm p → clS a (· ∈ X) p
  all : ∀ x ∈ X, Dom mm x ∨ x ∈ todo
  shut : ∀ p, Dom mm p → ∀ e ∈ a.edges, e.sil = true → e.fr = p → a.has e.to = true → Dom mm e.to ∨ e.to ∈ todo
  len : todo.length ≤ X.length + (65536 - mss (Dom mm)) * 1048576
abbrev tByt : TypeId := 5
end Go.Proofs.YthomdogheamfpaaDoor
/- members, the two closures of Determinize: the walks. -/
set_option linter.unusedVariables false
set_option linter.unusedSimpArgs false
set_option maxRecDepth 100000
namespace Go.VC
section
variable {α : Type} {T : Ty α} {e : TypeId} {a : Option Addr} {n cap : Nat} {xs : List α} {B : Nat → Prop} {H0 H : Heap} {ps : List Pc}
/-- append to an own slice that may be long. -/
theorem appL5 {P : Program} {t ty q o m cap2 by_ : Nat} {z : Value} {ys : List α} {ds : List Value} {K : Value → Heap → Prop} (st : StB B H0 H ps) (i : Nat) (ht : SlT P t e T.size by_ z) (hp : ps[i]? = some (pS T e a n cap xs))
    (hd : Cells H q o ds) (hy : T.reps none_ H ds ys) (hm : m = ys.length) (h1 : ∀ u ∈ ds, u.oneCell' = true) (h63 : xs.length + ys.length ≤ 1099511627776) (hby : by_ ≤ 64)
    (k : ∀ a' cap' H', StB B H0 H' (ps.set i (pS T e a' (xs.length + ys.length) cap' (xs ++ ys))) → Agr (fun k => k < H.size ∧ ¬ slB (.slice a n cap) k) H H' → K (.slice a' (xs.length + ys.length) cap') H') :
    VEff P (Builtin.append_ #[t, t] ty [.slice a n cap, .slice (some ⟨q, o, none⟩) m cap2].toArray) H K := by
  refine vappendO (T := T) (S := none_) (lo := 0) ht (st.at_ i hp).1 (Nat.zero_le _) (fun k hk => hk.elim) hd hy hm h1 (by unfold maxLen; omega) (by have := Nat.mul_le_mul h63 hby; omega) ?_
  intro v' H' hown hagr hsz hfr
  obtain ⟨a', cap', rfl⟩ := hown.hull
  rw [List.length_append] at hown hfr ⊢
  refine k a' cap' H' (st.upd i hp (hagr.mono fun k hk => ⟨hk.1, fun hb => hk.2 (.inl hb)⟩) _ ⟨hown, fun k hk => hk.elim⟩ (fun k hk => ?_) (fun k hk => ?_) hsz) hagr
  · rcases hk with hk | hk
    · rcases hfr k hk with h | h
      · exact .inl (.inl h)
      · exact .inr h
    · exact hk.elim
  · rcases hk with hk | hk
    · exact (hown.lt hk).2
    · exact hk.elim
end
end Go.VC
namespace Go.Proofs.YthomdogheamfpaaDoor
open Go.VC
/-- Where one byte leads from a set. -/
noncomputable def stepA (a : NfM) (l : List Int) (b : Nat) : List Int := lstS (goS a (· ∈ l) b)
end Go.Proofs.YthomdogheamfpaaDoor
/- The document's table: settled: all that silent edges reach, as a rising list: the walk. -/
set_option linter.unusedVariables false
set_option linter.unusedSimpArgs false
set_option maxRecDepth 100000
namespace Go.VC
section
variable {B : Nat → Prop} {H0 H : Heap} {ps qs : List Pc} {p q : Pc}
end
end Go.VC
namespace Go.Proofs.YthomdogheamfpaaDoor
open Go.VC
/-! ### marks -/
/-- All that has been found: nothing twice, all of it reached; the first i, and k ways of the next one, are done. -/
structure StlI (a : NfM) (X all : List Int) : Prop where
  nd : all.Nodup
  cl : ∀ q ∈ all, clS a (· ∈ X) q
section
variable {B : Nat → Prop} {H0 H : Heap} {rest : List Pc} {nb tb mc lc : Nat} {ma la : Option Addr} {vt : List Value} {a : NfM} {X : List Int}
end
end Go.Proofs.YthomdogheamfpaaDoor
/- The explorer: at, Explore: the walks. -/
set_option linter.unusedVariables false
set_option linter.unusedSimpArgs false
set_option maxRecDepth 100000
namespace Go.VC
section
variable {α : Type} {T : Ty α} {e e2 : TypeId} {a ra : Option Addr} {n cap rn rc : Nat} {xs : List (List α)} {row : List α} {B S : Nat → Prop} {H0 H : Heap} {ps rest : List Pc}
/-- A row joins the data of a list of rows. -/
theorem StB.absorb (st : StB B H0 H (pN (tSl T) S e a n cap xs :: pS T e2 ra rn rc row :: rest)) : StB B H0 H (pN (tSl T) (fun k => S k ∨ slB (.slice ra rn rc) k) e a n cap xs :: rest) := by
  have hap := st.apart2 (i := 0) (j := 1) rfl rfl (by decide)
  have h0 := st.at_ 0 rfl
  refine (st.join 0 1 rfl rfl (by decide)).say 0 rfl _ ⟨h0.1.mono fun k hk => .inl hk, fun k hk => ?_⟩ fun k hk => ?_
  · rcases hk with hk | hk
    · exact h0.2 k hk
    · exact fun h => hap k (.inl h) (.inl hk)
  · rcases hk with hk | hk | hk
    · exact .inl (.inl hk)
    · exact .inl (.inr hk)
    · exact .inr (.inl hk)
/-- append of one row whose data lie in S. -/
theorem appNO {P : Program} {t ty q by_ m cap2 : Nat} {z : Value} {ds : List Value} {K : Value → Heap → Prop} (st : StB B H0 H (pN (tSl T) S e a n cap xs :: rest)) (ht : SlT P t e (tSl T).size by_ z)
    (hd : Cells H q 0 ds) (hy : (tSl T).rep S H ds row) (hm : m = 1) (h1 : ∀ u ∈ ds, u.oneCell' = true) (h63 : xs.length + 1 ≤ 4194304) (hby : by_ ≤ 1024)
    (k : ∀ a' cap' H', StB B H0 H' (pN (tSl T) S e a' (xs.length + 1) cap' (xs ++ [row]) :: rest) → K (.slice a' (xs.length + 1) cap') H') :
    VEff P (Builtin.append_ #[t, t] ty [.slice a n cap, .slice (some ⟨q, 0, none⟩) m cap2].toArray) H K := by
  subst hm
  have h0 := st.at_ 0 rfl
  refine vappendO (T := tSl T) (S := S) (lo := 0) (ys := [row]) ht h0.1 (Nat.zero_le _) (fun k hk => ⟨(st.in_ 0 rfl (.inr hk)).2, h0.2 k hk⟩) hd (Ty.reps_one hy) rfl h1 (by unfold maxLen; simp only [List.length_singleton]; omega) (by have := Nat.mul_le_mul h63 hby; simp only [List.length_singleton]; omega) ?_
  intro v' H' hown hagr hsz hfr
  obtain ⟨a', cap', rfl⟩ := hown.hull
  rw [List.length_append, List.length_singleton] at hown hfr ⊢
  refine k a' cap' H' (st.upd 0 rfl (hagr.mono fun k hk => ⟨hk.1, fun hb => hk.2 (.inl hb)⟩) _ ⟨hown, fun k hk hb => ?_⟩ (fun k hk => ?_) (fun k hk => ?_) hsz)
  · rcases hfr k hb with h | h
    · exact h0.2 k hk h
    · have := (st.in_ 0 rfl (.inr hk)).2
      omega
  · rcases hk with hk | hk
    · rcases hfr k hk with h | h
      · exact .inl (.inl h)
      · exact .inr h
    · exact .inl (.inr hk)
  · rcases hk with hk | hk
    · exact (hown.lt hk).2
    · have := (st.in_ 0 rfl (.inr hk)).2
      omega
end
end Go.VC
namespace Go.Proofs.YthomdogheamfpaaDoor
open Go.VC
/-! ### at -/
theorem mapSI : MapTW Tryd.prog 166 9 3 (.int .i64 0) := ⟨rfl, rfl⟩
theorem keySW : KeyW Tryd.prog 9 (anyK (α := ByteArray)) Value.string := KeyW.ofE Tryd.underlying9 Go.VC.keyS
section
variable {B : Nat → Prop} {H0 H : Heap} {rest : List Pc} {xb mb fc most : Nat} {fa : Option Addr} {F : List (List Int)} {k : List Int}
end
end Go.Proofs.YthomdogheamfpaaDoor
/- The document's book of sets: find and add: the walks. -/
set_option linter.unusedVariables false
set_option linter.unusedSimpArgs false
set_option maxRecDepth 100000
namespace Go.Proofs.YthomdogheamfpaaDoor
open Go.VC
section
variable {B : Nat → Prop} {H0 H : Heap} {rest : List Pc} {b sc lc : Nat} {sa la : Option Addr} {vs : List Value} {S : Nat → Prop} {F : List (List Int)} {l : List Int}
end
end Go.Proofs.YthomdogheamfpaaDoor
/- The document's book of sets: add: the walk. -/
set_option linter.unusedVariables false
set_option linter.unusedSimpArgs false
set_option maxRecDepth 100000
namespace Go.Proofs.YthomdogheamfpaaDoor
open Go.VC
section
variable {B : Nat → Prop} {H0 H : Heap} {rest : List Pc} {b sc lc : Nat} {sa la : Option Addr} {vs : List Value} {S : Nat → Prop} {F : List (List Int)} {l : List Int}
end
end Go.Proofs.YthomdogheamfpaaDoor
/- Explore over sets of states: the walk. -/
set_option linter.unusedVariables false
set_option linter.unusedSimpArgs false
set_option maxRecDepth 100000
namespace Go.Proofs.YthomdogheamfpaaDoor
open Go.VC
def rowI (r : List Nat) : List Int := r.map fun (x : Nat) => (x : Int)
def bsOf (cs : List (BitVec 256)) : List Nat := cs.map fun c => (nextM c 0).1
theorem bsOf_get {cs : List (BitVec 256)} {j : Nat} {c : BitVec 256} (h : cs[j]? = some c) : (bsOf cs)[j]? = some (nextM c 0).1 := by
  unfold bsOf
  rw [List.getElem?_map, h]
  rfl
end Go.Proofs.YthomdogheamfpaaDoor
/- dfa.Determinize: the walk. -/
set_option linter.unusedVariables false
set_option linter.unusedSimpArgs false
set_option maxRecDepth 100000
namespace Go.Proofs.YthomdogheamfpaaDoor
open Go.VC
end Go.Proofs.YthomdogheamfpaaDoor
/- The graphs of Meets, Cat and Iter are what the walks ask for; cuts; plain law. -/
set_option linter.unusedVariables false
set_option linter.unusedSimpArgs false
set_option maxRecDepth 100000
namespace Go.Proofs.YthomdogheamfpaaDoor
open Go.VC
attribute [local irreducible] mRun gRun atRun
theorem nodupN : ∀ (n : Nat) (l : List Nat), l.Nodup → (∀ x ∈ l, x < n) → l.length ≤ n
  | 0, l, _, h => by
    cases l with
    | nil => exact Nat.le_refl _
    | cons x l => exact absurd (h x List.mem_cons_self) (Nat.not_lt_zero _)
  | n + 1, l, hd, h => by
    have h1 := nodupN n (l.filter fun x => decide (x < n)) (hd.filter _) (fun x hx => by simpa using (List.mem_filter.1 hx).2)
    have h2 : (l.filter fun x => !decide (x < n)).length ≤ 1 := by
      have hd2 : (l.filter fun x => !decide (x < n)).Nodup := hd.filter _
      have he : ∀ x ∈ l.filter (fun x => !decide (x < n)), x = n := fun x hx => by
        obtain ⟨k1, k2⟩ := List.mem_filter.1 hx
        have := h x k1
        simp at k2
        omega
      generalize l.filter (fun x => !decide (x < n)) = m at hd2 he
      match m, hd2, he with
      | [], _, _ => simp
      | [_], _, _ => simp
      | x :: y :: r, hd2, he =>
        have e1 := he x (by simp)
        have e2 := he y (by simp)
        rw [e1, e2] at hd2
        simp at hd2
    have h3 : ∀ m : List Nat, (m.filter fun x => decide (x < n)).length + (m.filter fun x => !decide (x < n)).length = m.length := fun m => by
      induction m with
      | nil => rfl
      | cons x m ih => by_cases hx : x < n <;> simp [List.filter_cons, hx] <;> omega
    have := h3 l
    omega
theorem pwNodup {α : Type} {f : α → Nat} {l : List α} (hn : l.Nodup) (hi : ∀ x ∈ l, ∀ y ∈ l, f x = f y → x = y) : (l.map f).Nodup := by
  unfold List.Nodup
  rw [List.pairwise_map]
  exact (List.Pairwise.and_mem.1 hn).imp fun {x y} ⟨h1, h2, h3⟩ e => h3 (hi x h1 y h2 e)
/-- A state of o. -/
def inA (o : Option AM) (q : Int) : Prop := 0 ≤ q ∧ q < stN o
/-- o's steps stay among its states, of which there are at most 65536. -/
structure StepOk (o : Option AM) : Prop where
  n1 : 1 ≤ stN o
  n2 : stN o ≤ 65536
  step : ∀ q b, inA o q → b < 256 → inA o (stepM o q b)
theorem StepOk.zero {o : Option AM} (h : StepOk o) : inA o 0 := ⟨Int.le_refl _, by have := h.n1; omega⟩
theorem step_rng0 {S : Nat → Prop} {H : Heap} {v : Value} {o : Option AM} (h : AutoV S H v o) {q b : Nat} (hq : q < stN o) (hb : b < 256) : 0 ≤ stepM o (q : Int) b ∧ stepM o (q : Int) b < stN o := by
  cases o with
  | none =>
    have : q = 0 := by simp only [stN] at hq; omega
    subst this
    decide +revert
  | some A =>
    obtain ⟨pb, rfl, hown, hok, _⟩ := h
    exact stepM_range hok (by omega) (by simp only [stN] at hq; omega) hb
theorem AutoV.steps {S : Nat → Prop} {H : Heap} {v : Value} {o : Option AM} (h : AutoV S H v o) : StepOk o :=
  ⟨(stN_le h).1, (stN_le h).2, fun q b hq hb => by
    obtain ⟨n, rfl⟩ := Int.eq_ofNat_of_zero_le hq.1
    exact step_rng0 h (by have := hq.2; omega) hb⟩
/-- The bytes of reps stand for all. -/
theorem step_cov {o : Option AM} {ls : List Nat} (h : CellsOk o ls) {r c : Nat} (hr : r < 256) (hc : c < 256) (hs : ∀ s ∈ cellsM o, s.getLsbD r = s.getLsbD c) (q : Int) : stepM o q r = stepM o q c := by
  by_cases hq : q < 0 ∨ (stN o : Int) ≤ q
  · unfold stepM
    rw [if_pos hq, if_pos hq]
  · obtain ⟨k, s, hk, hb, -⟩ := h.part c hc
    obtain ⟨l, hl, -⟩ := h.least k s hk
    have e1 := (h.keeps k s l c hk hl hc hb).2 q (by omega) (by omega)
    have e2 := (h.keeps k s l r hk hl hr (by rw [hs s (List.mem_of_getElem? hk)]; exact hb)).2 q (by omega) (by omega)
    rw [e1, e2]
theorem graphOk {g : Gr} {by_ : List Nat} {M C : Nat} (R : Nd → Prop) (f : Nd → Nat) (h0 : R root) (hstep : ∀ n b t, R n → b < 256 → t ∈ g.next n b → R t) (hok : ∀ n, R n → n.Ok) (hf : ∀ n, R n → f n < M) (hi : ∀ n m, R n → R m → f n = f m → n = m)
    (hlen : ∀ n b, (g.next n b).length ≤ C) (c0 : 1 ≤ C) (big : C * (256 * M) ≤ 5864062014805) (hb : ∀ b ∈ by_, b < 256) (hnb : by_.length ≤ 256) : GraphOk g by_ M C := by
  have hR : ∀ n, Reach g by_ root n → R n := fun n h => by
    induction h with
    | refl => exact h0
    | step hr hb' ht ih => exact hstep _ _ _ ih (hb _ hb') ht
  refine ⟨hb, hnb, fun n hn => hok n (hR n hn), fun l hl hall => ?_, fun n b t _ _ => Nat.le_trans List.count_le_length (hlen n b), c0, big⟩
  rw [← List.length_map (f := f)]
  refine nodupN M _ (pwNodup hl fun x hx y hy e => hi x y (hR x (hall x hx)) (hR y (hall y hy)) e) fun x hx => ?_
  obtain ⟨n, hn, rfl⟩ := List.mem_map.1 hx
  exact hf n (hR n (hall n hn))
/-- Nodes of at most K stages behind the first. -/
structure InR (K : Nat) (n : Nd) : Prop where
  s0 : 0 ≤ n.s
  s1 : n.s ≤ K
  x0 : 0 ≤ n.x
  x1 : n.x < 65536
  y0 : 0 ≤ n.y
  y1 : n.y < 65536
  z : n.s = 0 → n.y = 0
section
variable {a b : Option AM}
/-- Where the readers of Meets can be. -/
def MeetR (a b : Option AM) (n : Nd) : Prop := n.s = 0 ∧ inA a n.x ∧ inA b n.y
end
/-- The bytes that reps gives, and those for which they stand. -/
theorem reps_cov2 {os : List (Option AM)} (hc : ∀ o ∈ os, ∃ ls, CellsOk o ls) {sets : List (BitVec 256)} (hs : ∀ o ∈ os, ∀ s ∈ cellsM o, s ∈ sets) : ∀ c, c < 256 → ∃ r ∈ repsM sets, r ≤ c ∧ ∀ o ∈ os, ∀ q, stepM o q r = stepM o q c := fun c hc8 => by
  obtain ⟨r, hr, hrc, hall⟩ := reps_cov sets hc8
  refine ⟨r, hr, hrc, fun o ho q => ?_⟩
  obtain ⟨ls, h⟩ := hc o ho
  exact step_cov h (reps_lt sets r hr) hc8 (fun s h => hall s (hs o ho s h)) q
end Go.Proofs.YthomdogheamfpaaDoor

/- Texts and their cuts; plain law. -/
set_option linter.unusedVariables false
set_option linter.unusedSimpArgs false
set_option maxRecDepth 100000
namespace Go.Proofs.YthomdogheamfpaaDoor
open Go.VC
attribute [local irreducible] mRun gRun atRun
end Go.Proofs.YthomdogheamfpaaDoor
/- The functions that Cat gives to its graph: the walks. -/
set_option linter.unusedVariables false
set_option linter.unusedSimpArgs false
set_option maxRecDepth 100000
namespace Go.Proofs.YthomdogheamfpaaDoor
open Go.VC
attribute [local irreducible] mRun gRun atRun
/-- A variable of its own that holds an automaton. -/
structure VarA (S : Nat → Prop) (H : Heap) (p : Nat) (o : Option AM) : Prop where
  out : ∃ v, S p ∧ Blk H p 29 [v] ∧ AutoV S H v o
end Go.Proofs.YthomdogheamfpaaDoor

/- ambig's cut and Cat: the walks. -/
set_option linter.unusedVariables false
set_option linter.unusedSimpArgs false
set_option maxRecDepth 100000
namespace Go.Proofs.YthomdogheamfpaaDoor
open Go.VC
attribute [local irreducible] mRun gRun atRun
end Go.Proofs.YthomdogheamfpaaDoor

/- ambig's Iter and its functions: the walks. -/
set_option linter.unusedVariables false
set_option linter.unusedSimpArgs false
set_option maxRecDepth 100000
namespace Go.Proofs.YthomdogheamfpaaDoor
open Go.VC
attribute [local irreducible] mRun gRun atRun
end Go.Proofs.YthomdogheamfpaaDoor

/- ambig's Iter: the walk. -/
set_option linter.unusedVariables false
set_option linter.unusedSimpArgs false
set_option maxRecDepth 100000
namespace Go.Proofs.YthomdogheamfpaaDoor
open Go.VC
attribute [local irreducible] mRun gRun atRun
theorem FirstR.uniq {g : Gr} {w v : List Nat} {ok ok' : Bool} (h : FirstR g w ok) (k : FirstR g v ok') : w = v ∧ ok = ok' := by
  cases ok <;> cases ok'
  · exact ⟨(h.2 rfl).1.trans (k.2 rfl).1.symm, rfl⟩
  · have hw := k.1 rfl
    exact absurd hw.1.2.2.1 ((h.2 rfl).2 v hw.1.2.1)
  · have hw := h.1 rfl
    exact absurd hw.1.2.2.1 ((k.2 rfl).2 w hw.1.2.1)
  · exact ⟨(h.1 rfl).uniq (k.1 rfl), rfl⟩
end Go.Proofs.YthomdogheamfpaaDoor
