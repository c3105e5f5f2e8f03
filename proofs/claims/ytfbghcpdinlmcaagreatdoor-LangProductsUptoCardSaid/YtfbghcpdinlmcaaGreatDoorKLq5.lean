/- Parts of the proof: PCel1, PCOk, PReps, PNode, PGr, PFst, PAmbC, PCatI, PCel2, PBoth, PGam0, PMeg, PDDt, PAtEq, PDLw, PMin1, PMin2, PMin3, PMin4, PMin5, PMin6, PMin7, PMin8, PCan7, PSame7, PCan8, PCan9, PLay5, PBu, PBu2, PBu3, PShw1, PShw2, PShw3, PShw4, PShw5, PShw6, PNum, PTab0, PDec, PBfsG, PMin9, PMin10, PMin11, PAut09, PSpk, PCan10, POdd7, PNews, PCel3, PCan11, PLg1, PLg3, PMet1, PMet2, PMet3, PLp1, PLg4 -/
import Derived.Test.YtfbghcpdinlmcaaGreatDoorKLq4
import Derived.Test.YtfbghcpdinlmcaaGreatDoorKLq3
import Derived.Test.YtfbghcpdinlmcaaGreatDoorKLq2
import Derived.Test.YtfbghcpdinlmcaaGreatDoorKLq1
import Derived.Shelf.Small.Strs
import Derived.Shelf.Strings.BuilderK
import Derived.Shelf.LaysM
import Derived.Shelf.Strconv.Itoa3
/- The coarsest parting by the automaton alone: the plain run. -/
set_option linter.unusedVariables false
set_option linter.unusedSimpArgs false
set_option maxRecDepth 100000
namespace Go.Proofs.YtfbghcpdinlmcaaGreatDoor
open Go.VC

/-- The least bytes of the parts so far, the place of each byte so far. -/
def gRun (sim : Nat → Nat → Bool) : Nat → List Nat × List Nat
  | 0 => ([], [])
  | b + 1 => match (gRun sim b).1.findIdx? fun g => sim b g with
    | some k => ((gRun sim b).1, (gRun sim b).2 ++ [k])
    | none => ((gRun sim b).1 ++ [b], (gRun sim b).2 ++ [(gRun sim b).1.length])
structure GrOk (sim : Nat → Nat → Bool) (b : Nat) (f ps : List Nat) : Prop where
  plen : ps.length = b
  flen : f.length ≤ b
  lt : ∀ p ∈ ps, p < f.length
  first : ∀ (k g : Nat), f[k]? = some g → g < b ∧ ps[g]? = some k
  sig : ∀ (i p g : Nat), ps[i]? = some p → f[p]? = some g → sim i g = true ∧ g ≤ i
theorem gRun_ok {sim : Nat → Nat → Bool} (hr : ∀ a, sim a a = true) : ∀ b, GrOk sim b (gRun sim b).1 (gRun sim b).2
  | 0 => ⟨rfl, Nat.le_refl _, (fun p h => by cases h), (fun k g h => by cases h), (fun i p g h => by cases h)⟩
  | b + 1 => by
    have ih := gRun_ok hr b
    unfold gRun
    split
    · rename_i k hk
      rw [List.findIdx?_eq_some_iff_getElem] at hk
      obtain ⟨hlt, hsig, _⟩ := hk
      refine ⟨by simp [ih.plen], by have := ih.flen; simp only; omega, fun p hp => ?_, fun k' g hg => ?_, fun i p g hi hg => ?_⟩
      · rcases List.mem_append.1 hp with h | h
        · exact ih.lt p h
        · rw [List.mem_singleton] at h; subst h; exact hlt
      · obtain ⟨h1, h2⟩ := ih.first k' g hg
        exact ⟨by omega, by simp only; rw [List.getElem?_append_left (by rw [ih.plen]; exact h1)]; exact h2⟩
      · simp only at hi hg
        by_cases hib : i < b
        · rw [List.getElem?_append_left (by rw [ih.plen]; exact hib)] at hi
          exact ih.sig i p g hi hg
        · rw [List.getElem?_append_right (by rw [ih.plen]; omega), ih.plen] at hi
          have hi0 : i - b = 0 := by
            have := (List.getElem?_eq_some_iff.1 hi).1
            simp only [List.length_singleton] at this
            omega
          rw [hi0, List.getElem?_cons_zero] at hi
          cases hi
          rw [List.getElem?_eq_getElem hlt] at hg
          cases hg
          have hib' : i = b := by omega
          subst hib'
          exact ⟨hsig, by have := (ih.first _ _ (List.getElem?_eq_getElem hlt)).1; omega⟩
    · rename_i hk
      refine ⟨by simp [ih.plen], by have := ih.flen; simp; omega, fun p hp => ?_, fun k' g hg => ?_, fun i p g hi hg => ?_⟩
      · simp only [List.length_append, List.length_singleton]
        rcases List.mem_append.1 hp with h | h
        · have := ih.lt p h; omega
        · rw [List.mem_singleton] at h; subst h; omega
      · simp only at hg ⊢
        by_cases hkl : k' < (gRun sim b).1.length
        · rw [List.getElem?_append_left hkl] at hg
          obtain ⟨h1, h2⟩ := ih.first k' g hg
          exact ⟨by omega, by rw [List.getElem?_append_left (by rw [ih.plen]; exact h1)]; exact h2⟩
        · rw [List.getElem?_append_right (by omega)] at hg
          have h0 := (List.getElem?_eq_some_iff.1 hg).1
          simp only [List.length_singleton] at h0
          rw [show k' - (gRun sim b).1.length = 0 by omega, List.getElem?_cons_zero] at hg
          cases hg
          exact ⟨by omega, by rw [List.getElem?_append_right (by rw [ih.plen]; omega), ih.plen, Nat.sub_self, List.getElem?_cons_zero]; congr 1; omega⟩
      · simp only at hi hg
        by_cases hib : i < b
        · rw [List.getElem?_append_left (by rw [ih.plen]; exact hib)] at hi
          have hp := ih.lt p (List.mem_of_getElem? hi)
          rw [List.getElem?_append_left hp] at hg
          exact ih.sig i p g hi hg
        · rw [List.getElem?_append_right (by rw [ih.plen]; omega), ih.plen] at hi
          have hi0 : i - b = 0 := by
            have := (List.getElem?_eq_some_iff.1 hi).1
            simp only [List.length_singleton] at this
            omega
          rw [hi0, List.getElem?_cons_zero] at hi
          cases hi
          rw [List.getElem?_append_right (Nat.le_refl _), Nat.sub_self, List.getElem?_cons_zero] at hg
          cases hg
          have hib' : i = b := by omega
          subst hib'
          exact ⟨hr _, Nat.le_refl _⟩


theorem gRun_some {sim : Nat → Nat → Bool} {b k : Nat} (h : (gRun sim b).1.findIdx? (fun g => sim b g) = some k) : gRun sim (b + 1) = ((gRun sim b).1, (gRun sim b).2 ++ [k]) := by
  rw [gRun, h]
theorem gRun_none {sim : Nat → Nat → Bool} {b : Nat} (h : (gRun sim b).1.findIdx? (fun g => sim b g) = none) : gRun sim (b + 1) = ((gRun sim b).1 ++ [b], (gRun sim b).2 ++ [(gRun sim b).1.length]) := by
  rw [gRun, h]

/-! ### the same run as merge's -/
/-- What merge's sets hold. -/
theorem mRun_sets {next : List (List Int)} {cells : List (BitVec 256)} (hc : ∀ b, b < 256 → cellOf cells b < cells.length) : ∀ b, b ≤ 256 → ∀ (k : Nat) (x : BitVec 256), (mRun next cells (fun b => spanS b b) b).sets[k]? = some x → ∀ i, i < 256 → x.getLsbD i = atSet (mRun next cells (fun b => spanS b b) b).cell k i
  | 0, _ => fun k x h => by simp [mRun] at h
  | b + 1, hb => fun k x h i hi => by
    have ih := mRun_sets (next := next) hc b (by omega)
    have ho := mRun_ok (next := next) (sp := fun b => spanS b b) hc b (by omega)
    generalize hm : mRun next cells (fun b => spanS b b) b = st at *
    rw [mRun, hm] at h ⊢
    unfold mStep at h ⊢
    simp only at h ⊢
    generalize hr : mNew next st.cols st.sets (cellOf cells b) = r at *
    have hnew := mNew_ok (next := next) (f := cellOf cells b) ho.len ho.le ho.cols (hc b (by omega))
    rw [hr] at hnew
    have hp : r.2.2 < r.2.1.length := by omega
    -- the sets before the byte is put in
    have hold : ∀ (k : Nat) (y : BitVec 256), r.2.1[k]? = some y → y.getLsbD i = atSet st.cell k i := by
      intro k y hy
      unfold mNew at hr
      cases hf : mFind next st.cols (cellOf cells b) with
      | some j =>
        rw [hf] at hr
        subst hr
        exact ih k y hy i hi
      | none =>
        rw [hf] at hr
        subst hr
        simp only at hy
        by_cases hk : k < st.sets.length
        · rw [List.getElem?_append_left hk] at hy
          exact ih k y hy i hi
        · rw [List.getElem?_append_right (by omega)] at hy
          have h0 := (List.getElem?_eq_some_iff.1 hy).1
          simp only [List.length_singleton] at h0
          rw [show k - st.sets.length = 0 by omega, List.getElem?_cons_zero] at hy
          cases hy
          have : atSet st.cell k i = false := by
            unfold atSet
            cases hc' : st.cell[i]? with
            | none => rfl
            | some p =>
              have := ho.places p (List.mem_of_getElem? hc')
              have := ho.len
              simp; omega
          rw [this]; simp
    have hat : ∀ k, atSet (st.cell ++ [r.2.2]) k i = ((decide (i = b) && decide (k = r.2.2)) || atSet st.cell k i) := by
      intro k
      unfold atSet
      have hcl := ho.cell
      rcases Nat.lt_trichotomy i b with h | h | h
      · rw [List.getElem?_append_left (by omega), decide_eq_false (by omega)]; simp
      · subst h
        rw [List.getElem?_append_right (by omega), hcl, Nat.sub_self, List.getElem?_cons_zero, List.getElem?_eq_none (by omega)]
        by_cases hk : k = r.2.2 <;> simp [hk]
        exact fun h => hk h.symm
      · rw [List.getElem?_eq_none (by simp; omega), List.getElem?_eq_none (by omega), decide_eq_false (by omega)]; simp
    rw [hat]
    by_cases hk : k = r.2.2
    · subst hk
      rw [List.getElem?_set_self hp] at h
      cases h
      rw [BitVec.getLsbD_or, List.getD_eq_getElem?_getD, List.getElem?_eq_getElem hp, Option.getD_some, hold _ _ (List.getElem?_eq_getElem hp), spanS_bit b b i hi]
      have : (decide (b ≤ i) && decide (i ≤ b)) = decide (i = b) := by
        by_cases h : i = b
        · subst h; simp
        · rw [decide_eq_false h]
          rcases Nat.lt_or_ge i b with h1 | h1
          · rw [decide_eq_false (by omega)]; rfl
          · rw [decide_eq_false (show ¬ i ≤ b by omega)]; simp
      rw [this]
      simp [Bool.or_comm]
    · rw [List.getElem?_set_ne (Ne.symm hk)] at h
      rw [decide_eq_false hk, hold k x h]; simp
def simT (next : List (List Int)) (cells : List (BitVec 256)) (b g : Nat) : Bool := next.all fun row => row.getD (cellOf cells b) 0 == row.getD (cellOf cells g) 0
theorem alike_sim {cells : List (BitVec 256)} {next : List (List Int)} {fl : Nat} (hs : soundB cells next fl = true) {b g : Nat} (hb : b < 256) (hg : g < 256) : alikeB next (cellOf cells g) (cellOf cells b) = simT next cells b g := by
  obtain ⟨_, _, _, hrows⟩ := soundB_rows hs
  have h1 := (soundB_cells hs hb).1
  have h2 := (soundB_cells hs hg).1
  have key : ∀ row ∈ next, (row[cellOf cells g]? == row[cellOf cells b]?) = (row.getD (cellOf cells b) 0 == row.getD (cellOf cells g) 0) := by
    intro row hr
    have hl := (hrows row hr).1
    rw [List.getD_eq_getElem?_getD, List.getD_eq_getElem?_getD, List.getElem?_eq_getElem (by omega), List.getElem?_eq_getElem (by omega)]
    simp only [Option.getD_some]
    rw [Bool.eq_iff_iff]
    simp only [beq_iff_eq, Option.some.injEq]
    exact eq_comm
  unfold alikeB simT
  have hall : (next.all fun row => row[cellOf cells g]? == row[cellOf cells b]?) = next.all fun row => row.getD (cellOf cells b) 0 == row.getD (cellOf cells g) 0 := by
    rw [Bool.eq_iff_iff, List.all_eq_true, List.all_eq_true]
    constructor
    · intro h row hr; rw [← key row hr]; exact h row hr
    · intro h row hr; rw [key row hr]; exact h row hr
  rw [hall]
  by_cases he : cellOf cells g = cellOf cells b
  · rw [he]; simp
  · have : (cellOf cells g == cellOf cells b) = false := by simpa using he
    rw [this]; rfl
theorem simT_refl (next : List (List Int)) (cells : List (BitVec 256)) (a : Nat) : simT next cells a a = true := by simp [simT]
theorem findIdx_map {α β : Type} (f : α → β) (p : β → Bool) : ∀ l : List α, (l.map f).findIdx? p = l.findIdx? fun a => p (f a)
  | [] => rfl
  | a :: l => by
    rw [List.map_cons, List.findIdx?_cons, List.findIdx?_cons, findIdx_map f p l]
theorem findIdx_congr {α : Type} {p q : α → Bool} : ∀ {l : List α}, (∀ a ∈ l, p a = q a) → l.findIdx? p = l.findIdx? q
  | [], _ => rfl
  | a :: l, h => by
    rw [List.findIdx?_cons, List.findIdx?_cons, h a List.mem_cons_self, findIdx_congr fun x hx => h x (List.mem_cons_of_mem _ hx)]
theorem mRun_g {cells : List (BitVec 256)} {next : List (List Int)} {fl : Nat} (hs : soundB cells next fl = true) {sp : Nat → BitVec 256} : ∀ b, b ≤ 256 → (mRun next cells sp b).cols = (gRun (simT next cells) b).1.map (cellOf cells) ∧ (mRun next cells sp b).cell = (gRun (simT next cells) b).2
  | 0, _ => by simp [mRun, gRun]
  | b + 1, hb => by
    obtain ⟨h1, h2⟩ := mRun_g hs (sp := sp) b (by omega)
    have hok := gRun_ok (simT_refl next cells) b
    have hf : mFind next (mRun next cells sp b).cols (cellOf cells b) = (gRun (simT next cells) b).1.findIdx? fun g => simT next cells b g := by
      unfold mFind
      rw [h1, findIdx_map]
      exact findIdx_congr fun g hg => by
        obtain ⟨k, hk⟩ := List.getElem?_of_mem hg
        exact alike_sim hs (by omega) (by have := (hok.first k g hk).1; omega)
    unfold mRun mStep mNew
    rw [hf]
    cases hfi : (gRun (simT next cells) b).1.findIdx? fun g => simT next cells b g with
    | some k =>
      rw [gRun_some hfi]
      simp only
      exact ⟨h1, by rw [h2]⟩
    | none =>
      rw [gRun_none hfi]
      simp only
      exact ⟨by rw [h1, List.map_append]; rfl, by rw [h2, h1, List.length_map]⟩
attribute [local irreducible] mRun gRun
/-- What dfa.Cells tells of a table's automaton, by bytes. -/
theorem sets_of_g {cells : List (BitVec 256)} {next : List (List Int)} {final : List Bool} (hs : soundB cells next final.length = true) : (madeM cells next final).sets.length = (gRun (simT next cells) 256).1.length ∧
    ∀ (k : Nat) (x : BitVec 256), (madeM cells next final).sets[k]? = some x → ∀ i, i < 256 → x.getLsbD i = atSet (gRun (simT next cells) 256).2 k i := by
  have hc := fun b hb => (soundB_cells hs (b := b) hb).1
  obtain ⟨h1, h2⟩ := mRun_g hs (sp := fun b => spanS b b) 256 (Nat.le_refl _)
  have ho := mRun_ok (next := next) (sp := fun b => spanS b b) hc 256 (Nat.le_refl _)
  refine ⟨?_, fun k x hx i hi => ?_⟩
  · simp only [madeM]
    rw [← ho.len, h1, List.length_map]
  · rw [← h2]
    exact mRun_sets (next := next) hc 256 (Nat.le_refl _) k x hx i hi

end Go.Proofs.YtfbghcpdinlmcaaGreatDoor
/- The cells of a made automaton: a parting of the bytes, in the order of their least ones, that every step keeps to. -/
set_option linter.unusedVariables false
set_option linter.unusedSimpArgs false
set_option maxRecDepth 100000
namespace Go.Proofs.YtfbghcpdinlmcaaGreatDoor
open Go.VC
attribute [local irreducible] mRun gRun

structure CellsOk (o : Option AM) (ls : List Nat) : Prop where
  len : ls.length = (cellsM o).length
  up : ls.Pairwise (· < ·)
  least : ∀ (k : Nat) (c : BitVec 256), (cellsM o)[k]? = some c → ∃ l, ls[k]? = some l ∧ l < 256 ∧ (nextM c 0).1 = l ∧ c.getLsbD l = true
  keeps : ∀ (k : Nat) (c : BitVec 256) (l b : Nat), (cellsM o)[k]? = some c → ls[k]? = some l → b < 256 → c.getLsbD b = true → l ≤ b ∧ ∀ q : Int, 0 ≤ q → q < stN o → stepM o q b = stepM o q l
  cols : ∀ A, o = some A → ∀ k, k < A.sets.length → ∃ b, b < 256 ∧ A.cell[b]? = some k
  part : ∀ b, b < 256 → ∃ (k : Nat) (c : BitVec 256), (cellsM o)[k]? = some c ∧ c.getLsbD b = true ∧ ∀ (k' : Nat) (c' : BitVec 256), (cellsM o)[k']? = some c' → c'.getLsbD b = true → k' = k

theorem gRun_up {sim : Nat → Nat → Bool} (hr : ∀ a, sim a a = true) : ∀ b, (gRun sim b).1.Pairwise (· < ·)
  | 0 => by rw [gRun]; exact List.Pairwise.nil
  | b + 1 => by
    have ih := gRun_up hr b
    cases hf : (gRun sim b).1.findIdx? (fun g => sim b g) with
    | some k => rw [gRun_some hf]; exact ih
    | none =>
      rw [gRun_none hf]
      refine List.pairwise_append.2 ⟨ih, List.pairwise_singleton _ _, fun a ha c hc => ?_⟩
      rw [List.mem_singleton] at hc
      subst hc
      obtain ⟨k, hk⟩ := List.getElem?_of_mem ha
      exact ((gRun_ok hr c).first k a hk).1
theorem nextM_eq {c : BitVec 256} {l : Nat} (hl : l < 256) (h1 : c.getLsbD l = true) (h2 : ∀ b, b < l → c.getLsbD b = false) : (nextM c 0).1 = l := by
  have hf : ((List.range 256).find? fun b => decide (0 ≤ b) && c.getLsbD b) = some l := by
    rw [List.find?_range_eq_some]
    exact ⟨by simp [h1], by simpa using hl, fun j hj => by simp [h2 j hj]⟩
  unfold nextM
  rw [hf]
theorem cells_ok (cells : List (BitVec 256)) (next : List (List Int)) (final : List Bool) : ∃ ls, CellsOk (autoOf cells next final) ls := by
  unfold autoOf
  cases hs : soundB cells next final.length with
  | false =>
    refine ⟨[0], rfl, List.pairwise_singleton _ _, fun k c hc => ?_, fun k c l b hc hl hb hcb => ?_, fun A hb => ?_, fun b hb => ?_⟩
    · have hk : k = 0 := by have := (List.getElem?_eq_some_iff.1 hc).1; simpa [cellsM] using this
      subst hk
      have : c = BitVec.allOnes 256 := by simpa [cellsM] using hc.symm
      subst this
      exact ⟨0, rfl, by decide, nextM_eq (by decide) (by decide) (fun b hb => by omega), by decide⟩
    · have hk : k = 0 := by have := (List.getElem?_eq_some_iff.1 hc).1; simpa [cellsM] using this
      subst hk
      have : l = 0 := by simpa using hl.symm
      subst this
      refine ⟨Nat.zero_le _, fun q h0 h1 => ?_⟩
      simp only [Bool.false_eq_true, if_false] at h1 ⊢
      simp only [stN] at h1
      obtain rfl : q = 0 := by omega
      rfl
    · cases hb
    · refine ⟨0, BitVec.allOnes 256, rfl, ?_, fun k' c' h _ => ?_⟩
      · rw [BitVec.getLsbD_allOnes]; simp [hb]
      · have := (List.getElem?_eq_some_iff.1 h).1
        simpa [cellsM] using this
  | true =>
    simp only [if_true]
    obtain ⟨h1, h2⟩ := sets_of_g hs
    have hg := gRun_ok (simT_refl next cells) 256
    refine ⟨(gRun (simT next cells) 256).1, h1.symm, gRun_up (simT_refl next cells) 256, fun k c hc => ?_, fun k c l b hc hl hb hcb => ?_, fun A hA k hk => ?_, fun b hb => ?_⟩
    · have hk : k < (gRun (simT next cells) 256).1.length := by rw [← h1]; exact (List.getElem?_eq_some_iff.1 hc).1
      obtain ⟨g, hgk⟩ := get_some hk
      obtain ⟨g1, g2⟩ := hg.first k g hgk
      have hbit := h2 k c hc
      refine ⟨g, hgk, g1, nextM_eq g1 (by rw [hbit g g1]; simp [atSet, g2]) (fun b hb => ?_), by rw [hbit g g1]; simp [atSet, g2]⟩
      rw [hbit b (by omega)]
      unfold atSet
      rw [beq_eq_false_iff_ne]
      intro hp
      have := (hg.sig b k g hp hgk).2
      omega
    · rw [h2 k c hc b hb] at hcb
      have hp : (gRun (simT next cells) 256).2[b]? = some k := by simpa [atSet] using hcb
      obtain ⟨s1, s2⟩ := hg.sig b k l hp hl
      refine ⟨s2, fun q q0 q1 => ?_⟩
      obtain ⟨n, rfl⟩ := Int.eq_ofNat_of_zero_le q0
      have hl256 := (hg.first k l hl).1
      have hq : n < next.length := by simp only [stN, madeM, List.length_map] at q1; omega
      obtain ⟨row, hrow⟩ := get_some hq
      rw [madeM_step hs hrow hb, madeM_step hs hrow hl256]
      unfold simT at s1
      have := List.all_eq_true.1 s1 row (List.mem_of_getElem? hrow)
      simpa using this
    · cases hA
      obtain ⟨g, hgk⟩ := get_some (l := (gRun (simT next cells) 256).1) (k := k) (by rw [← h1]; exact hk)
      obtain ⟨g1, g2⟩ := hg.first k g hgk
      refine ⟨g, g1, ?_⟩
      have hm := (mRun_g hs (sp := fun b => spanS b b) 256 (Nat.le_refl _)).2
      simp only [madeM]
      rw [hm]; exact g2
    · obtain ⟨p, hp⟩ := get_some (l := (gRun (simT next cells) 256).2) (k := b) (by rw [hg.plen]; exact hb)
      have hpl := hg.lt p (List.mem_of_getElem? hp)
      obtain ⟨c, hc⟩ := get_some (l := (madeM cells next final).sets) (k := p) (by rw [h1]; exact hpl)
      refine ⟨p, c, hc, by rw [h2 p c hc b hb]; simp [atSet, hp], fun k' c' hc' hb' => ?_⟩
      rw [h2 k' c' hc' b hb] at hb'
      have : (gRun (simT next cells) 256).2[b]? = some k' := by simpa [atSet] using hb'
      rw [hp] at this
      exact (Option.some.inj this).symm
end Go.Proofs.YtfbghcpdinlmcaaGreatDoor
/- ambig.reps: the walk. -/
set_option linter.unusedVariables false
set_option linter.unusedSimpArgs false
set_option maxRecDepth 100000
namespace Go.VC
section
variable {α : Type} {T : Ty α} {e : TypeId} {a : Option Addr} {n cap : Nat} {xs : List α} {B : Nat → Prop} {H0 H : Heap} {ps : List Pc}
/-- One own slice appended to another. -/
theorem appSS {P : Program} {t ty by_ : Nat} {z : Value} {a2 : Option Addr} {n2 cap2 : Nat} {e2 : TypeId} {ys : List α} {K : Value → Heap → Prop} (st : StB B H0 H ps) (i j : Nat) (ht : SlT P t e T.size by_ z) (hp : ps[i]? = some (pS T e a n cap xs)) (hq : ps[j]? = some (pS T e2 a2 n2 cap2 ys))
    (hne : 0 < ys.length) (h1 : T.Ones) (h63 : xs.length + ys.length ≤ 4194304) (hby : by_ ≤ 1024)
    (k : ∀ a' cap' H', StB B H0 H' (ps.set i (pS T e a' (xs.length + ys.length) cap' (xs ++ ys))) → Agr (fun k => k < H.size ∧ ¬ slB (.slice a n cap) k) H H' → K (.slice a' (xs.length + ys.length) cap') H') :
    VEff P (Builtin.append_ #[t, t] ty [.slice a n cap, .slice a2 n2 cap2].toArray) H K := by
  obtain ⟨cs, ⟨h0, h2⟩, h3⟩ := (st.at_ j hq).1
  have hn2 := st.len j hq
  rcases h2 with ⟨h2, h4⟩ | ⟨b, c, l, h2, h4, h5, h6, h7, h8, h9⟩
  · omega
  · injection h2 with g1 g2 g3
    subst g1; subst g3
    refine appO st i ht hp (q := b) (o := 0) (ds := cs) (h5.cells fun j v hv => ?_) h3 hn2 (h1.reps h3) h63 hby k
    rw [← h9] at hv
    rw [Nat.zero_add]
    rw [List.getElem?_take] at hv
    split at hv
    · exact hv
    · cases hv
end
end Go.VC
namespace Go.Proofs.YtfbghcpdinlmcaaGreatDoor
open Go.VC
attribute [local irreducible] mRun gRun atRun
theorem cells_pos {o : Option AM} {ls : List Nat} (h : CellsOk o ls) : 0 < (cellsM o).length := by
  obtain ⟨k, c, hk, -⟩ := h.part 0 (by decide)
  exact Nat.lt_of_le_of_lt (Nat.zero_le k) (List.getElem?_eq_some_iff.1 hk).1
theorem cells_le {S : Nat → Prop} {H : Heap} {v : Value} {o : Option AM} (h : AutoV S H v o) : (cellsM o).length ≤ 256 := by
  cases o with
  | none => decide
  | some A => obtain ⟨_, _, _, hok, _⟩ := h; exact hok.sl
end Go.Proofs.YtfbghcpdinlmcaaGreatDoor
/- The nodes of ambig's graph: as keys of maps, in memory. -/
set_option linter.unusedVariables false
set_option linter.unusedSimpArgs false
set_option maxRecDepth 100000
namespace Go.Proofs.YtfbghcpdinlmcaaGreatDoor
open Go.VC

/-- A node: its stage, where its readers are. -/
structure Nd where
  s : Int
  x : Int
  y : Int
deriving DecidableEq
def Nd.Ok (n : Nd) : Prop := inK .i64 n.s ∧ inK .i64 n.x ∧ inK .i64 n.y
def ndV (n : Nd) : Value := .agg #[.int .i64 n.s, .int .i64 n.x, .int .i64 n.y]
def ndL (n : Nd) : List Value := [.int .i64 n.s, .int .i64 n.x, .int .i64 n.y]
/-- Nodes in memory. -/
def tNd : Ty Nd where
  size := 3
  rep _ _ cs n := cs = ndL n
  len h := by rw [h]; rfl
  frame h _ := h
  mono h _ := h
end Go.Proofs.YtfbghcpdinlmcaaGreatDoor
/- Graphs of nodes with ends: the least word that leads to an end; plain law. -/
set_option linter.unusedVariables false
set_option linter.unusedSimpArgs false
namespace Go.Proofs.YtfbghcpdinlmcaaGreatDoor

structure Gr where
  next : Nd → Nat → List Nd
  ends : Nd → Bool
/-- The word w leads from n to an end. -/
def Leads (g : Gr) : List Nat → Nd → Prop
  | [], n => g.ends n = true
  | b :: w, n => ∃ t, t ∈ g.next n b ∧ Leads g w t
/-- .. from some node of P. -/
def LeadsP (g : Gr) (P : Nd → Prop) (w : List Nat) : Prop := ∃ n, P n ∧ Leads g w n
/-- Words of one length: no later in order. -/
def lexL : List Nat → List Nat → Prop
  | a :: s, b :: t => a < b ∨ (a = b ∧ lexL s t)
  | _, _ => True
def bytes_ (w : List Nat) : Prop := ∀ b ∈ w, b < 256
/-- Of the words of k bytes that lead from P to an end w is the first. -/
def FirstOf (g : Gr) (P : Nd → Prop) (k : Nat) (w : List Nat) : Prop := w.length = k ∧ bytes_ w ∧ LeadsP g P w ∧ ∀ u, u.length = k → bytes_ u → LeadsP g P u → lexL w u
end Go.Proofs.YtfbghcpdinlmcaaGreatDoor

/- Graphs of nodes: how far it is to an end; plain law. -/
set_option linter.unusedVariables false
set_option linter.unusedSimpArgs false
namespace Go.Proofs.YtfbghcpdinlmcaaGreatDoor

/-- What can be reached from a by the bytes of by_. -/
inductive Reach (g : Gr) (by_ : List Nat) (a : Nd) : Nd → Prop
  | refl : Reach g by_ a a
  | step {n t : Nd} {b : Nat} (h : Reach g by_ a n) (hb : b ∈ by_) (ht : t ∈ g.next n b) : Reach g by_ a t
/-- The distances to an end, of all that can be reached. -/
structure DistOk (g : Gr) (by_ : List Nat) (a : Nd) (left : Nd → Option Nat) : Prop where
  ends : ∀ n, Reach g by_ a n → g.ends n = true → left n = some 0
  pred : ∀ n k, left n = some k → ∀ p b, Reach g by_ a p → b ∈ by_ → n ∈ g.next p b → ∃ j, j ≤ k + 1 ∧ left p = some j
  word : ∀ n k, left n = some k → Reach g by_ a n ∧ ∃ w, w.length = k ∧ (∀ b ∈ w, b ∈ by_) ∧ Leads g w n
section
variable {g : Gr} {by_ : List Nat} {a : Nd} {left : Nd → Option Nat}
variable (hby : ∀ c, c < 256 → ∃ r ∈ by_, r ≤ c ∧ ∀ n, g.next n r = g.next n c)
include hby
end
end Go.Proofs.YtfbghcpdinlmcaaGreatDoor

/- Distances to an end by a queue, from the ends back; plain law. -/
set_option linter.unusedVariables false
set_option linter.unusedSimpArgs false
namespace Go.Proofs.YtfbghcpdinlmcaaGreatDoor
open Go.VC
/-- What leads to n. -/
def PredsOk (g : Gr) (by_ : List Nat) (a n : Nd) (left : Nd → Option Nat) (k : Nat) : Prop := ∀ p b, Reach g by_ a p → b ∈ by_ → n ∈ g.next p b → ∃ j, j ≤ k + 1 ∧ left p = some j
/-- The queue, no element out; k is the least distance that it may still hold. -/
structure BInv (g : Gr) (by_ : List Nat) (a : Nd) (left : Nd → Option Nat) (todo : List Nd) (k : Nat) : Prop where
  ends : ∀ n, Reach g by_ a n → g.ends n = true → left n = some 0
  word : ∀ n j, left n = some j → Reach g by_ a n ∧ ∃ w, w.length = j ∧ (∀ b ∈ w, b ∈ by_) ∧ Leads g w n
  q : ∀ n ∈ todo, ∃ j, left n = some j ∧ k ≤ j
  up : ∀ n j, left n = some j → j ≤ k + 1
  sorted : todo.Pairwise fun n p => ∀ i j, left n = some i → left p = some j → i ≤ j
  done : ∀ n j, left n = some j → n ∉ todo → PredsOk g by_ a n left j
/-- .. element n, at distance k, is out; those that lead to it are gone through: what holds of d is done. -/
structure BMid (g : Gr) (by_ : List Nat) (a : Nd) (left : Nd → Option Nat) (todo : List Nd) (n : Nd) (k : Nat) (d : Nd → Prop) : Prop where
  ends : ∀ n, Reach g by_ a n → g.ends n = true → left n = some 0
  word : ∀ n j, left n = some j → Reach g by_ a n ∧ ∃ w, w.length = j ∧ (∀ b ∈ w, b ∈ by_) ∧ Leads g w n
  here : left n = some k
  q : ∀ n ∈ todo, ∃ j, left n = some j ∧ k ≤ j
  up : ∀ n j, left n = some j → j ≤ k + 1
  sorted : todo.Pairwise fun n p => ∀ i j, left n = some i → left p = some j → i ≤ j
  done : ∀ m j, left m = some j → m ∉ todo → m ≠ n → PredsOk g by_ a m left j
  now : ∀ p, d p → ∃ j, j ≤ k + 1 ∧ left p = some j
section
variable {g : Gr} {by_ : List Nat} {a n p : Nd} {left : Nd → Option Nat} {todo : List Nd} {k : Nat} {d : Nd → Prop}
end
end Go.Proofs.YtfbghcpdinlmcaaGreatDoor

/- All that can be reached, in the order in which it is found, and what leads to it; plain law. -/
set_option linter.unusedVariables false
set_option linter.unusedSimpArgs false
namespace Go.Proofs.YtfbghcpdinlmcaaGreatDoor
/-- The nodes found so far; bk t p: p is listed as one that leads to t; what holds of d has been gone through. -/
structure RInv (g : Gr) (by_ : List Nat) (a : Nd) (order : List Nd) (bk : Nd → Nd → Prop) (d : Nd → Nat → Nd → Prop) : Prop where
  first : order[0]? = some a
  nodup : order.Nodup
  reach : ∀ n ∈ order, Reach g by_ a n
  back : ∀ t p, bk t p → Reach g by_ a p ∧ ∃ b, b ∈ by_ ∧ t ∈ g.next p b
  done : ∀ n b t, d n b t → t ∈ order ∧ bk t n
section
variable {g : Gr} {by_ : List Nat} {a n t : Nd} {b : Nat} {order : List Nd} {bk bk' : Nd → Nd → Prop} {d : Nd → Nat → Nd → Prop}
end
end Go.Proofs.YtfbghcpdinlmcaaGreatDoor

/- Rows of nodes, each with the least word of one length that leads to it; plain law. -/
set_option linter.unusedVariables false
set_option linter.unusedSimpArgs false
namespace Go.Proofs.YtfbghcpdinlmcaaGreatDoor

/-! ### the order -/
/-! ### ways -/
/-- w leads from n to t. -/
def To (g : Gr) : List Nat → Nd → Nd → Prop
  | [], n, t => n = t
  | b :: w, n, t => ∃ m, m ∈ g.next n b ∧ To g w m t
/-! ### rows -/
abbrev NW := Nd × List Nat
structure RowOk (g : Gr) (by_ : List Nat) (a : Nd) (L : Nat) (F : List NW) : Prop where
  nd : (F.map (·.1)).Nodup
  ok : ∀ x ∈ F, x.2.length = L ∧ (∀ b ∈ x.2, b ∈ by_) ∧ To g x.2 a x.1
  all : ∀ w t, w.length = L → (∀ b ∈ w, b ∈ by_) → To g w a t → ∃ x ∈ F, x.1 = t ∧ lexL x.2 w
/-- The row of words of one byte more, while it is made: what holds of d has been put in. -/
structure RowMid (g : Gr) (by_ : List Nat) (a : Nd) (L : Nat) (F : List NW) (d : Nd → List Nat → Prop) : Prop where
  nd : (F.map (·.1)).Nodup
  ok : ∀ x ∈ F, x.2.length = L ∧ (∀ b ∈ x.2, b ∈ by_) ∧ To g x.2 a x.1
  all : ∀ t w, d t w → w.length = L → ∃ x ∈ F, x.1 = t ∧ lexL x.2 w
section
variable {g : Gr} {by_ : List Nat} {a n t : Nd} {L : Nat} {F F' : List NW} {d d' : Nd → List Nat → Prop} {w : List Nat} {r : Bool}
variable (hby : ∀ c, c < 256 → ∃ r ∈ by_, r ≤ c ∧ ∀ n, g.next n r = g.next n c)
include hby
end
end Go.Proofs.YtfbghcpdinlmcaaGreatDoor

/- The graphs of Meets, Cat and Iter, and what their words say; plain law. -/
set_option linter.unusedVariables false
set_option linter.unusedSimpArgs false
namespace Go.Proofs.YtfbghcpdinlmcaaGreatDoor
open Go.VC
/-- Where a word leads. -/
def runL (o : Option AM) (w : List Nat) (q : Int) : Int := w.foldl (fun q b => stepM o q b) q
def accL (o : Option AM) (w : List Nat) : Bool := finM o (runL o w 0)
def root : Nd := ⟨0, 0, 0⟩

section
variable {a b : Option AM}
end
section
variable {a : Option AM}
end
end Go.Proofs.YtfbghcpdinlmcaaGreatDoor
/- ambig's graphs in memory; maps of slices that begin with nil ones. -/
set_option linter.unusedVariables false
set_option linter.unusedSimpArgs false
set_option maxRecDepth 100000
namespace Go.VC
section
variable {α β : Type} {Ok : α → Prop} {enc : α → Value} {T : Ty β} {e : TypeId} {b : Nat} {m : α → Option Value} {B : Nat → Prop} {H0 H H' : Heap} {ps : List Pc}
end
end Go.VC
namespace Go.Proofs.YtfbghcpdinlmcaaGreatDoor
open Go.VC
/-- What is asked of a graph: its bytes, its nodes, their numbers. -/
structure GraphOk (g : Gr) (by_ : List Nat) (M C : Nat) : Prop where
  byl : ∀ b ∈ by_, b < 256
  nb : by_.length ≤ 256
  ok : ∀ n, Reach g by_ root n → n.Ok
  card : ∀ l : List Nd, l.Nodup → (∀ n ∈ l, Reach g by_ root n) → l.length ≤ M
  occ : ∀ n b t, Reach g by_ root n → b ∈ by_ → (g.next n b).count t ≤ C
  c0 : 1 ≤ C
  big : C * (256 * M) ≤ 5864062014805
/-- A graph in memory. -/
structure GraphV (S : Nat → Prop) (H : Heap) (v : Value) (g : Gr) (by_ : List Nat) : Prop where
  out : ∃ (pg : Nat) (ba : Option Addr) (bc : Nat) (f e : FuncId) (fs cs es ds : List Value), v = .pointer (some ⟨pg, 0, none⟩) ∧ S pg ∧
    Blk H pg 206 [.slice ba by_.length bc, .func (.func f) fs.toArray cs.toArray, .func (.func e) es.toArray ds.toArray] ∧ SlD (tInt .u8) S H ba bc (by_.map fun (b : Nat) => (b : Int)) ∧
    (∀ H', Agr S H H' → ∀ n b, Reach g by_ root n → b ∈ by_ → FnOk Tryz.prog f (fs ++ [ndV n, .int .u8 (b : Int)] ++ cs).toArray H' fun v H'' => Agr (Old H') H' H'' ∧ SlO tNd none_ H'' H'.size 208 v (g.next n b)) ∧
    (∀ H', Agr S H H' → ∀ n, Reach g by_ root n → Pure Tryz.prog e (es ++ [ndV n] ++ ds).toArray H' (.bool (g.ends n)))
end Go.Proofs.YtfbghcpdinlmcaaGreatDoor

/- ambig's reach: the walk. -/
set_option linter.unusedVariables false
set_option linter.unusedSimpArgs false
set_option maxRecDepth 100000
namespace Go.Proofs.YtfbghcpdinlmcaaGreatDoor
open Go.VC
end Go.Proofs.YtfbghcpdinlmcaaGreatDoor

/- ambig's first, once the distances are known: byte by byte; plain law. -/
set_option linter.unusedVariables false
set_option linter.unusedSimpArgs false
namespace Go.VC
end Go.VC
namespace Go.Proofs.YtfbghcpdinlmcaaGreatDoor
open Go.VC
/-- What is left of the word that is asked for: r bytes, from one of P on. -/
structure Pre (g : Gr) (a : Nd) (lf : Nd → Option Nat) (L r : Nat) (w : List Nat) (P : Nd → Prop) : Prop where
  len : w.length + r = L
  fst : ∀ v, FirstOf g P r v → FirstOf g (· = a) L (w ++ v)
  all : ∀ n, P n → lf n = some r
  ne : ∃ n, P n
section
variable {g : Gr} {by_ : List Nat} {a : Nd} {lf : Nd → Option Nat} {L k b : Nat} {w : List Nat} {P Q : Nd → Prop}
variable (hby : ∀ c, c < 256 → ∃ r ∈ by_, r ≤ c ∧ ∀ n, g.next n r = g.next n c)
include hby
end
def bA (w : List Nat) : ByteArray := ⟨(w.map UInt8.ofNat).toArray⟩
end Go.Proofs.YtfbghcpdinlmcaaGreatDoor

/- ambig's first: the walk. -/
set_option linter.unusedVariables false
set_option linter.unusedSimpArgs false
set_option maxRecDepth 100000
namespace Go.Proofs.YtfbghcpdinlmcaaGreatDoor
open Go.VC
/-- The nodes whose distance is known. -/
structure Seen (g : Gr) (by_ : List Nat) (lf : Nd → Option Nat) (seen : List Nd) : Prop where
  nd : seen.Nodup
  mem : ∀ n, (lf n).isSome = true ↔ n ∈ seen
  le : ∀ n j, lf n = some j → j ≤ seen.length
  rch : ∀ n ∈ seen, Reach g by_ root n
end Go.Proofs.YtfbghcpdinlmcaaGreatDoor
/- The graphs of Meets, Cat and Iter are what the walks ask for; cuts; plain law. -/
set_option linter.unusedVariables false
set_option linter.unusedSimpArgs false
set_option maxRecDepth 100000
namespace Go.Proofs.YtfbghcpdinlmcaaGreatDoor
open Go.VC
attribute [local irreducible] mRun gRun atRun
/-- A state of o. -/
def inA (o : Option AM) (q : Int) : Prop := 0 ≤ q ∧ q < stN o
/-- o's steps stay among its states, of which there are at most 65536. -/
structure StepOk (o : Option AM) : Prop where
  n1 : 1 ≤ stN o
  n2 : stN o ≤ 65536
  step : ∀ q b, inA o q → b < 256 → inA o (stepM o q b)
theorem step_rng0 {S : Nat → Prop} {H : Heap} {v : Value} {o : Option AM} (h : AutoV S H v o) {q b : Nat} (hq : q < stN o) (hb : b < 256) : 0 ≤ stepM o (q : Int) b ∧ stepM o (q : Int) b < stN o := by
  cases o with
  | none =>
    have : q = 0 := by simp only [stN] at hq; omega
    subst this
    decide +revert
  | some A =>
    obtain ⟨pb, rfl, hown, hok, _⟩ := h
    exact stepM_range hok (by omega) (by simp only [stN] at hq; omega) hb
theorem AutoV.steps {S : Nat → Prop} {H : Heap} {v : Value} {o : Option AM} (h : AutoV S H v o) : StepOk o :=
  ⟨(stN_le h).1, (stN_le h).2, fun q b hq hb => by
    obtain ⟨n, rfl⟩ := Int.eq_ofNat_of_zero_le hq.1
    exact step_rng0 h (by have := hq.2; omega) hb⟩
/-- Nodes of at most K stages behind the first. -/
structure InR (K : Nat) (n : Nd) : Prop where
  s0 : 0 ≤ n.s
  s1 : n.s ≤ K
  x0 : 0 ≤ n.x
  x1 : n.x < 65536
  y0 : 0 ≤ n.y
  y1 : n.y < 65536
  z : n.s = 0 → n.y = 0
section
variable {a b : Option AM}
end
end Go.Proofs.YtfbghcpdinlmcaaGreatDoor

/- Texts and their cuts; plain law. -/
set_option linter.unusedVariables false
set_option linter.unusedSimpArgs false
set_option maxRecDepth 100000
namespace Go.Proofs.YtfbghcpdinlmcaaGreatDoor
open Go.VC
attribute [local irreducible] mRun gRun atRun
theorem bA_size (w : List Nat) : (bA w).size = w.length := by unfold bA; simp [ByteArray.size]
theorem bA_data (w : List Nat) : (bA w).data.toList = w.map UInt8.ofNat := by unfold bA; simp
theorem acc_bA {o : Option AM} {w : List Nat} (h : bytes_ w) : acceptsM o (bA w) = accL o w := by
  unfold acceptsM accL runM runL
  rw [bA_size, bA_data, List.take_of_length_le (by simp), List.foldl_map]
  congr 1
  have : ∀ (w : List Nat) (q : Int), bytes_ w → w.foldl (fun q b => stepM o q (UInt8.ofNat b).toNat) q = w.foldl (fun q b => stepM o q b) q := fun w => by
    induction w with
    | nil => intro q _; rfl
    | cons c w ih =>
      intro q hb
      have hc := hb c List.mem_cons_self
      have e : (UInt8.ofNat c).toNat = c := by simp; omega
      rw [List.foldl_cons, List.foldl_cons, e]
      exact ih _ fun d hd => hb d (List.mem_cons_of_mem _ hd)
  exact this w 0 h
end Go.Proofs.YtfbghcpdinlmcaaGreatDoor
/- The functions that Cat gives to its graph: the walks. -/
set_option linter.unusedVariables false
set_option linter.unusedSimpArgs false
set_option maxRecDepth 100000
namespace Go.Proofs.YtfbghcpdinlmcaaGreatDoor
open Go.VC
attribute [local irreducible] mRun gRun atRun
/-- A variable of its own that holds an automaton. -/
structure VarA (S : Nat → Prop) (H : Heap) (p : Nat) (o : Option AM) : Prop where
  out : ∃ v, S p ∧ Blk H p 23 [v] ∧ AutoV S H v o
end Go.Proofs.YtfbghcpdinlmcaaGreatDoor

/- ambig's cut and Cat: the walks. -/
set_option linter.unusedVariables false
set_option linter.unusedSimpArgs false
set_option maxRecDepth 100000
namespace Go.Proofs.YtfbghcpdinlmcaaGreatDoor
open Go.VC
attribute [local irreducible] mRun gRun atRun
end Go.Proofs.YtfbghcpdinlmcaaGreatDoor

/- ambig's Iter and its functions: the walks. -/
set_option linter.unusedVariables false
set_option linter.unusedSimpArgs false
set_option maxRecDepth 100000
namespace Go.Proofs.YtfbghcpdinlmcaaGreatDoor
open Go.VC
attribute [local irreducible] mRun gRun atRun
/-- A variable that holds Iter's moves. -/
structure VarF (S : Nat → Prop) (H : Heap) (p pa : Nat) : Prop where
  in_ : S p
  blk : Blk H p 269 [.func (.func 148) #[] #[.pointer (some ⟨pa, 0, none⟩)]]
end Go.Proofs.YtfbghcpdinlmcaaGreatDoor

/- ambig's Iter: the walk. -/
set_option linter.unusedVariables false
set_option linter.unusedSimpArgs false
set_option maxRecDepth 100000
namespace Go.Proofs.YtfbghcpdinlmcaaGreatDoor
open Go.VC
attribute [local irreducible] mRun gRun atRun
end Go.Proofs.YtfbghcpdinlmcaaGreatDoor
/- The document's Cells: the walk. -/
set_option linter.unusedVariables false
set_option linter.unusedSimpArgs false
set_option maxRecDepth 100000
namespace Go.Proofs.YtfbghcpdinlmcaaGreatDoor
open Go.VC
attribute [local irreducible] mRun atRun gRun

def fdG (sim : Nat → Nat → Bool) (b : Nat) (l : List Nat) : Int := match l.findIdx? fun g => sim b g with
  | some k => (k : Int)
  | none => -1
theorem fdG_none {sim : Nat → Nat → Bool} {b : Nat} {l : List Nat} : fdG sim b l < 0 ↔ (l.findIdx? fun g => sim b g) = none := by
  unfold fdG
  split
  · rename_i k h; rw [h]; simp
  · rename_i h; rw [h]; simp
theorem fdG_in {sim : Nat → Nat → Bool} {b : Nat} {l : List Nat} : -1 ≤ fdG sim b l ∧ fdG sim b l < l.length := by
  unfold fdG
  split
  · rename_i k h
    have := (List.findIdx?_eq_some_iff_getElem.1 h).1
    omega
  · omega
theorem fdG_snoc {sim : Nat → Nat → Bool} {b g : Nat} {l : List Nat} (h : fdG sim b l < 0) : fdG sim b (l ++ [g]) = if sim b g then (l.length : Int) else -1 := by
  have h1 := fdG_none.1 h
  unfold fdG
  rw [List.findIdx?_append, h1]
  simp only [List.findIdx?_singleton, Option.none_or]
  cases hs : sim b g <;> simp
theorem fdG_take {sim : Nat → Nat → Bool} {b k : Nat} {l : List Nat} (h : 0 ≤ fdG sim b (l.take k)) : fdG sim b l = fdG sim b (l.take k) := by
  have h1 : (l.take k).findIdx? (fun g => sim b g) ≠ none := fun h2 => by have := fdG_none.2 h2; omega
  cases h2 : (l.take k).findIdx? (fun g => sim b g) with
  | none => exact absurd h2 h1
  | some k0 =>
    have h3 : l.findIdx? (fun g => sim b g) = some k0 := by
      conv => lhs; rw [← List.take_append_drop k l]
      rw [List.findIdx?_append, h2]; rfl
    unfold fdG
    rw [h2, h3]

def simTo (D : DM) (b g j : Nat) : Bool := (List.range j).all fun q => stepD D (q : Int) b == stepD D (q : Int) g
def simD (D : DM) (b g : Nat) : Bool := simTo D b g D.next.length
theorem simTo_succ (D : DM) (b g j : Nat) : simTo D b g (j + 1) = (simTo D b g j && (stepD D (j : Int) b == stepD D (j : Int) g)) := by
  unfold simTo
  rw [List.range_succ, List.all_append]; simp
theorem simD_refl (D : DM) (a : Nat) : simD D a a = true := by simp [simD, simTo]
theorem simTo_no {D : DM} {b g j : Nat} (hj : j ≤ D.next.length) (h : simTo D b g j = false) : simD D b g = false := by
  cases hs : simD D b g with
  | false => rfl
  | true =>
    unfold simD simTo at hs
    have : simTo D b g j = true := by
      unfold simTo
      rw [List.all_eq_true] at hs ⊢
      exact fun q hq => hs q (List.mem_range.2 (by have := List.mem_range.1 hq; omega))
    rw [this] at h; cases h

set_option maxHeartbeats 8000000 in
theorem refcells_o {S : Nat → Prop} {H : Heap} {v : Value} {D : DM} (hS : ∀ k, S k → k < H.size) (hw : DfaV S H v D) (hdok : D.Ok) :
    FnOk Tryz.prog 62 #[v] H fun v H' => Agr (Old H) H H' ∧ H.size ≤ H'.size ∧ ∃ a cap, v = .slice a (gRun (simD D) 256).1.length cap ∧
      SlO tF (fun _ => False) H' H.size 157 (.slice a (gRun (simD D) 256).1.length cap) (atSets (gRun (simD D) 256).2 (gRun (simD D) 256).1.length) := by
  have hlen := hw.len
  have hdn := hdok.n2
  refine FnOk.of_vc Tryz.func62 rfl (Tryz.call62 _) ?_
  (conv => whnf); refine dfa_box hw fun ra rc na nc fa' fc' he h1 h2 h3 => ?_
  subst he
  intro pb H1 hpb hs1 hb1 ha1
  have hA1 : Agr (Old H) H H1 := ha1.mono fun j hj => by unfold Old at hj; omega
  (conv => whnf)
  refine VLoop.mk [3, 4, 5] (fun x : Nat × Value × Value => match x with | (b, vo, vf) => [vo, vf, .int .i64 b]) (fun x H2 => x.1 ≤ 256 ∧ Agr (Old H1) H1 H2 ∧ H1.size ≤ H2.size ∧
    SlO tF (fun _ => False) H2 H1.size 157 x.2.1 (atSets (gRun (simD D) x.1).2 (gRun (simD D) x.1).1.length) ∧ SlO tI (fun _ => False) H2 H1.size 3 x.2.2 (asI (gRun (simD D) x.1).1) ∧ ∀ j, slB x.2.1 j → ¬ slB x.2.2 j) (fun x _ => 256 - x.1) ?_ ?_
  · (conv => whnf)
    exact ⟨(0, .slice none 0 0, .slice none 0 0), rfl, by simp, Agr.refl _ _, Nat.le_refl _, by unfold gRun; exact SlO.nil, by unfold gRun; exact SlO.nil, fun j hj => by obtain ⟨o, n, c, h⟩ := hj; cases h⟩
  · rintro ⟨b, vo, vf⟩ H2 junk ⟨hb, ha2, hs2, ho, hf, hap⟩
    simp only at hb ho hf hap
    have hok := gRun_ok (simD_refl D) b
    have hfl := hok.flen
    obtain ⟨fa, fcap, rfl, hfv, -⟩ := hf.view (S' := Old H2) (fun j hj => (hf.lt hj).2) (fun _ f => f.elim)
    obtain ⟨oa, ocap, rfl, hov, -⟩ := ho.view (S' := Old H2) (fun j hj => (ho.lt hj).2) (fun _ f => f.elim)
    rw [asI_len, atSets_len] at *
    have hA2 : Agr (Old H) H H2 := hA1.trans (ha2.mono fun k hk => old_lt hA1 hk)
    have hb2 := hb1.agr ha2 hb1.lt
    (conv => whnf); refine VIte.mk (fun h => ?_) (fun h => ?_) <;> simp only [decide_eq_true_eq, decide_eq_false_iff_not] at h
    · (conv => whnf)
      refine VLoop.mk [6, 7] (fun k : Nat => [.int .i64 (fdG (simD D) b ((gRun (simD D) b).1.take k)), .int .i64 k]) (fun k H3 => k ≤ (gRun (simD D) b).1.length ∧ Agr (Old H2) H2 H3) (fun k _ => (gRun (simD D) b).1.length - k) ?_ ?_
      · (conv => whnf); exact ⟨0, rfl, by omega, Agr.refl _ _⟩
      · rintro k H3 junk3 ⟨hk, ha3⟩
        have hs3 := old_size ha3
        by_cases hkl : k < (gRun (simD D) b).1.length
        · have d1 : decide ((k : Int) < ((gRun (simD D) b).1.length : Int)) = true := decide_eq_true (by omega)
          (conv => whnf); rw [d1]
          (conv => whnf); refine VIte.mk (fun h1' => ?_) (fun h1' => ?_) <;> simp only [decide_eq_true_eq, decide_eq_false_iff_not] at h1'
          · obtain ⟨g, hg⟩ := get_some hkl
            have hgb := (hok.first k g hg).1
            (conv => whnf); refine VSeq.run ?_
            (conv => whnf)
            refine VLoop.mk [8, 9] (fun j : Nat => [.bool (simTo D b g j), .int .i64 j]) (fun j H4 => j ≤ D.next.length ∧ Agr (Old H2) H2 H4) (fun j _ => D.next.length - j) ?_ ?_
            · (conv => whnf); exact ⟨0, rfl, by omega, ha3⟩
            · rintro j H4 junk4 ⟨hj, ha4⟩
              have hA4 := hA2.trans (ha4.mono fun k hk => old_lt hA2 hk)
              have hb4 := hb2.agr ha4 hb2.lt
              have up : ∀ {H' : Heap}, Agr (Old H) H H' → ∀ k, S k → k < H'.size := fun h k hk => old_lt h (hS k hk)
              have hneg : fdG (simD D) b ((gRun (simD D) b).1.take k) = -1 := by have := (fdG_in (sim := simD D) (b := b) (l := (gRun (simD D) b).1.take k)).1; omega
              (conv => whnf); refine VC.fa fl43_2 ?_
              (conv => whnf); refine ld1 ct35 (by rw [hb4.cell, Nat.zero_add]; exact dfaL_257 hlen) trivial ?_
              by_cases hjl : j < D.next.length
              · have d2 : decide ((j : Int) < (D.next.length : Int)) = true := decide_eq_true (by omega)
                cases hal : simTo D b g j with
                | true =>
                  (conv => whnf); rw [d2]
                  (conv => whnf); refine VDraw.quiet (Old H4) rfl (by kernel_rfl) ?_
                  (conv => whnf); refine dfa_load hb4 hlen hb4.lt (h1.frame (hA4.mono hS)) (h2.frame (hA4.mono hS)) (h3.frame (hA4.mono hS)) fun v5 hv5 => ?_
                  (conv => whnf); rw [w8 (x := (b : Int)) (by omega) (by omega)]
                  (conv => whnf); refine pureq (fun H' h' => refstep_p (up (hA4.trans (h'.mono fun k hk => old_lt hA4 hk))) (hv5.frame (h'.mono fun k hk => up hA4 k hk)) hdok (show b < 256 by omega)) ?_
                  (conv => whnf); refine dfa_load hb4 hlen hb4.lt (h1.frame (hA4.mono hS)) (h2.frame (hA4.mono hS)) (h3.frame (hA4.mono hS)) fun v6 hv6 => ?_
                  (conv => whnf); refine ixrn sl41 (hfv.frame ha4) (asI_len _).symm (asI_get hg) rfl ?_
                  rintro b6 o6 cs6 hSb6 hcells6 ⟨rfl, -⟩
                  (conv => whnf); refine ld1 ct3 hcells6.one (old_lt ha4 hSb6) ?_
                  (conv => whnf); rw [w8 (x := (g : Int)) (by omega) (by omega)]
                  (conv => whnf); refine pureq (fun H' h' => refstep_p (up (hA4.trans (h'.mono fun k hk => old_lt hA4 hk))) (hv6.frame (h'.mono fun k hk => up hA4 k hk)) hdok (show g < 256 by omega)) ?_
                  (conv => whnf)
                  intro H5 ha5
                  (conv => whnf); rw [w64 (x := (j : Int) + 1) (by omega) (by omega)]
                  exact ⟨rfl, j + 1, by rw [simTo_succ, hal]; simp, ⟨by omega, ha4.trans (ha5.mono fun k hk => old_lt ha4 hk)⟩, by omega⟩
                | false =>
                  have hs := simTo_no hj hal
                  (conv => whnf); rw [d2]
                  (conv => whnf); rw [w64 (x := (k : Int) + 1) (by omega) (by omega)]
                  refine ⟨rfl, k + 1, ?_, ⟨by omega, ha4⟩, by omega⟩
                  rw [take_succ_snoc hg, fdG_snoc h1', hs, hneg]; simp
              · obtain rfl : j = D.next.length := by omega
                have d2 : decide ((D.next.length : Int) < (D.next.length : Int)) = false := decide_eq_false (by omega)
                rw [show simTo D b g D.next.length = simD D b g from rfl]
                cases hs : simD D b g with
                | true =>
                  (conv => whnf); rw [d2]
                  (conv => whnf); rw [w64 (x := (k : Int) + 1) (by omega) (by omega)]
                  refine ⟨rfl, k + 1, ?_, ⟨by omega, ha4⟩, by omega⟩
                  rw [take_succ_snoc hg, fdG_snoc h1', hs]
                  simp; omega
                | false =>
                  (conv => whnf); rw [d2]
                  (conv => whnf); rw [w64 (x := (k : Int) + 1) (by omega) (by omega)]
                  refine ⟨rfl, k + 1, ?_, ⟨by omega, ha4⟩, by omega⟩
                  rw [take_succ_snoc hg, fdG_snoc h1', hs, hneg]; simp
          · rw [← fdG_take (by omega)]
            replace h1' : 0 ≤ fdG (simD D) b (gRun (simD D) b).1 := by rw [fdG_take (k := k) (by omega)]; omega
            replace ho := ho.agr ha3 (fun j hj => (ho.lt hj).2) (fun _ f => f.elim)
            replace hf := hf.agr ha3 (fun j hj => (hf.lt hj).2) (fun _ f => f.elim)
            replace ha2 := ha2.trans (ha3.mono fun k hk => old_lt ha2 hk)
            replace hs2 : H1.size ≤ H3.size := by omega
            cases hfi : (gRun (simD D) b).1.findIdx? fun g => simD D b g with
            | none => exact absurd (fdG_none.2 hfi) (by omega)
            | some k0 =>
              have hk0 := (List.findIdx?_eq_some_iff_getElem.1 hfi).1
              have hfd : fdG (simD D) b (gRun (simD D) b).1 = (k0 : Int) := by unfold fdG; rw [hfi]
              rw [hfd]
              have hnext : gRun (simD D) (b + 1) = ((gRun (simD D) b).1, (gRun (simD D) b).2 ++ [k0]) := gRun_some hfi
              obtain ⟨vb, cap, l, e1, hlo, hblk, hlen, hput⟩ := SlO.byte ho (atSets_get hk0) (show b < 256 by omega)
              rw [atSets_len] at e1
              injection e1 with e2 e3 e4
              subst e2; subst e4
              (conv => whnf); refine VSeq.run ?_
              (conv => whnf); refine ix slF_ (by omega) (by omega) ?_
              (conv => whnf); refine ixa ar157 (by omega) (by omega) ?_
              (conv => whnf); refine st1 ct4 hblk (by rw [show tF.size = 256 from rfl]; omega) rfl ?_
              intro H6 hb6 ha6 hs6
              rw [show 0 + ((k0 : Nat) : Int).toNat * tF.size + ((b : Nat) : Int).toNat * 1 = k0 * 256 + b by rw [show tF.size = 256 from rfl]; omega] at hb6
              have ho6 := hput H6 hb6
              have hput2 := atSets_put (ps := (gRun (simD D) b).2) hk0
              rw [hok.plen] at hput2
              rw [hput2] at ho6
              have hf6 := hf.agr ha6 (fun j hj => by rintro rfl; exact hap _ ⟨0, _, _, rfl⟩ hj) (fun _ f => f.elim)
              (conv => whnf); rw [w64 (x := (b : Int) + 1) (by omega) (by omega)]
              refine ⟨rfl, (b + 1, .slice (some ⟨vb, 0, none⟩) (gRun (simD D) b).1.length ocap, .slice fa (gRun (simD D) b).1.length fcap), by simp, ⟨by simp only; omega, ha2.trans (ha6.mono fun j hj => by unfold Old at hj; omega), by omega, ?_, ?_, hap⟩, by simp only; omega⟩
              · simp only [hnext]; exact ho6
              · simp only [hnext]; exact hf6
        · obtain rfl : k = (gRun (simD D) b).1.length := by omega
          have d1 : decide (((gRun (simD D) b).1.length : Int) < ((gRun (simD D) b).1.length : Int)) = false := decide_eq_false (by omega)
          rw [List.take_length]
          replace ho := ho.agr ha3 (fun j hj => (ho.lt hj).2) (fun _ f => f.elim)
          replace hf := hf.agr ha3 (fun j hj => (hf.lt hj).2) (fun _ f => f.elim)
          replace ha2 := ha2.trans (ha3.mono fun k hk => old_lt ha2 hk)
          replace hs2 : H1.size ≤ H3.size := by omega
          (conv => whnf); rw [d1]
          by_cases h1' : fdG (simD D) b (gRun (simD D) b).1 < 0
          · have hfi := fdG_none.1 h1'
            have hfd : fdG (simD D) b (gRun (simD D) b).1 = -1 := by have := (fdG_in (sim := simD D) (b := b) (l := (gRun (simD D) b).1)).1; omega
            rw [hfd]
            have hnext : gRun (simD D) (b + 1) = ((gRun (simD D) b).1 ++ [b], (gRun (simD D) b).2 ++ [(gRun (simD D) b).1.length]) := gRun_none hfi
            have hlt' : ∀ p ∈ (gRun (simD D) b).2, p < (gRun (simD D) b).1.length := hok.lt
            (conv => whnf); refine VSeq.run ?_
            (conv => whnf); refine vbuildA ar157 (Tryz.t157.zero.getD undef) rfl (List.replicate 256 (.bool false)) rfl ?_
            (conv => whnf); refine vbuild1 slF_ (List.replicate 256 (.bool false)) rfl rfl (by decide) (by decide) ?_
            intro q4 H4 hq4 hs4 hb4 ha4
            have ho4 := ho.agr ha4 (fun j hj => by have := (ho.lt hj).2; omega) (fun _ f => f.elim)
            have hf4 := hf.agr ha4 (fun j hj => by have := (hf.lt hj).2; omega) (fun _ f => f.elim)
            (conv => whnf); refine vappendO (T := tF) (S := fun _ => False) (ys := [fun _ => false]) (ds := List.replicate 256 (.bool false)) (lo := H1.size) (xs := atSets (gRun (simD D) b).2 (gRun (simD D) b).1.length) slF_ ho4 (by omega) (fun j hj => hj.elim)
              (hb4.cells (fun j v hv => by rw [Nat.zero_add]; exact hv)) (Ty.reps_one (show List.replicate 256 (Value.bool false) = funL (fun _ => false) from funL_zero.symm)) rfl (by intro u hu; rw [List.eq_of_mem_replicate hu]; rfl) (by rw [atSets_len]; simp only [maxLen, List.length_singleton]; omega) (by rw [atSets_len]; simp only [List.length_singleton]; omega) ?_
            intro v5 H5 ho5 ha5 hs5 hfr5
            rw [← atSets_more _ _ hlt'] at ho5
            have hf5 := hf4.agr ha5 (fun j hj => ⟨(hf4.lt hj).2, fun h => hap j h hj⟩) (fun _ f => f.elim)
            have hb5 : Blk H5 q4 157 (List.replicate 256 (.bool false)) := hb4.agr ha5 ⟨hb4.lt, fun h => by have := (ho.lt h).2; omega⟩
            (conv => whnf); refine vbuild1 sl41 [.int .i64 (b : Int)] rfl rfl (by decide) (by decide) ?_
            intro q6 H6 hq6 hs6 hb6 ha6
            have ho6 := ho5.agr ha6 (fun j hj => by have := (ho5.lt hj).2; omega) (fun _ f => f.elim)
            have hf6 := hf5.agr ha6 (fun j hj => by have := (hf5.lt hj).2; omega) (fun _ f => f.elim)
            (conv => whnf); refine vappendO (T := tI) (S := fun _ => False) (ys := [(b : Int)]) (ds := [.int .i64 (b : Int)]) (lo := H1.size) (xs := asI (gRun (simD D) b).1) sl41 hf6 (by omega) (fun j hj => hj.elim)
              (hb6.cells (fun j v hv => by simpa using hv)) (Ty.reps_one ⟨rfl, inI64 (by omega)⟩) rfl (by intro u hu; cases List.mem_singleton.1 hu; rfl) (by rw [asI_len]; simp only [maxLen, List.length_singleton]; omega) (by rw [asI_len]; simp only [List.length_singleton]; omega) ?_
            intro v7 H7 hf7 ha7 hs7 hfr7
            have hap5 : ∀ j, slB v5 j → ¬ slB (.slice fa (gRun (simD D) b).1.length fcap) j := fun j hj hj' => by
              rcases hfr5 j hj with h | h
              · exact hap j h hj'
              · have := (hf.lt hj').2; omega
            have ho7 := ho6.agr ha7 (fun j hj => ⟨(ho6.lt hj).2, hap5 j hj⟩) (fun _ f => f.elim)
            have hap7 : ∀ j, slB v5 j → ¬ slB v7 j := fun j hj hj' => by
              rcases hfr7 j hj' with h | h
              · exact hap5 j hj h
              · have := (ho6.lt hj).2; omega
            have hget7 : (atSets (gRun (simD D) b).2 ((gRun (simD D) b).1.length + 1))[(gRun (simD D) b).1.length]? = some (atSet (gRun (simD D) b).2 (gRun (simD D) b).1.length) := atSets_get (by omega)
            obtain ⟨vb, cap, l, e1, hlo, hblk, hlen, hput⟩ := SlO.byte ho7 hget7 (show b < 256 by omega)
            subst e1
            rw [atSets_len] at *
            have hnn : (gRun (simD D) b).1.length < (gRun (simD D) b).1.length + 1 := by omega
            (conv => whnf); refine ix slF_ (by omega) (by omega) ?_
            (conv => whnf); refine ixa ar157 (by omega) (by omega) ?_
            (conv => whnf); refine st1 ct4 hblk (by rw [show tF.size = 256 from rfl]; omega) rfl ?_
            intro H8 hb8 ha8 hs8
            rw [show 0 + (((gRun (simD D) b).1.length : Nat) : Int).toNat * tF.size + ((b : Nat) : Int).toNat * 1 = (gRun (simD D) b).1.length * 256 + b by rw [show tF.size = 256 from rfl]; omega] at hb8
            have ho8 := hput H8 hb8
            have hput2 := atSets_put (ps := (gRun (simD D) b).2) hnn
            rw [hok.plen] at hput2
            rw [hput2] at ho8
            have hf8 := hf7.agr ha8 (fun j hj => by rintro rfl; exact hap7 _ ⟨0, _, _, rfl⟩ hj) (fun _ f => f.elim)
            have hA8 : Agr (Old H1) H1 H8 := ((((ha2.trans (ha4.mono fun j hj => by have := old_lt ha2 hj; omega)).trans (ha5.mono fun j hj => ⟨by have := old_lt ha2 hj; omega, fun h => by have := (ho.lt h).1; unfold Old at hj; omega⟩)).trans (ha6.mono fun j hj => by have := old_lt ha2 hj; omega)).trans (ha7.mono fun j hj => ⟨by have := old_lt ha2 hj; omega, fun h => by have := (hf.lt h).1; unfold Old at hj; omega⟩)).trans (ha8.mono fun j hj => by unfold Old at hj; omega)
            (conv => whnf); rw [w64 (x := (b : Int) + 1) (by omega) (by omega)]
            refine ⟨rfl, (b + 1, _, _), rfl, ⟨by simp only; omega, hA8, by omega, ?_, ?_, hap7⟩, by simp only; omega⟩
            · simp only [hnext, List.length_append, List.length_singleton]; exact ho8
            · simp only [hnext, asI, List.map_append, List.map_cons, List.map_nil]; exact hf8
          · replace h1' : 0 ≤ fdG (simD D) b (gRun (simD D) b).1 := by omega
            cases hfi : (gRun (simD D) b).1.findIdx? fun g => simD D b g with
            | none => exact absurd (fdG_none.2 hfi) (by omega)
            | some k0 =>
              have hk0 := (List.findIdx?_eq_some_iff_getElem.1 hfi).1
              have hfd : fdG (simD D) b (gRun (simD D) b).1 = (k0 : Int) := by unfold fdG; rw [hfi]
              rw [hfd]
              have hnext : gRun (simD D) (b + 1) = ((gRun (simD D) b).1, (gRun (simD D) b).2 ++ [k0]) := gRun_some hfi
              obtain ⟨vb, cap, l, e1, hlo, hblk, hlen, hput⟩ := SlO.byte ho (atSets_get hk0) (show b < 256 by omega)
              rw [atSets_len] at e1
              injection e1 with e2 e3 e4
              subst e2; subst e4
              (conv => whnf); refine VSeq.run ?_
              (conv => whnf); refine ix slF_ (by omega) (by omega) ?_
              (conv => whnf); refine ixa ar157 (by omega) (by omega) ?_
              (conv => whnf); refine st1 ct4 hblk (by rw [show tF.size = 256 from rfl]; omega) rfl ?_
              intro H6 hb6 ha6 hs6
              rw [show 0 + ((k0 : Nat) : Int).toNat * tF.size + ((b : Nat) : Int).toNat * 1 = k0 * 256 + b by rw [show tF.size = 256 from rfl]; omega] at hb6
              have ho6 := hput H6 hb6
              have hput2 := atSets_put (ps := (gRun (simD D) b).2) hk0
              rw [hok.plen] at hput2
              rw [hput2] at ho6
              have hf6 := hf.agr ha6 (fun j hj => by rintro rfl; exact hap _ ⟨0, _, _, rfl⟩ hj) (fun _ f => f.elim)
              (conv => whnf); rw [w64 (x := (b : Int) + 1) (by omega) (by omega)]
              refine ⟨rfl, (b + 1, .slice (some ⟨vb, 0, none⟩) (gRun (simD D) b).1.length ocap, .slice fa (gRun (simD D) b).1.length fcap), by simp, ⟨by simp only; omega, ha2.trans (ha6.mono fun j hj => by unfold Old at hj; omega), by omega, ?_, ?_, hap⟩, by simp only; omega⟩
              · simp only [hnext]; exact ho6
              · simp only [hnext]; exact hf6
    · obtain rfl : b = 256 := by omega
      obtain ⟨oa2, ocap2, e2, hov2, -⟩ := ho.view (S' := Fresh H H2) (fun j hj => ⟨by have := (ho.lt hj).1; omega, (ho.lt hj).2⟩) (fun _ f => f.elim)
      rw [atSets_len] at e2
      injection e2 with e3 e4 e5
      subst e3; subst e5
      (conv => whnf)
      exact ⟨hA2, by omega, _, _, rfl, ho.lower (by omega)⟩
end Go.Proofs.YtfbghcpdinlmcaaGreatDoor
/- The program's automaton and the document's, side by side. -/
set_option linter.unusedVariables false
set_option linter.unusedSimpArgs false
set_option maxRecDepth 100000
namespace Go.Proofs.YtfbghcpdinlmcaaGreatDoor
open Go.VC
attribute [local irreducible] mRun atRun

/-- The program's automaton and the document's are alike. -/
structure Both (o : Option AM) (D : DM) : Prop where
  ok : D.Ok
  n : stN o = D.next.length
  step : ∀ (q : Int) (b : Nat), b < 256 → stepM o q b = stepD D q b
  fin : ∀ q : Int, finM o q = finD D q
  alive : ∀ q : Int, aliveM o q = aliveD D q
theorem both_of (cells : List (BitVec 256)) (next : List (List Int)) (final : List Bool) : Both (autoOf cells next final) (dfaOf cells next final) :=
  ⟨dfaOf_ok _ _ _, both_n _ _ _, fun q b hb => both_step _ _ _ q hb, both_final _ _ _, both_alive _ _ _⟩
section
variable {o : Option AM} {D : DM}
end
end Go.Proofs.YtfbghcpdinlmcaaGreatDoor
/- The document's side of layer 9: the bytes that stand for all, the game's rules. -/
set_option linter.unusedVariables false
set_option linter.unusedSimpArgs false
set_option maxRecDepth 100000
namespace Go.Proofs.YtfbghcpdinlmcaaGreatDoor
open Go.VC
attribute [local irreducible] mRun gRun atRun

/-! ### cells as sets of bits -/
def bvF (f : Nat → Bool) : Nat → BitVec 256
  | 0 => 0#256
  | n + 1 => if f n then bvF f n ||| spanS n n else bvF f n
theorem bvF_bit (f : Nat → Bool) {b : Nat} (hb : b < 256) : ∀ n, (bvF f n).getLsbD b = (decide (b < n) && f b)
  | 0 => by simp [bvF]
  | n + 1 => by
    have ih := bvF_bit f hb n
    unfold bvF
    split
    · rename_i hf
      rw [BitVec.getLsbD_or, ih, spanS_bit n n b hb]
      by_cases h : b = n
      · subst h; simp [hf]
      · have h1 : decide (b < n + 1) = decide (b < n) := by rw [decide_eq_decide]; omega
        have h2 : (decide (n ≤ b) && decide (b ≤ n)) = false := by simp; omega
        rw [h1, h2, Bool.or_false]
    · rename_i hf
      rw [ih]
      by_cases h : b = n
      · subst h; simp [hf]
      · have h1 : decide (b < n + 1) = decide (b < n) := by rw [decide_eq_decide]; omega
        rw [h1]
def bvN (f : Nat → Bool) : BitVec 256 := bvF f 256
theorem bvN_bit (f : Nat → Bool) {b : Nat} (hb : b < 256) : (bvN f).getLsbD b = f b := by
  unfold bvN
  rw [bvF_bit f hb, decide_eq_true hb, Bool.true_and]
theorem funL_bits (f : Nat → Bool) : funL f = bitsL (bvN f) := by
  unfold funL bitsL bitsTo
  refine List.map_congr_left fun b hb => ?_
  have hb := List.mem_range.1 hb
  rw [bvN_bit f hb, decide_eq_true hb, Bool.true_and]
theorem reps_bits {S : Nat → Prop} {H : Heap} : ∀ {cs : List Value} {fs : List (Nat → Bool)}, tF.reps S H cs fs → tB.reps S H cs (fs.map bvN)
  | _, [], h => h
  | _, f :: fs, ⟨c, r, e, hc, hr⟩ => ⟨c, r, e, (show c = bitsL (bvN f) by rw [← funL_bits]; exact hc), reps_bits hr⟩
def cellsD (D : DM) : List (BitVec 256) := (atSets (gRun (simD D) 256).2 (gRun (simD D) 256).1.length).map bvN
theorem refcellsB {S : Nat → Prop} {H : Heap} {v : Value} {D : DM} (hS : ∀ k, S k → k < H.size) (hw : DfaV S H v D) (hdok : D.Ok) :
    FnOk Tryz.prog 62 #[v] H fun v H' => Agr (Old H) H H' ∧ SlO tB none_ H' H.size 157 v (cellsD D) := by
  refine (refcells_o hS hw hdok).mono ?_
  rintro v' H' ⟨h1, h2, a, cap, rfl, cs, h3, h4⟩
  refine ⟨h1, cs, ?_, reps_bits h4⟩
  unfold cellsD
  rw [List.length_map]
  exact h3
theorem cellsD_len (D : DM) : 0 < (cellsD D).length ∧ (cellsD D).length ≤ 256 := by
  have hg := gRun_ok (simD_refl D) 256
  unfold cellsD
  rw [List.length_map, atSets_len]
  have h0 : (gRun (simD D) 256).2.length = 256 := hg.plen
  obtain ⟨p, hp⟩ := get_some (l := (gRun (simD D) 256).2) (k := 0) (by omega)
  have := hg.lt p (List.mem_of_getElem? hp)
  exact ⟨by omega, hg.flen⟩
/-- The bytes that the document goes by. -/
def repsD (A B : DM) : List Nat := (atRun (cellsD A ++ cellsD B) 256).1
theorem repsD_lt (A B : DM) : ∀ r ∈ repsD A B, r < 256 := fun r hr => by
  obtain ⟨k, hk⟩ := List.getElem?_of_mem hr
  exact ((atRun_ok (cellsD A ++ cellsD B) 256).first k r hk).1
theorem repsD_len (A B : DM) : (repsD A B).length ≤ 256 := (atRun_ok (cellsD A ++ cellsD B) 256).flen
end Go.Proofs.YtfbghcpdinlmcaaGreatDoor
/- Automata of the document in memory, parted bytes; two states of memory one behind the other. -/
set_option linter.unusedVariables false
set_option linter.unusedSimpArgs false
set_option maxRecDepth 100000
namespace Go.VC
/-- What was made later stands beside what was there. -/
theorem StB.cat {B : Nat → Prop} {H0 H H' : Heap} {ps qs : List Pc} (st : StB B H0 H ps) (st2 : St H H' qs) : StB B H0 H' (ps ++ qs) := by
  have h1 := st.call st2.old
  refine ⟨h1.old, h1.lt0, h1.size, fun p hp => ?_, fun p hp k hk => ?_, ?_⟩
  · rcases List.mem_append.1 hp with hp | hp
    · exact h1.oks p hp
    · exact st2.oks p hp
  · rcases List.mem_append.1 hp with hp | hp
    · exact h1.rng p hp k hk
    · obtain ⟨h2, h3⟩ := st2.rng p hp k hk
      exact ⟨fun hB => h2 (st.up hB), h3⟩
  · refine List.pairwise_append.2 ⟨h1.dis, st2.dis, fun p hp q hq k hk hk' => ?_⟩
    exact (st2.rng q hq k hk').1 (st.rng p hp k hk).2
end Go.VC
namespace Go.Proofs.YtfbghcpdinlmcaaGreatDoor
open Go.VC
attribute [local irreducible] mRun gRun atRun
theorem dfa_len {S : Nat → Prop} {H : Heap} {la : List Value} {D : DM} (h : DfaV S H (.agg la.toArray) D) : la.length = 259 ∧ ∃ fa fc, la[258]? = some (.slice fa D.final.length fc) ∧ SlD tBool S H fa fc D.final := by
  obtain ⟨hl, ra, rc, na, nc, fa, fc, e, h1, h2, h3⟩ := h
  injection e with e
  have e : la = dfaL D.cell (.slice ra D.reps.length rc) (.slice na D.next.length nc) (.slice fa D.final.length fc) := by simpa using e
  subst e
  exact ⟨dfaL_len hl, fa, fc, dfaL_258 hl, h3⟩
theorem fin_ix {S S0 : Nat → Prop} {H : Heap} {fa : Option Addr} {fc : Nat} {D : DM} {x : Int} {K : Value → Prop} (h : SlD tBool S H fa fc D.final) (h0 : 0 ≤ x) (h1 : x < D.final.length) (hk : ∀ b o, S b → VC.cell H b o = some (.bool (finD D x)) → K (.pointer (some ⟨b, o, none⟩))) :
    VDet Tryz.prog (Instr.indexAt 36 (.slice fa D.final.length fc) (.int .i64 x)) S0 H K := by
  obtain ⟨n, rfl⟩ := Int.eq_ofNat_of_zero_le h0
  obtain ⟨f, hf⟩ := get_some (l := D.final) (k := n) (by omega)
  refine ixr (i := n) sl36 h hf rfl ?_
  rintro b o cs hS hc rfl
  refine hk b o hS ?_
  rw [hc.one]
  simp [finD, hf]
/-- A slice that is only read, as a piece. -/
def pV (a : Option Addr) (cap : Nat) (xs : List Int) (S : Nat → Prop) : Pc := ⟨S, fun H => SlD tI S H a cap xs, fun h hp => hp.frame h⟩
theorem splice_whole {l cs : List Value} (h : l.length = cs.length) : splice l 0 cs = cs := by
  apply List.ext_getElem?
  intro j
  by_cases hj : j < cs.length
  · rw [splice_get (by omega), if_pos ⟨Nat.zero_le _, by omega⟩, Nat.sub_zero]
  · rw [List.getElem?_eq_none (by rw [splice_length (by omega)]; omega), List.getElem?_eq_none (by omega)]
end Go.Proofs.YtfbghcpdinlmcaaGreatDoor
/- The document's Determinize: the walk. -/
set_option linter.unusedVariables false
set_option linter.unusedSimpArgs false
set_option maxRecDepth 100000
namespace Go.Proofs.YtfbghcpdinlmcaaGreatDoor
open Go.VC
attribute [local irreducible] mRun gRun atRun
end Go.Proofs.YtfbghcpdinlmcaaGreatDoor
/- The least bytes of the atoms are the same on both sides: the plain law. -/
set_option linter.unusedVariables false
set_option linter.unusedSimpArgs false
set_option maxRecDepth 100000
namespace Go.Proofs.YtfbghcpdinlmcaaGreatDoor
open Go.VC
def leastB (cells : List (BitVec 256)) (g : Nat) : Bool := (List.range g).all fun h => !sigEq cells g h
theorem sigEq_iff {cells : List (BitVec 256)} {a b : Nat} : sigEq cells a b = true ↔ ∀ c ∈ cells, c.getLsbD a = c.getLsbD b := by
  unfold sigEq
  simp
theorem leastB_iff {cells : List (BitVec 256)} {g : Nat} : leastB cells g = true ↔ ∀ h, h < g → sigEq cells g h = false := by
  unfold leastB
  simp
theorem exists_least {cells : List (BitVec 256)} {b : Nat} : ∀ h, sigEq cells b h = true → ∃ g, g ≤ h ∧ sigEq cells b g = true ∧ leastB cells g = true := by
  intro h
  induction h using Nat.strongRecOn with
  | _ h ih =>
    intro hb
    by_cases hl : leastB cells h = true
    · exact ⟨h, Nat.le_refl _, hb, hl⟩
    · have : ∃ h', h' < h ∧ sigEq cells h h' = true := by
        apply Classical.byContradiction
        intro hno
        apply hl
        rw [leastB_iff]
        intro h' hh'
        cases hs : sigEq cells h h' with
        | false => rfl
        | true => exact absurd ⟨h', hh', hs⟩ hno
      obtain ⟨h', hlt, hs⟩ := this
      obtain ⟨g, g1, g2, g3⟩ := ih h' hlt (sigEq_iff.2 fun c hc => (sigEq_iff.1 hb c hc).trans (sigEq_iff.1 hs c hc))
      exact ⟨g, by omega, g2, g3⟩
theorem atRun_filter (cells : List (BitVec 256)) : ∀ b, (atRun cells b).1 = (List.range b).filter (leastB cells)
  | 0 => rfl
  | b + 1 => by
    have ih := atRun_filter cells b
    rw [List.range_succ, List.filter_append]
    cases hf : (atRun cells b).1.findIdx? fun g => sigEq cells b g with
    | some k =>
      rw [atRun_some hf]
      obtain ⟨hk, h1, -⟩ := List.findIdx?_eq_some_iff_getElem.1 hf
      have hm : (atRun cells b).1[k] ∈ (List.range b).filter (leastB cells) := by rw [← ih]; exact List.getElem_mem hk
      have hlt := List.mem_range.1 (List.mem_filter.1 hm).1
      have : leastB cells b = false := by
        cases hl : leastB cells b with
        | false => rfl
        | true => rw [leastB_iff.1 hl _ hlt] at h1; cases h1
      rw [List.filter_cons_of_neg (by rw [this]; decide)]
      simpa using ih
    | none =>
      rw [atRun_none hf]
      have : leastB cells b = true := by
        rw [leastB_iff]
        intro h hh
        cases hs : sigEq cells b h with
        | false => rfl
        | true =>
          obtain ⟨g, g1, g2, g3⟩ := exists_least h hs
          have hm : g ∈ (atRun cells b).1 := by rw [ih]; exact List.mem_filter.2 ⟨List.mem_range.2 (by omega), g3⟩
          have := List.findIdx?_eq_none_iff.1 hf g hm
          rw [g2] at this
          cases this
      rw [List.filter_cons_of_pos this, ih]
      rfl
/-! ### the blocks -/
def Apart_ (x y : BitVec 256) : Prop := ∀ c, x.getLsbD c = true → y.getLsbD c = false
theorem cut_mem {s b x : BitVec 256} (h : x ∈ cutB s b) : x = b &&& s ∨ x = b &&& ~~~s := by
  have := (List.mem_filter.1 h).1
  simpa using this
theorem blocks_apart (sets : List (BitVec 256)) : (blocksM sets).Pairwise Apart_ := by
  have key : ∀ (rest bl : List (BitVec 256)), bl.Pairwise Apart_ → (rest.foldl partB bl).Pairwise Apart_ := by
    intro rest
    induction rest with
    | nil => exact fun bl h => h
    | cons s rest ih =>
      intro bl h
      refine ih _ ?_
      unfold partB
      rw [List.pairwise_flatMap]
      refine ⟨fun b hb => ?_, h.imp fun {x y} hxy u hu v hv c hc => ?_⟩
      · refine List.Pairwise.filter _ ?_
        refine List.pairwise_cons.2 ⟨fun y hy c hc => ?_, List.pairwise_singleton _ _⟩
        rw [List.mem_singleton] at hy
        subst hy
        rw [BitVec.getLsbD_and, Bool.and_eq_true] at hc
        rw [BitVec.getLsbD_and, BitVec.getLsbD_not, hc.2]
        simp
      · have h1 : x.getLsbD c = true := by
          rcases cut_mem hu with rfl | rfl <;> · rw [BitVec.getLsbD_and, Bool.and_eq_true] at hc; exact hc.1
        have h2 := hxy c h1
        rcases cut_mem hv with rfl | rfl <;> rw [BitVec.getLsbD_and, h2, Bool.false_and]
  exact key sets _ (List.pairwise_singleton _ _)
theorem blocks_sep (sets : List (BitVec 256)) : ∀ x ∈ blocksM sets, ∀ c d, c < 256 → d < 256 → (∀ s ∈ sets, s.getLsbD c = s.getLsbD d) → x.getLsbD c = x.getLsbD d := by
  have key : ∀ (rest bl : List (BitVec 256)) (c d : Nat), c < 256 → d < 256 → (∀ x ∈ bl, x.getLsbD c = x.getLsbD d) → (∀ s ∈ rest, s.getLsbD c = s.getLsbD d) → ∀ x ∈ rest.foldl partB bl, x.getLsbD c = x.getLsbD d := by
    intro rest
    induction rest with
    | nil => exact fun bl c d _ _ h _ => h
    | cons s rest ih =>
      intro bl c d hc hd h hr
      refine ih _ c d hc hd (fun x hx => ?_) fun s' hs' => hr s' (List.mem_cons_of_mem _ hs')
      obtain ⟨b, hb, hx⟩ := List.mem_flatMap.1 hx
      have h1 := h b hb
      have h2 := hr s (List.mem_cons_self ..)
      rcases cut_mem hx with rfl | rfl
      · rw [BitVec.getLsbD_and, BitVec.getLsbD_and, h1, h2]
      · rw [BitVec.getLsbD_and, BitVec.getLsbD_and, BitVec.getLsbD_not, BitVec.getLsbD_not, h1, h2]
        simp [hc, hd]
  intro x hx c d hc hd hs
  refine key sets _ c d hc hd (fun x hx => ?_) hs x hx
  rw [List.mem_singleton] at hx
  subst hx
  rw [BitVec.getLsbD_allOnes, BitVec.getLsbD_allOnes]
  simp [hc, hd]
theorem one_of {l : List (BitVec 256)} {b : Nat} (h : l.Pairwise Apart_) (hne : ∀ x ∈ l, x.getLsbD b = true) (hx : l ≠ []) : ∃ x, l = [x] := by
  match l, hx with
  | [x], _ => exact ⟨x, rfl⟩
  | x :: y :: r, _ =>
    have h1 := (List.pairwise_cons.1 h).1 y (by simp) b (hne x (by simp))
    rw [hne y (by simp)] at h1
    cases h1
theorem repsM_filter (sets : List (BitVec 256)) : repsM sets = (List.range 256).filter (leastB sets) := by
  have hok := part_ok sets
  have hone : ∀ b, b < 256 → (atomsAt (blocksM sets) b).map (fun c => (nextM c 0).1) = if leastB sets b then [b] else [] := by
    intro b hb
    have hall : ∀ x ∈ atomsAt (blocksM sets) b, x ∈ blocksM sets ∧ (nextM x 0).1 = b ∧ x.getLsbD b = true := fun x hx => by
      obtain ⟨h1, h2⟩ := List.mem_filter.1 hx
      have h3 : (nextM x 0).1 = b := by simpa using h2
      have h4 := (least_of (hok.ne x h1)).1
      rw [h3] at h4
      exact ⟨h1, h3, h4⟩
    cases hl : leastB sets b with
    | false =>
      rw [if_neg (by decide)]
      have : atomsAt (blocksM sets) b = [] := by
        apply Classical.byContradiction
        intro hne
        obtain ⟨x, hx⟩ := List.exists_mem_of_ne_nil _ hne
        obtain ⟨h1, h2, h3⟩ := hall x hx
        have : ∃ h, h < b ∧ sigEq sets b h = true := by
          apply Classical.byContradiction
          intro hno
          have : leastB sets b = true := leastB_iff.2 fun h hh => by
            cases hs : sigEq sets b h with
            | false => rfl
            | true => exact absurd ⟨h, hh, hs⟩ hno
          rw [hl] at this; cases this
        obtain ⟨h, hh, hs⟩ := this
        have h4 := blocks_sep sets x h1 b h hb (by omega) (sigEq_iff.1 hs)
        rw [h3] at h4
        have h5 := (least_of (hok.ne x h1)).2 h (by rw [h2]; exact hh)
        rw [h5] at h4; cases h4
      rw [this]; rfl
    | true =>
      rw [if_pos rfl]
      obtain ⟨x, hx, hxb⟩ := hok.all b hb
      obtain ⟨l1, l2⟩ := least_of (hok.ne x hx)
      have hle : (nextM x 0).1 = b := by
        apply Classical.byContradiction
        intro hne
        have hlt : (nextM x 0).1 < b := by
          rcases Nat.lt_or_ge b (nextM x 0).1 with h | h
          · rw [l2 b h] at hxb; cases hxb
          · omega
        have hs := hok.same x hx b _ hxb l1
        have := leastB_iff.1 hl _ hlt
        rw [sigEq_iff.2 hs] at this; cases this
      have hmem : x ∈ atomsAt (blocksM sets) b := List.mem_filter.2 ⟨hx, by rw [hle]; simp⟩
      obtain ⟨y, hy⟩ := one_of (l := atomsAt (blocksM sets) b) (b := b) ((blocks_apart sets).filter _) (fun z hz => (hall z hz).2.2) (List.ne_nil_of_mem hmem)
      rw [hy]
      have := (hall y (by rw [hy]; simp)).2.1
      simp only [List.map_cons, List.map_nil, this]
  unfold repsM atomsM
  rw [List.map_flatMap]
  have key : ∀ l : List Nat, (∀ b ∈ l, b < 256) → (l.flatMap fun b => (atomsAt (blocksM sets) b).map fun c => (nextM c 0).1) = l.filter (leastB sets) := by
    intro l
    induction l with
    | nil => exact fun _ => rfl
    | cons b l ih =>
      intro h
      rw [List.flatMap_cons, hone b (h b (List.mem_cons_self ..)), ih fun x hx => h x (List.mem_cons_of_mem _ hx)]
      cases hl : leastB sets b with
      | true => rw [List.filter_cons_of_pos hl]; rfl
      | false => rw [List.filter_cons_of_neg (by rw [hl]; decide)]; rfl
  exact key _ fun b hb => List.mem_range.1 hb
end Go.Proofs.YtfbghcpdinlmcaaGreatDoor
/- Making automata deterministic: the plain law: the walk over all bytes, and over one byte of each atom, find the same sets. -/
set_option linter.unusedVariables false
set_option linter.unusedSimpArgs false
set_option maxRecDepth 100000
namespace Go.Proofs.YtfbghcpdinlmcaaGreatDoor
open Go.VC
attribute [local irreducible] mRun gRun atRun
section
variable {K : Type} [DecidableEq K] {most : Nat} {step : K → Nat → K} {start : K} {P : K → Prop} {x : K}
theorem rowF_fst (s : Option (List K × List Nat)) (b : Nat) : (rowF most step x s b).map Prod.fst = (s.map Prod.fst).bind fun f => (atF most f (step x b)).map Prod.fst := by
  cases s with
  | none => rfl
  | some p =>
    simp only [rowF, Option.bind_some, Option.map_some]
    cases atF most p.1 (step x b) <;> rfl
theorem atF_old {f : List K} {k : K} {i : Nat} (hn : f.Nodup) (h : f[i]? = some k) : atF most f k = some (f, i) := by
  unfold atF
  have : f.findIdx? (· = k) = some i := by
    rw [List.findIdx?_eq_some_iff_getElem]
    obtain ⟨hi, e⟩ := List.getElem?_eq_some_iff.1 h
    refine ⟨hi, by simpa using e, fun j hj => ?_⟩
    have := (List.pairwise_iff_getElem.1 hn) j i (by omega) hi hj
    rw [e] at this
    simpa using this
  rw [this]
theorem atF_mem2 {F F' : List K} {k : K} {i : Nat} (h : atF most F k = some (F', i)) : ∀ y ∈ F', y ∈ F ∨ y = k := by
  intro y hx
  unfold atF at h
  split at h
  · injection h with h; injection h with h1 h2; subst h1; exact .inl hx
  · split at h
    · injection h with h; injection h with h1 h2; subst h1
      rcases List.mem_append.1 hx with hx | hx
      · exact .inl hx
      · rw [List.mem_singleton] at hx; exact .inr hx
    · cases h
theorem row_P (hs : ∀ b, P (step x b)) : ∀ (l : List Nat) (f f' : List K) (r r' : List Nat), l.foldl (rowF most step x) (some (f, r)) = some (f', r') → (∀ y ∈ f, P y) → ∀ y ∈ f', P y
  | [], f, f', r, r', h, hf => by
    simp only [List.foldl_nil, Option.some.injEq, Prod.mk.injEq] at h
    obtain ⟨rfl, -⟩ := h
    exact hf
  | b :: l, f, f', r, r', h, hf => by
    rw [List.foldl_cons] at h
    simp only [rowF, Option.bind_some] at h
    cases ha : atF most f (step x b) with
    | none => rw [ha] at h; rw [Option.map_none, rowF_none] at h; cases h
    | some p =>
      rw [ha] at h
      refine row_P hs l p.1 f' _ r' h fun y hy => ?_
      rcases atF_mem2 (i := p.2) ha y hy with h1 | rfl
      · exact hf y h1
      · exact hs b
theorem row_pre : ∀ (l : List Nat) (f f' : List K) (r r' : List Nat), l.foldl (rowF most step x) (some (f, r)) = some (f', r') → f.length ≤ most → f.Nodup → f'.length ≤ most ∧ f'.Nodup ∧ f <+: f' ∧ ∃ r2, r' = r ++ r2
  | [], f, f', r, r', h, h1, h2 => by
    simp only [List.foldl_nil, Option.some.injEq, Prod.mk.injEq] at h
    obtain ⟨rfl, rfl⟩ := h
    exact ⟨h1, h2, List.prefix_refl _, [], by simp⟩
  | b :: l, f, f', r, r', h, h1, h2 => by
    rw [List.foldl_cons] at h
    simp only [rowF, Option.bind_some] at h
    cases ha : atF most f (step x b) with
    | none => rw [ha] at h; rw [Option.map_none, rowF_none] at h; cases h
    | some p =>
      rw [ha] at h
      obtain ⟨-, g1, g2, g3⟩ := atF_some (i := p.2) ha h1 h2
      obtain ⟨k1, k2, k3, r2, k4⟩ := row_pre l p.1 f' _ r' h g1 g2
      exact ⟨k1, k2, g3.trans k3, p.2 :: r2, by rw [k4]; simp⟩
/-- What holds of all that has been found. -/
theorem rows_inv (hm : 1 ≤ most) (h0 : P start) (hs : ∀ y b, P y → P (step y b)) (bs : List Nat) : ∀ (n : Nat) (f : List K) (rows : List (List Nat)), rowsF most step bs start n = some (f, rows) → f.length ≤ most ∧ f.Nodup ∧ f[0]? = some start ∧ ∀ y ∈ f, P y
  | 0, f, rows, h => by
    simp only [rowsF, Option.some.injEq, Prod.mk.injEq] at h
    obtain ⟨rfl, -⟩ := h
    exact ⟨hm, by simp, rfl, fun y hy => by rw [List.mem_singleton] at hy; subst hy; exact h0⟩
  | n + 1, f, rows, h => by
    simp only [rowsF] at h
    cases hp : rowsF most step bs start n with
    | none => rw [hp] at h; cases h
    | some p =>
      obtain ⟨g1, g2, g3, g4⟩ := rows_inv hm h0 hs bs n p.1 p.2 hp
      rw [hp] at h
      simp only [Option.bind_some] at h
      cases hx : p.1[n]? with
      | none =>
        rw [hx] at h
        simp only [Option.some.injEq] at h
        subst h
        exact ⟨g1, g2, g3, g4⟩
      | some x =>
        rw [hx] at h
        simp only at h
        cases hr : bs.foldl (rowF most step x) (some (p.1, [])) with
        | none => rw [hr] at h; cases h
        | some r =>
          rw [hr] at h
          simp only [Option.map_some, Option.some.injEq, Prod.mk.injEq] at h
          obtain ⟨rfl, -⟩ := h
          obtain ⟨k1, k2, k3, -⟩ := row_pre bs p.1 r.1 [] r.2 hr g1 g2
          exact ⟨k1, k2, pre_get k3 g3, row_P (fun b => hs x b (g4 x (List.mem_of_getElem? hx))) bs p.1 r.1 [] r.2 hr g4⟩
/-- Each byte that is left out leads as one ahead of it. -/
def CovP (P : K → Prop) (step : K → Nat → K) (p : Nat → Bool) : Prop := ∀ b, b < 256 → p b = false → ∃ g, g < b ∧ p g = true ∧ ∀ x, P x → step x g = step x b
theorem row_canon {p : Nat → Bool} (hc : CovP P step p) (hx : P x) {f : List K} (h1 : f.length ≤ most) (h2 : f.Nodup) : ∀ m, m ≤ 256 →
    ((List.range m).foldl (rowF most step x) (some (f, []))).map Prod.fst = (((List.range m).filter p).foldl (rowF most step x) (some (f, []))).map Prod.fst := by
  intro m
  induction m with
  | zero => intro _; rfl
  | succ m ih =>
    intro hm
    have ih := ih (by omega)
    rw [List.range_succ, List.filter_append, List.foldl_append, List.foldl_append, List.foldl_cons, List.foldl_nil, rowF_fst, ih]
    cases hp : p m with
    | true =>
      rw [List.filter_cons_of_pos hp, List.filter_nil, List.foldl_cons, List.foldl_nil, rowF_fst]
    | false =>
      rw [List.filter_cons_of_neg (by rw [hp]; decide), List.filter_nil, List.foldl_nil]
      cases hA : (List.range m).foldl (rowF most step x) (some (f, [])) with
      | none => rw [← ih, hA]; rfl
      | some q =>
        obtain ⟨f', r'⟩ := q
        obtain ⟨k1, k2, k3, k4, k5⟩ := foldRow_pre h1 h2 hA
        obtain ⟨g, hg, hpg, hs⟩ := hc m (by omega) hp
        rw [List.length_range] at k4
        obtain ⟨t, ht⟩ := get_some (l := r') (k := g) (by omega)
        have h5 := k5 g g t (List.getElem?_range hg) ht
        rw [hs x hx] at h5
        rw [← ih, hA]
        simp only [Option.map_some, Option.bind_some, atF_old k2 h5]
theorem rows_canon {p : Nat → Bool} (hc : CovP P step p) (hm : 1 ≤ most) (h0 : P start) (hs : ∀ y b, P y → P (step y b)) : ∀ n, (rowsF most step (List.range 256) start n).map Prod.fst = (rowsF most step ((List.range 256).filter p) start n).map Prod.fst
  | 0 => rfl
  | n + 1 => by
    have ih := rows_canon hc hm h0 hs n
    simp only [rowsF]
    cases hA : rowsF most step (List.range 256) start n with
    | none =>
      rw [hA] at ih
      cases hB : rowsF most step ((List.range 256).filter p) start n with
      | none => rfl
      | some q => rw [hB] at ih; cases ih
    | some q =>
      rw [hA] at ih
      cases hB : rowsF most step ((List.range 256).filter p) start n with
      | none => rw [hB] at ih; cases ih
      | some q' =>
        rw [hB] at ih
        simp only [Option.map_some, Option.some.injEq] at ih
        obtain ⟨f, rows⟩ := q
        obtain ⟨f', rows'⟩ := q'
        simp only at ih
        subst ih
        obtain ⟨g1, g2, g3, g4⟩ := rows_inv hm h0 hs _ n f rows hA
        simp only [Option.bind_some]
        cases hx : f[n]? with
        | none => rfl
        | some x =>
          have hr := row_canon hc (g4 x (List.mem_of_getElem? hx)) g1 g2 256 (Nat.le_refl _)
          cases hA2 : (List.range 256).foldl (rowF most step x) (some (f, [])) with
          | none =>
            rw [hA2] at hr
            cases hB2 : ((List.range 256).filter p).foldl (rowF most step x) (some (f, [])) with
            | none => simp only [hA2, hB2]; rfl
            | some r => rw [hB2] at hr; cases hr
          | some r =>
            rw [hA2] at hr
            cases hB2 : ((List.range 256).filter p).foldl (rowF most step x) (some (f, [])) with
            | none => rw [hB2] at hr; cases hr
            | some r' =>
              rw [hB2] at hr
              simp only [hA2, hB2]
              simpa using hr
/-- All sets, in the order in which a walk over all bytes finds them. -/
def detW (most : Nat) (step : K → Nat → K) (start : K) : Option (List K) := (detF most step (List.range 256) start).map Prod.fst
theorem detW_of {p : Nat → Bool} (hc : CovP P step p) (hm : 1 ≤ most) (h0 : P start) (hs : ∀ y b, P y → P (step y b)) : (detF most step ((List.range 256).filter p) start).map Prod.fst = detW most step start := (rows_canon hc hm h0 hs most).symm
/-- A prefix of the walk has found a prefix. -/
theorem rows_pre (hm : 1 ≤ most) {bs : List Nat} : ∀ (k n : Nat) (f : List K) (rows : List (List Nat)), rowsF most step bs start (n + k) = some (f, rows) → ∃ f1 rows1, rowsF most step bs start n = some (f1, rows1) ∧ f1 <+: f
  | 0, n, f, rows, h => ⟨f, rows, h, List.prefix_refl _⟩
  | k + 1, n, f, rows, h => by
    rw [← Nat.add_assoc] at h
    simp only [rowsF] at h
    cases hp : rowsF most step bs start (n + k) with
    | none => rw [hp] at h; cases h
    | some p =>
      obtain ⟨f1, rows1, e1, e2⟩ := rows_pre hm k n p.1 p.2 hp
      obtain ⟨g1, g2, -⟩ := rows_inv (P := fun _ => True) hm trivial (fun _ _ _ => trivial) bs (n + k) p.1 p.2 hp
      rw [hp] at h
      simp only [Option.bind_some] at h
      cases hx : p.1[n + k]? with
      | none =>
        rw [hx] at h
        simp only [Option.some.injEq] at h
        subst h
        exact ⟨f1, rows1, e1, e2⟩
      | some x =>
        rw [hx] at h
        simp only at h
        cases hr : bs.foldl (rowF most step x) (some (p.1, [])) with
        | none => rw [hr] at h; cases h
        | some r =>
          rw [hr] at h
          simp only [Option.map_some, Option.some.injEq, Prod.mk.injEq] at h
          obtain ⟨rfl, -⟩ := h
          exact ⟨f1, rows1, e1, e2.trans (row_pre bs p.1 r.1 [] r.2 hr g1 g2).2.2.1⟩
theorem detF_at (hm : 1 ≤ most) {bs : List Nat} {F : List K} {rows : List (List Nat)} (h : detF most step bs start = some (F, rows)) : rowsF most step bs start F.length = some (F, rows) := by
  obtain ⟨g1, -⟩ := rows_inv (P := fun _ => True) hm trivial (fun _ _ _ => trivial) bs most F rows h
  obtain ⟨f1, rows1, e1, e2⟩ := rows_pre hm (most - F.length) F.length F rows (by rw [show F.length + (most - F.length) = most by omega]; exact h)
  have e3 := rowsF_stop e1 e2.length_le most g1
  have e4 : rowsF most step bs start most = some (F, rows) := h
  rw [e4] at e3
  rw [e1]
  exact e3.symm
theorem detW_len (hm : 1 ≤ most) {F : List K} (h : detW most step start = some F) : 1 ≤ F.length ∧ F.length ≤ most ∧ F.Nodup ∧ F[0]? = some start := by
  unfold detW at h
  cases hd : detF most step (List.range 256) start with
  | none => rw [hd] at h; cases h
  | some p =>
    rw [hd] at h
    simp only [Option.map_some, Option.some.injEq] at h
    subst h
    obtain ⟨g1, g2, g3, -⟩ := rows_inv (P := fun _ => True) hm trivial (fun _ _ _ => trivial) (List.range 256) most p.1 p.2 hd
    exact ⟨(List.getElem?_eq_some_iff.1 g3).1, g1, g2, g3⟩
end
/-! ### atoms as a table's cells -/
theorem Apart_.sym {x y : BitVec 256} (h : Apart_ x y) : Apart_ y x := fun c hc => by
  cases hx : x.getLsbD c with
  | false => rfl
  | true => rw [h c hx] at hc; cases hc
theorem apart_ne {l : List (BitVec 256)} (h : l.Pairwise Apart_) {x y : BitVec 256} (hx : x ∈ l) (hy : y ∈ l) (hne : x ≠ y) : Apart_ x y := by
  obtain ⟨i, hi, rfl⟩ := List.getElem_of_mem hx
  obtain ⟨j, hj, rfl⟩ := List.getElem_of_mem hy
  rcases Nat.lt_trichotomy i j with hlt | rfl | hlt
  · exact List.pairwise_iff_getElem.1 h i j hi hj hlt
  · exact absurd rfl hne
  · exact (List.pairwise_iff_getElem.1 h j i hj hi hlt).sym
theorem atoms_mem {sets : List (BitVec 256)} {x : BitVec 256} : x ∈ atomsM sets ↔ x ∈ blocksM sets := by
  unfold atomsM
  rw [List.mem_flatMap]
  constructor
  · rintro ⟨b, -, hx⟩
    exact (List.mem_filter.1 hx).1
  · exact fun h => ⟨(nextM x 0).1, List.mem_range.2 (nextM_lt x 0), List.mem_filter.2 ⟨h, by simp⟩⟩
theorem atoms_apart (sets : List (BitVec 256)) : (atomsM sets).Pairwise Apart_ := by
  have hb := blocks_apart sets
  unfold atomsM
  rw [List.pairwise_flatMap]
  refine ⟨fun b _ => hb.filter _, List.pairwise_lt_range.imp fun {b c} hbc x hx y hy => ?_⟩
  obtain ⟨h1, h2⟩ := List.mem_filter.1 hx
  obtain ⟨h3, h4⟩ := List.mem_filter.1 hy
  refine apart_ne hb h1 h3 fun e => ?_
  subst e
  have e1 : (nextM x 0).1 = b := by simpa using h2
  have e2 : (nextM x 0).1 = c := by simpa using h4
  omega
theorem atoms_cnt (sets : List (BitVec 256)) {b : Nat} (hb : b < 256) : cnt (atomsM sets) b = 1 := by
  unfold cnt
  obtain ⟨x, hx, hxb⟩ := (part_ok sets).all b hb
  obtain ⟨y, hy⟩ := one_of (l := (atomsM sets).filter fun x => x.getLsbD b) (b := b) ((atoms_apart sets).filter _) (fun z hz => (List.mem_filter.1 hz).2) (List.ne_nil_of_mem (List.mem_filter.2 ⟨atoms_mem.2 hx, hxb⟩))
  rw [hy]
  rfl
/-! ### both sides -/
def HasL (a : NfM) (l : List Int) : Prop := ∀ q ∈ l, a.has q = true
/-- The sets hold all that ways take. -/
def Takes (a : NfM) (sets : List (BitVec 256)) : Prop := ∀ e ∈ a.edges, e.sil = false → okE a e = true → e.set ∈ sets
theorem takes_A (a : NfM) : Takes a (setsA a) := fun e he hs hk => by
  unfold okE at hk
  rw [Bool.and_eq_true] at hk
  obtain ⟨row, h1, -, h3⟩ := takT_row hk.1
  exact List.mem_flatMap.2 ⟨row, List.mem_of_getElem? h1, List.mem_map.2 ⟨e, (h3 e).2 ⟨he, hs, rfl, hk.2⟩, rfl⟩⟩
theorem step_sep {a : NfM} {sets : List (BitVec 256)} (ht : Takes a sets) {g b : Nat} (hs : sigEq sets g b = true) {l : List Int} (hl : HasL a l) : stepA a l g = stepA a l b := by
  have key : ∀ g b : Nat, sigEq sets g b = true → ∀ q, hopS a (· ∈ l) g q → hopS a (· ∈ l) b q := fun g b hs q ⟨e, h1, h2, h3, h4, h5, h6⟩ =>
    ⟨e, h1, h2, by rw [← sigEq_iff.1 hs e.set (ht e h1 h2 (by unfold okE; rw [hl _ h4, h5]; rfl))]; exact h3, h4, h5, h6⟩
  have hs' : sigEq sets b g = true := sigEq_iff.2 fun c hc => (sigEq_iff.1 hs c hc).symm
  unfold stepA goS
  have e : hopS a (· ∈ l) g = hopS a (· ∈ l) b := funext fun q => propext ⟨key g b hs q, key b g hs' q⟩
  rw [e]
theorem covP_of {a : NfM} {sets : List (BitVec 256)} (ht : Takes a sets) : CovP (HasL a) (stepA a) (leastB sets) := fun b hb hp => by
  obtain ⟨g, g1, g2, g3⟩ := exists_least (cells := sets) (b := b) b (sigEq_refl sets b)
  have hne : g ≠ b := fun e => by rw [e, hp] at g3; cases g3
  exact ⟨g, by omega, g3, fun x hx => step_sep ht (sigEq_iff.2 fun c hc => (sigEq_iff.1 g2 c hc).symm) hx⟩
noncomputable abbrev begL (a : NfM) : List Int := lstS (begS a)
theorem begL_has (a : NfM) : HasL a (begL a) := fun q hq => begS_has a q ((lstS_mem (has_rng (begS_has a)) q).1 hq)
theorem stepL_has {a : NfM} (l : List Int) (b : Nat) (_ : HasL a l) : HasL a (stepA a l b) := stepA_rng
noncomputable def detN (a : NfM) (most : Nat) : Option (List (List Int)) := detW most (stepA a) (begL a)
theorem detA (a : NfM) {most : Nat} (hm : 1 ≤ most) : (detF most (stepA a) (repsM (setsA a)) (begL a)).map Prod.fst = detN a most := by
  rw [repsM_filter]
  exact detW_of (covP_of (takes_A a)) hm (begL_has a) stepL_has
/-- Steps lead from set to set. -/
structure Leads5 (a : NfM) (F : List (List Int)) (st : Int → Nat → Int) (fi : Int → Bool) : Prop where
  st : ∀ (q b : Nat) (x : List Int), F[q]? = some x → b < 256 → ∃ t : Nat, st (q : Int) b = (t : Int) ∧ F[t]? = some (stepA a x b)
  fi : ∀ (q : Nat) (x : List Int), F[q]? = some x → fi (q : Int) = decide (a.fin ∈ x)
theorem det_rowsOk {a : NfM} {most : Nat} {bs : List Nat} {F : List (List Int)} {rows : List (List Nat)} (hm : 1 ≤ most) (h : detF most (stepA a) bs (begL a) = some (F, rows)) : RowsOk most (stepA a) bs (begL a) F.length F rows ∧ ∀ x ∈ F, HasL a x := by
  obtain ⟨-, -, -, g4⟩ := rows_inv (P := HasL a) hm (begL_has a) stepL_has bs most F rows h
  exact ⟨rowsF_ok hm F.length F rows (detF_at hm h) fun j hj => hj, g4⟩
theorem row_lt {a : NfM} {most : Nat} {bs : List Nat} {F : List (List Int)} {rows : List (List Nat)} (hk : RowsOk most (stepA a) bs (begL a) F.length F rows) {q : Nat} {row : List Nat} (hr : rows[q]? = some row) : row.length = bs.length ∧ ∀ t ∈ row, t < F.length := by
  have hcl := hk.cols row (List.mem_of_getElem? hr)
  refine ⟨hcl, fun t ht => ?_⟩
  obtain ⟨k, hkt⟩ := List.getElem?_of_mem ht
  have hkl := (List.getElem?_eq_some_iff.1 hkt).1
  obtain ⟨b, hb⟩ := get_some (l := bs) (k := k) (by omega)
  have hql := (List.getElem?_eq_some_iff.1 hr).1
  rw [hk.rl] at hql
  obtain ⟨x, hx⟩ := get_some (l := F) (k := q) hql
  exact (List.getElem?_eq_some_iff.1 (hk.ok q k row b t x hr hb hkt hx)).1
/-- The program's automaton. -/
theorem autoA {a : NfM} {most : Nat} {F : List (List Int)} {rows : List (List Nat)} (hm : 1 ≤ most) (hm2 : most ≤ 65536) (h : detF most (stepA a) (repsM (setsA a)) (begL a) = some (F, rows)) :
    soundB (atomsM (setsA a)) (rows.map rowI) F.length = true ∧ Leads5 a F (stepM (some (madeM (atomsM (setsA a)) (rows.map rowI) (F.map fun l => decide (a.fin ∈ l))))) (finM (some (madeM (atomsM (setsA a)) (rows.map rowI) (F.map fun l => decide (a.fin ∈ l))))) ∧ stN (some (madeM (atomsM (setsA a)) (rows.map rowI) (F.map fun l => decide (a.fin ∈ l)))) = F.length := by
  obtain ⟨hk, hP⟩ := det_rowsOk hm h
  have h0 := (List.getElem?_eq_some_iff.1 hk.zero).1
  have hlen := hk.len
  have hrl : (rows.map rowI).length = F.length := by rw [List.length_map, hk.rl]
  have hbl : (repsM (setsA a)).length = (atomsM (setsA a)).length := List.length_map _
  have hs : soundB (atomsM (setsA a)) (rows.map rowI) F.length = true := by
    rw [soundB_iff]
    refine ⟨⟨by omega, by omega, hrl⟩, fun b hb => atoms_cnt _ hb, fun r hr => ?_⟩
    obtain ⟨row, hrow, rfl⟩ := List.mem_map.1 hr
    obtain ⟨q, hq⟩ := List.getElem?_of_mem hrow
    obtain ⟨h1, h2⟩ := row_lt hk hq
    unfold rowOk
    rw [Bool.and_eq_true, beq_iff_eq, List.all_eq_true]
    refine ⟨by unfold rowI; rw [List.length_map, h1, hbl], fun t ht => ?_⟩
    obtain ⟨u, hu, rfl⟩ := List.mem_map.1 ht
    have := h2 u hu
    simp only [Bool.and_eq_true, decide_eq_true_eq]
    omega
  have hfl : (F.map fun l => decide (a.fin ∈ l)).length = F.length := List.length_map _
  refine ⟨hs, ⟨fun q b x hx hb => ?_, fun q x hx => ?_⟩, by simp only [stN, madeM, List.length_map]; exact hk.rl⟩
  · obtain ⟨row, hrow⟩ := get_some (l := rows) (k := q) (by rw [hk.rl]; exact (List.getElem?_eq_some_iff.1 hx).1)
    obtain ⟨h1, h2⟩ := row_lt hk hrow
    obtain ⟨c1, c2⟩ := soundB_cells hs hb
    obtain ⟨c, hc⟩ := get_some c1
    have hcb := c2 c hc
    obtain ⟨t, ht⟩ := get_some (l := row) (k := cellOf (atomsM (setsA a)) b) (by omega)
    have hbs : (repsM (setsA a))[cellOf (atomsM (setsA a)) b]? = some (nextM c 0).1 := by unfold repsM; rw [List.getElem?_map, hc]; rfl
    have hok := hk.ok q _ row _ t x hrow hbs ht hx
    have hcm := atoms_mem.1 (List.mem_of_getElem? hc)
    have hp := part_ok (setsA a)
    have hsg : sigEq (setsA a) (nextM c 0).1 b = true := sigEq_iff.2 fun s hs => hp.same c hcm _ _ (least_of (hp.ne c hcm)).1 hcb s hs
    refine ⟨t, ?_, by rw [hok, step_sep (takes_A a) hsg (hP x (List.mem_of_getElem? hx))]⟩
    rw [madeM_step (row := rowI row) (by rw [hfl]; exact hs) (by rw [List.getElem?_map, hrow]; rfl) hb]
    unfold rowI
    rw [List.getD_eq_getElem?_getD, List.getElem?_map, ht]
    rfl
  · simp [finM, madeM, hx]
end Go.Proofs.YtfbghcpdinlmcaaGreatDoor
/- Least automata: the plain law: rounds of telling apart; classes in the order in which they're found. -/
set_option linter.unusedVariables false
set_option linter.unusedSimpArgs false
set_option maxRecDepth 100000
namespace Go.Proofs.YtfbghcpdinlmcaaGreatDoor
open Go.VC
/-! ### lists without doubles -/
theorem snocInd {α : Type} {P : List α → Prop} (h0 : P []) (hs : ∀ (l : List α) (x : α), P l → P (l ++ [x])) (l : List α) : P l := by
  have key : ∀ m : List α, P m.reverse := fun m => by
    induction m with
    | nil => exact h0
    | cons x m ih => rw [List.reverse_cons]; exact hs _ x ih
  have := key l.reverse
  rwa [List.reverse_reverse] at this
section
variable {K : Type} [DecidableEq K]
def dd (l : List K) : List K := l.foldl (fun f k => if k ∈ f then f else f ++ [k]) []
/-- The place of a thing among those found. -/
def ixF (f : List K) (k : K) : Nat := f.findIdx (· = k)
theorem ixF_lt {f : List K} {k : K} (h : k ∈ f) : ixF f k < f.length := by
  unfold ixF
  exact List.findIdx_lt_length_of_exists ⟨k, h, by simp⟩
theorem ixF_get {f : List K} {k : K} (h : k ∈ f) : f[ixF f k]? = some k := by
  have hlt := ixF_lt h
  rw [List.getElem?_eq_getElem hlt]
  have : decide (f[ixF f k] = k) = true := List.findIdx_getElem (p := fun x => decide (x = k)) (xs := f) (w := hlt)
  rw [of_decide_eq_true this]
theorem ixF_at {f : List K} (hn : f.Nodup) {i : Nat} {k : K} (h : f[i]? = some k) : ixF f k = i := by
  have hm := List.mem_of_getElem? h
  have h1 := ixF_get hm
  obtain ⟨a1, e1⟩ := List.getElem?_eq_some_iff.1 h
  obtain ⟨a2, e2⟩ := List.getElem?_eq_some_iff.1 h1
  rcases Nat.lt_trichotomy (ixF f k) i with h | h | h
  · exact absurd (e2.trans e1.symm) (List.pairwise_iff_getElem.1 hn _ _ a2 a1 h)
  · exact h
  · exact absurd (e1.trans e2.symm) (List.pairwise_iff_getElem.1 hn _ _ a1 a2 h)
end
/-! ### rounds -/
/-- An automaton, plain. -/
structure PA where
  n : Nat
  st : Nat → Nat → Nat
  fi : Nat → Bool
structure PA.Ok (M : PA) : Prop where
  pos : 0 < M.n
  cl : ∀ q b, q < M.n → b < 256 → M.st q b < M.n
def PA.run (M : PA) (q : Nat) (w : List Nat) : Nat := w.foldl M.st q
def bytes5 (w : List Nat) : Prop := ∀ b ∈ w, b < 256
/-- No word tells them apart. -/
def PA.Eqv (M : PA) (p q : Nat) : Prop := ∀ w, bytes5 w → M.fi (M.run p w) = M.fi (M.run q w)
/-- Some bytes that stand for all. -/
structure Reps (M : PA) (by_ : List Nat) : Prop where
  lt : ∀ b ∈ by_, b < 256
  cov : ∀ b, b < 256 → ∃ g ∈ by_, g ≤ b ∧ ∀ q, q < M.n → M.st q g = M.st q b
/-- A list of states that steps don't leave. -/
structure Closed (M : PA) (l : List Nat) : Prop where
  lt : ∀ q ∈ l, q < M.n
  st : ∀ q ∈ l, ∀ b, b < 256 → M.st q b ∈ l
section
variable {M : PA} {by_ l : List Nat} {P : Nat → Nat}
def keyR (M : PA) (by_ : List Nat) (P : Nat → Nat) (q : Nat) : List Nat := P q :: by_.map fun b => P (M.st q b)
def found (M : PA) (by_ l : List Nat) (P : Nat → Nat) : List (List Nat) := dd (l.map (keyR M by_ P))
/-- How many classes there are. -/
def cls (l : List Nat) (P : Nat → Nat) : Nat := (dd (l.map P)).length
/-- What holds all along. -/
structure RndI (M : PA) (l : List Nat) (P : Nat → Nat) : Prop where
  eqv : ∀ p ∈ l, ∀ q ∈ l, M.Eqv p q → P p = P q
  fi : ∀ p ∈ l, ∀ q ∈ l, P p = P q → M.fi p = M.fi q
/-- The classes are those that no word tells apart. -/
def IsCls (M : PA) (l : List Nat) (P : Nat → Nat) : Prop := ∀ p ∈ l, ∀ q ∈ l, P p = P q ↔ M.Eqv p q
end
end Go.Proofs.YtfbghcpdinlmcaaGreatDoor
/- Least automata: the plain law: classes stand in the order in which their states are found. -/
set_option linter.unusedVariables false
set_option linter.unusedSimpArgs false
set_option maxRecDepth 100000
namespace Go.Proofs.YtfbghcpdinlmcaaGreatDoor
open Go.VC
section
variable {M : PA} {P : Nat → Nat} {most : Nat}
/-- Steps of classes. -/
def cst (M : PA) (P : Nat → Nat) (k b : Nat) : Nat := match (List.range M.n).find? (fun q => P q = k) with
  | some q => P (M.st q b)
  | none => 0
abbrev allS (M : PA) : List Nat := List.range M.n
end
end Go.Proofs.YtfbghcpdinlmcaaGreatDoor
/- minim.reps, minim.blocks: the walks. -/
set_option linter.unusedVariables false
set_option linter.unusedSimpArgs false
set_option maxRecDepth 100000
namespace Go.VC
end Go.VC
namespace Go.Proofs.YtfbghcpdinlmcaaGreatDoor
open Go.VC
attribute [local irreducible] mRun gRun atRun
/-! ### reps -/
/-! ### names of keys -/
end Go.Proofs.YtfbghcpdinlmcaaGreatDoor
/- minim.blocks: the walk. -/
set_option linter.unusedVariables false
set_option linter.unusedSimpArgs false
set_option maxRecDepth 100000
namespace Go.Proofs.YtfbghcpdinlmcaaGreatDoor
open Go.VC
attribute [local irreducible] mRun gRun atRun
/-- The program's automaton, plain. -/
def paO (o : Option AM) : PA := ⟨stN o, fun q b => (stepM o (q : Int) b).toNat, fun q => finM o (q : Int)⟩
structure BlkI (M : PA) (P : Nat → Nat) (cnt : Nat) : Prop where
  rnd : RndI M (allS M) P
  lt : ∀ q, q < M.n → P q < 65536
  cnt : cls (allS M) P = cnt ∨ ∀ p ∈ allS M, ∀ q ∈ allS M, P p = P q
end Go.Proofs.YtfbghcpdinlmcaaGreatDoor
/- minim.Canon: the walk. -/
set_option linter.unusedVariables false
set_option linter.unusedSimpArgs false
set_option maxRecDepth 100000
namespace Go.Proofs.YtfbghcpdinlmcaaGreatDoor
open Go.VC
attribute [local irreducible] mRun gRun atRun
theorem filter_one5 {α : Type} {p : α → Bool} : ∀ (l : List α) (k : Nat) (x : α), l[k]? = some x → p x = true → (∀ (k' : Nat) (y : α), l[k']? = some y → p y = true → k' = k) → (l.filter p).length = 1
  | [], k, x, h, _, _ => by simp at h
  | a :: l, 0, x, h, hp, hu => by
    simp only [List.getElem?_cons_zero, Option.some.injEq] at h
    subst h
    have : l.filter p = [] := by
      rw [List.filter_eq_nil_iff]
      intro y hy hpy
      obtain ⟨j, hj⟩ := List.getElem?_of_mem hy
      have := hu (j + 1) y (by rw [List.getElem?_cons_succ]; exact hj) hpy
      omega
    rw [List.filter_cons_of_pos hp, this]; rfl
  | a :: l, k + 1, x, h, hp, hu => by
    rw [List.getElem?_cons_succ] at h
    have ha : p a = false := by
      cases hpa : p a with
      | false => rfl
      | true => have := hu 0 a rfl hpa; omega
    rw [List.filter_cons_of_neg (by rw [ha]; decide)]
    exact filter_one5 l k x h hp fun k' y hy hpy => by
      have := hu (k' + 1) y (by rw [List.getElem?_cons_succ]; exact hy) hpy
      omega
theorem cellsOk_cnt {o : Option AM} {ls : List Nat} (h : CellsOk o ls) {b : Nat} (hb : b < 256) : cnt (cellsM o) b = 1 := by
  obtain ⟨k, c, h1, h2, h3⟩ := h.part b hb
  exact filter_one5 _ k c h1 h2 h3
/-- States one for each class, in the order in which the classes are found; an automaton whose states they are. -/
structure LeadsC (M : PA) (O : List Nat) (st : Int → Nat → Int) (fi : Int → Bool) : Prop where
  lt : ∀ x ∈ O, x < M.n
  st : ∀ (i b x : Nat), O[i]? = some x → b < 256 → ∃ t y : Nat, st (i : Int) b = (t : Int) ∧ O[t]? = some y ∧ M.Eqv y (M.st x b)
  fi : ∀ (i x : Nat), O[i]? = some x → fi (i : Int) = M.fi x
def InOrder (M : PA) (O : List Nat) : Prop := ∃ P, IsCls M (allS M) P ∧ detW 65537 (cst M P) (P 0) = some (O.map P)
def intsN (O : List Nat) : List Int := O.map fun (x : Nat) => (x : Int)
theorem findIdx_in {K : Type} [DecidableEq K] {F : List K} {k : K} (h : k ∈ F) : F.findIdx? (· = k) = some (ixF F k) := by
  rw [List.findIdx?_eq_some_iff_getElem]
  have hlt := ixF_lt h
  have hg := (List.getElem?_eq_some_iff.1 (ixF_get h)).2
  refine ⟨hlt, decide_eq_true hg, fun j hj => ?_⟩
  have := List.not_of_lt_findIdx (p := fun x => decide (x = k)) (xs := F) (show j < F.findIdx (fun x => decide (x = k)) from hj)
  simpa using this
theorem findIdx_out {K : Type} [DecidableEq K] {F : List K} {k : K} (h : k ∉ F) : F.findIdx? (· = k) = none := by
  rw [List.findIdx?_eq_none_iff]
  intro x hx
  exact decide_eq_false fun e => h (by rw [← e]; exact hx)
end Go.Proofs.YtfbghcpdinlmcaaGreatDoor
/- louperef07.reached: the walk. -/
set_option linter.unusedVariables false
set_option linter.unusedSimpArgs false
set_option maxRecDepth 100000
namespace Go.Proofs.YtfbghcpdinlmcaaGreatDoor
open Go.VC
attribute [local irreducible] mRun gRun atRun
/-- The document's automaton says what M says. -/
structure DocM (D : DM) (M : PA) : Prop where
  n : M.n = D.next.length
  st : ∀ q b, q < M.n → b < 256 → stepD D (q : Int) b = (M.st q b : Int)
  fi : ∀ q, q < M.n → finD D (q : Int) = M.fi q
/-- Its columns have bytes that stand for them. -/
structure RepD (D : DM) (by_ : List Nat) : Prop where
  reps : D.reps = intsN by_
  rl : ∀ row ∈ D.next, row.length = by_.length
  le : by_.length ≤ 256
  lt : ∀ b ∈ by_, b < 256
  at_ : ∀ (c b : Nat), by_[c]? = some b → D.cell[b]? = some (c : Int)
  cov : ∀ b, b < 256 → ∃ c g : Nat, D.cell[b]? = some (c : Int) ∧ by_[c]? = some g ∧ g ≤ b
end Go.Proofs.YtfbghcpdinlmcaaGreatDoor
/- louperef07.parts: the walk. -/
set_option linter.unusedVariables false
set_option linter.unusedSimpArgs false
set_option maxRecDepth 100000
namespace Go.Proofs.YtfbghcpdinlmcaaGreatDoor
open Go.VC
attribute [local irreducible] mRun gRun atRun
end Go.Proofs.YtfbghcpdinlmcaaGreatDoor
/- louperef07.Canon: the walk. -/
set_option linter.unusedVariables false
set_option linter.unusedSimpArgs false
set_option maxRecDepth 100000
namespace Go.VC
end Go.VC
namespace Go.Proofs.YtfbghcpdinlmcaaGreatDoor
open Go.VC
attribute [local irreducible] mRun gRun atRun
end Go.Proofs.YtfbghcpdinlmcaaGreatDoor
/- Two automata whose states are the classes in the order in which they are found are alike; plain law. -/
set_option linter.unusedVariables false
set_option linter.unusedSimpArgs false
namespace Go.Proofs.YtfbghcpdinlmcaaGreatDoor
end Go.Proofs.YtfbghcpdinlmcaaGreatDoor
/- same of the laws of layer 7: the walk (loupelaw05's, with a question for nil ahead). -/
set_option linter.unusedVariables false
set_option linter.unusedSimpArgs false
set_option maxRecDepth 100000
namespace Go.Proofs.YtfbghcpdinlmcaaGreatDoor
open Go.VC
attribute [local irreducible] mRun atRun
end Go.Proofs.YtfbghcpdinlmcaaGreatDoor
/- MinimCanons: same holds of the two canonical automata. -/
set_option linter.unusedVariables false
set_option linter.unusedSimpArgs false
set_option maxRecDepth 100000
namespace Go.Proofs.YtfbghcpdinlmcaaGreatDoor
open Go.VC
attribute [local irreducible] mRun gRun atRun
end Go.Proofs.YtfbghcpdinlmcaaGreatDoor
/- The document's automaton against the program's: DocM. -/
set_option linter.unusedVariables false
set_option linter.unusedSimpArgs false
set_option maxRecDepth 100000
namespace Go.Proofs.YtfbghcpdinlmcaaGreatDoor
open Go.VC
attribute [local irreducible] mRun gRun atRun
theorem Both.stepOk {o : Option AM} {D : DM} (h : Both o D) : StepOk o :=
  ⟨by rw [h.n]; exact h.ok.n1, by rw [h.n]; exact h.ok.n2, fun q b hq hb => by
    have := stepD_range h.ok hq.1 (by have := hq.2; rw [h.n] at this; exact this) hb
    unfold inA
    rw [h.step q b hb, h.n]
    exact this⟩
end Go.Proofs.YtfbghcpdinlmcaaGreatDoor
/- strconv.Itoa, strings.IndexByte, (*strings.Builder).String: the kit's shelf, laid by its tool. -/
set_option linter.unusedVariables false
set_option linter.unusedSimpArgs false
set_option maxRecDepth 100000
namespace Go.Proofs.YtfbghcpdinlmcaaGreatDoor
open Go.Shelf Go.Proofs Go.VC
end Go.Proofs.YtfbghcpdinlmcaaGreatDoor
/- strings.Builder: copyCheck, by the kit's own steps (its shelf's contract is for another text of copyCheck). -/
set_option linter.unusedVariables false
set_option linter.unusedSimpArgs false
set_option maxRecDepth 100000
namespace Go.Proofs.YtfbghcpdinlmcaaGreatDoor
open Go.Shelf Go.RowKit Go.Proofs
end Go.Proofs.YtfbghcpdinlmcaaGreatDoor
/- strings.Builder: a builder of the call's own: its writing methods and String. -/
set_option linter.unusedVariables false
set_option linter.unusedSimpArgs false
set_option maxRecDepth 100000
namespace Go.VC
end Go.VC
namespace Go.Proofs.YtfbghcpdinlmcaaGreatDoor
open Go.VC
section
variable {B : Nat → Prop} {H0 H H1 : Heap} {b : Nat} {s t : ByteArray} {rest : List Pc} {K : Value → Heap → Prop}
end
end Go.Proofs.YtfbghcpdinlmcaaGreatDoor
/- strings.Builder's String, strconv.Itoa, strings.IndexByte as calls. -/
set_option linter.unusedVariables false
set_option linter.unusedSimpArgs false
set_option maxRecDepth 100000
namespace Go.Proofs.YtfbghcpdinlmcaaGreatDoor
open Go.VC Go.Lib
end Go.Proofs.YtfbghcpdinlmcaaGreatDoor
/- class.single: the walk; how a byte is written. -/
set_option linter.unusedVariables false
set_option linter.unusedSimpArgs false
set_option maxRecDepth 100000
namespace Go.Proofs.YtfbghcpdinlmcaaGreatDoor
open Go.VC Go.Lib
end Go.Proofs.YtfbghcpdinlmcaaGreatDoor
/- louperef01.in, Special, Inner, One: the walks. -/
set_option linter.unusedVariables false
set_option linter.unusedSimpArgs false
set_option maxRecDepth 100000
namespace Go.Proofs.YtfbghcpdinlmcaaGreatDoor
open Go.VC Go.Lib
end Go.Proofs.YtfbghcpdinlmcaaGreatDoor
/- How a set is written: plain. -/
set_option linter.unusedVariables false
set_option linter.unusedSimpArgs false
set_option maxRecDepth 100000
namespace Go.Proofs.YtfbghcpdinlmcaaGreatDoor
open Go.VC Go.Lib
end Go.Proofs.YtfbghcpdinlmcaaGreatDoor
/- class.Show: the walk (printed by mkshw4.py). -/
set_option linter.unusedVariables false
set_option linter.unusedSimpArgs false
set_option maxRecDepth 100000
namespace Go.Proofs.YtfbghcpdinlmcaaGreatDoor
open Go.VC Go.Lib
end Go.Proofs.YtfbghcpdinlmcaaGreatDoor
/- louperef01.Count: the walk. -/
set_option linter.unusedVariables false
set_option linter.unusedSimpArgs false
set_option maxRecDepth 100000
namespace Go.Proofs.YtfbghcpdinlmcaaGreatDoor
open Go.VC Go.Lib
end Go.Proofs.YtfbghcpdinlmcaaGreatDoor
/- louperef01.Show: the walk (printed by mkshw6.py). -/
set_option linter.unusedVariables false
set_option linter.unusedSimpArgs false
set_option maxRecDepth 100000
namespace Go.Proofs.YtfbghcpdinlmcaaGreatDoor
open Go.VC Go.Lib
end Go.Proofs.YtfbghcpdinlmcaaGreatDoor
/- louperef07.Number: the walk; numbers as text. -/
set_option linter.unusedVariables false
set_option linter.unusedSimpArgs false
set_option maxRecDepth 100000
namespace Go.Proofs.YtfbghcpdinlmcaaGreatDoor
open Go.VC Go.Lib
end Go.Proofs.YtfbghcpdinlmcaaGreatDoor
/- The table of an automaton as text: plain. -/
set_option linter.unusedVariables false
set_option linter.unusedSimpArgs false
set_option maxRecDepth 100000
namespace Go.Proofs.YtfbghcpdinlmcaaGreatDoor
open Go.VC Go.Lib
end Go.Proofs.YtfbghcpdinlmcaaGreatDoor
/- A table's text is read in just one way: plain. -/
set_option linter.unusedVariables false
set_option linter.unusedSimpArgs false
set_option maxRecDepth 100000
namespace Go.Proofs.YtfbghcpdinlmcaaGreatDoor
open Go.VC Go.Lib
/-! ### one byte's text is read in one way -/
/-! ### the inside of a set -/
/-! ### a set -/
/-! ### numbers -/
/-! ### lines -/
end Go.Proofs.YtfbghcpdinlmcaaGreatDoor
/- Search by breadth in a graph, bytes in ascending order: the first end that is found has the first word; plain law. -/
set_option linter.unusedVariables false
set_option linter.unusedSimpArgs false
namespace Go.Proofs.YtfbghcpdinlmcaaGreatDoor
/-- Shorter, or as long and no later in order. -/
def leL (u v : List Nat) : Prop := u.length < v.length ∨ (u.length = v.length ∧ lexL u v)
/-- i have been looked at whole; of the next one what holds of d. -/
structure BfsOk (g : Gr) (by_ : List Nat) (a : Nd) (F : List NW) (i : Nat) (k : Nat) : Prop where
  zero : F[0]? = some (a, [])
  nd : (F.map (·.1)).Nodup
  ok : ∀ x ∈ F, (∀ b ∈ x.2, b ∈ by_) ∧ To g x.2 a x.1
  up : ∀ (j l : Nat) (x y : NW), j < l → F[j]? = some x → F[l]? = some y → leL x.2 y.2 ∧ x.2 ≠ y.2
  closed : ∀ (j l : Nat) (x : NW) (b : Nat) (t : Nd), F[j]? = some x → by_[l]? = some b → t ∈ g.next x.1 b → (j < i ∨ (j = i ∧ l < k)) → ∃ y ∈ F, y.1 = t ∧ leL y.2 (x.2 ++ [b])
  par : ∀ (m : Nat) (y : NW), F[m]? = some y → m = 0 ∨ ∃ (j l b : Nat) (x : NW), F[j]? = some x ∧ by_[l]? = some b ∧ y.2 = x.2 ++ [b] ∧ (j < i ∨ (j = i ∧ l < k))
section
variable {g : Gr} {by_ : List Nat} {a t : Nd} {F F' : List NW} {i k : Nat}
variable (hby : ∀ c, c < 256 → ∃ r ∈ by_, r ≤ c ∧ ∀ n, g.next n r = g.next n c)
include hby
end
end Go.Proofs.YtfbghcpdinlmcaaGreatDoor
/- minim.spell: the walk. -/
set_option linter.unusedVariables false
set_option linter.unusedSimpArgs false
set_option maxRecDepth 100000
namespace Go.Proofs.YtfbghcpdinlmcaaGreatDoor
open Go.VC
attribute [local irreducible] mRun gRun atRun
/-! ### pairs and ways -/
def pkL (z : Int × Int) : List Value := [.int .i64 z.1, .int .i64 z.2]
def pkV (z : Int × Int) : Value := .agg (pkL z).toArray
def PkOk (z : Int × Int) : Prop := inK .i64 z.1 ∧ inK .i64 z.2
theorem pkV_inj {a b : Int × Int} (h : pkV a = pkV b) : a = b := by
  obtain ⟨x, y⟩ := a
  obtain ⟨x', y'⟩ := b
  simp only [pkV, pkL, Value.agg.injEq, Array.mk.injEq, List.cons.injEq, Value.int.injEq, true_and, and_true] at h
  obtain ⟨h1, h2⟩ := h
  rw [h1, h2]
theorem pk_wf {x : Int} (h : inK .i64 x) : (Lit.int .i64 x).wf = true := by
  unfold Lit.wf
  simp only [Bool.and_eq_true, decide_eq_true_eq]
  exact h
structure Links (F : List NW) (W : List (Int × Nat)) : Prop where
  len : W.length = F.length
  nd : (F.map fun x => (x.1.x, x.1.y)).Nodup
  s0 : ∀ x ∈ F, x.1.s = 0
  zero : W[0]? = some (-1, 0)
  link : ∀ (i : Nat) (y : NW), F[i]? = some y → (i = 0 ∧ y.2 = []) ∨ ∃ (j c : Nat) (x : NW), W[i]? = some ((j : Int), c) ∧ j < i ∧ F[j]? = some x ∧ y.2 = x.2 ++ [c] ∧ c < 256
/-! ### turning round -/
end Go.Proofs.YtfbghcpdinlmcaaGreatDoor
/- minim.first: the walk. -/
set_option linter.unusedVariables false
set_option linter.unusedSimpArgs false
set_option maxRecDepth 100000
namespace Go.Proofs.YtfbghcpdinlmcaaGreatDoor
open Go.VC
attribute [local irreducible] mRun gRun atRun
section
variable {ask : Bool → Bool → Bool} {a b : Option AM}
end
end Go.Proofs.YtfbghcpdinlmcaaGreatDoor
/- minim.Differ, Outside, Same: the walks. -/
set_option linter.unusedVariables false
set_option linter.unusedSimpArgs false
set_option maxRecDepth 100000
namespace Go.Proofs.YtfbghcpdinlmcaaGreatDoor
open Go.VC
attribute [local irreducible] mRun gRun atRun
def outB (x y : Bool) : Bool := x && !y
section
variable {S : Nat → Prop} {H : Heap} {va vb : Value} {a b : Option AM}
end
end Go.Proofs.YtfbghcpdinlmcaaGreatDoor
/- auto of the laws of layer 09. -/
set_option linter.unusedVariables false
set_option linter.unusedSimpArgs false
set_option maxRecDepth 100000
namespace Go.Proofs.YtfbghcpdinlmcaaGreatDoor
open Go.VC
attribute [local irreducible] mRun atRun

end Go.Proofs.YtfbghcpdinlmcaaGreatDoor
/- Cat's and Iter's answers for the texts of at least one byte; two words one of which comes ahead; plain law. -/
set_option linter.unusedVariables false
set_option linter.unusedSimpArgs false
set_option maxRecDepth 100000
namespace Go.VC
end Go.VC
namespace Go.Proofs.YtfbghcpdinlmcaaGreatDoor
open Go.VC
def oneM : AM := madeM [BitVec.allOnes 256] [[1], [1]] [false, true]
attribute [local irreducible] oneM mRun gRun atRun
/-! ### ahead -/
end Go.Proofs.YtfbghcpdinlmcaaGreatDoor

/- speaks and ahead of the laws of layer 9: the walks. -/
set_option linter.unusedVariables false
set_option linter.unusedSimpArgs false
set_option maxRecDepth 100000
namespace Go.Proofs.YtfbghcpdinlmcaaGreatDoor
open Go.VC
attribute [local irreducible] oneM mRun gRun atRun
end Go.Proofs.YtfbghcpdinlmcaaGreatDoor
/- The canonical automata of two automata with the same members are alike; plain law. -/
set_option linter.unusedVariables false
set_option linter.unusedSimpArgs false
set_option maxRecDepth 100000
namespace Go.Proofs.YtfbghcpdinlmcaaGreatDoor
open Go.VC
attribute [local irreducible] mRun gRun atRun
/-! ### the walk, mapped -/
section
variable {K K' : Type} [DecidableEq K] [DecidableEq K'] {most : Nat} {step : K → Nat → K} {step' : K' → Nat → K'} {start : K} {f : K → K'} {I : K → Prop}
end
/-! ### members -/
attribute [local irreducible] detW
noncomputable instance decL : DecidableEq (List Nat → Bool) := fun a b => Classical.propDecidable (a = b)
open Classical in
noncomputable def langM (M : PA) (q : Nat) (w : List Nat) : Bool := if bytes5 w then M.fi (M.run q w) else false
def dvL (L : List Nat → Bool) (b : Nat) (w : List Nat) : Bool := L (b :: w)
def InLang (M : PA) (O : List Nat) : Prop := detW 65537 dvL (langM M 0) = some (O.map (langM M))
/-! ### the members of the program's automata -/
/-! ### the words of askG -/
end Go.Proofs.YtfbghcpdinlmcaaGreatDoor
/- odd and ahead of the laws of layer 7: the walks. -/
set_option linter.unusedVariables false
set_option linter.unusedSimpArgs false
set_option maxRecDepth 100000
namespace Go.Proofs.YtfbghcpdinlmcaaGreatDoor
open Go.VC
def odd7M : AM := madeM [BitVec.allOnes 256] [[1], [0]] [false, true]
attribute [local irreducible] odd7M mRun gRun atRun
end Go.Proofs.YtfbghcpdinlmcaaGreatDoor
/- The law DfaNews: its walk. -/
set_option linter.unusedVariables false
set_option linter.unusedSimpArgs false
set_option maxRecDepth 100000
namespace Go.VC
end Go.VC
namespace Go.Proofs.YtfbghcpdinlmcaaGreatDoor
open Go.VC
attribute [local irreducible] mRun atRun

end Go.Proofs.YtfbghcpdinlmcaaGreatDoor
/- Words, listed, Cells as memory of the call's own; the law DfaCells: its walk. -/
set_option linter.unusedVariables false
set_option linter.unusedSimpArgs false
set_option maxRecDepth 100000
namespace Go.Proofs.YtfbghcpdinlmcaaGreatDoor
open Go.VC
attribute [local irreducible] mRun atRun gRun

/-! ### the plain law -/
theorem gRun_congr {s t : Nat → Nat → Bool} (hr : ∀ a, s a a = true) (h : ∀ b g, b < 256 → g < 256 → s b g = t b g) : ∀ b, b ≤ 256 → gRun s b = gRun t b
  | 0, _ => by unfold gRun; rfl
  | b + 1, hb => by
    have ih := gRun_congr hr h b (by omega)
    have hok := gRun_ok hr b
    have hf : (gRun s b).1.findIdx? (fun g => s b g) = (gRun t b).1.findIdx? fun g => t b g := by
      rw [← ih]
      exact findIdx_congr fun g hg => by
        obtain ⟨k, hk⟩ := List.getElem?_of_mem hg
        exact h b g (by omega) (by have := (hok.first k g hk).1; omega)
    cases hfi : (gRun t b).1.findIdx? fun g => t b g with
    | some k => rw [gRun_some hfi, gRun_some (hf.trans hfi), ih]
    | none => rw [gRun_none hfi, gRun_none (hf.trans hfi), ih]
theorem gRun_one {s : Nat → Nat → Bool} (h : ∀ b, s b 0 = true) : ∀ b, gRun s (b + 1) = ([0], List.replicate (b + 1) 0)
  | 0 => by rw [gRun_none (by unfold gRun; rfl)]; unfold gRun; rfl
  | b + 1 => by
    have ih := gRun_one h b
    have hfi : (gRun s (b + 1)).1.findIdx? (fun g => s (b + 1) g) = some 0 := by rw [ih]; simp [List.findIdx?_cons, h]
    rw [gRun_some hfi, ih]
    simp only [List.replicate_succ' (n := b + 1)]
theorem cells_law (cells : List (BitVec 256)) (next : List (List Int)) (final : List Bool) : (cellsM (autoOf cells next final)).length = (gRun (simD (dfaOf cells next final)) 256).1.length ∧
    ∀ (k : Nat) x, (cellsM (autoOf cells next final))[k]? = some x → ∀ i, i < 256 → x.getLsbD i = atSet (gRun (simD (dfaOf cells next final)) 256).2 k i := by
  unfold autoOf dfaOf
  split
  · rename_i hs
    have hsim : ∀ b g, b < 256 → g < 256 → simD (madeD cells next final) b g = simT next cells b g := by
      intro b g hb hg
      unfold simD simTo simT
      rw [Bool.eq_iff_iff, List.all_eq_true, List.all_eq_true]
      have hlen : (madeD cells next final).next.length = next.length := by simp [madeD]
      constructor
      · intro h row hrow
        obtain ⟨q, hq⟩ := List.getElem?_of_mem hrow
        have := h q (List.mem_range.2 (by rw [hlen]; exact (List.getElem?_eq_some_iff.1 hq).1))
        rwa [madeD_step hq hb, madeD_step hq hg] at this
      · intro h q hq
        have hq' := List.mem_range.1 hq
        rw [hlen] at hq'
        obtain ⟨row, hrow⟩ := get_some hq'
        rw [madeD_step hrow hb, madeD_step hrow hg]
        exact h row (List.mem_of_getElem? hrow)
    rw [gRun_congr (simD_refl _) hsim 256 (Nat.le_refl _)]
    exact sets_of_g hs
  · have hone : ∀ b, simD noneD b 0 = true := by
      intro b
      unfold simD simTo
      rw [List.all_eq_true]
      intro q hq
      have hq1 : q < 1 := List.mem_range.1 hq
      obtain rfl : q = 0 := by omega
      have hz : ∀ c, stepD noneD 0 c = 0 := fun c => by
        have h0 : noneD.cell.getD c 0 = 0 := by
          simp only [noneD]
          rw [List.getD_eq_getElem?_getD, List.getElem?_replicate]
          split <;> rfl
        unfold stepD
        rw [h0]
        rfl
      show (stepD noneD 0 b == stepD noneD 0 0) = true
      rw [hz, hz]; rfl
    have h1 := gRun_one hone 255
    rw [show 255 + 1 = 256 from rfl] at h1
    rw [h1]
    refine ⟨rfl, fun k x hx i hi => ?_⟩
    simp only [cellsM] at hx
    have hk := (List.getElem?_eq_some_iff.1 hx).1
    simp only [List.length_singleton] at hk
    rw [show k = 0 by omega, List.getElem?_cons_zero] at hx
    cases hx
    rw [BitVec.getLsbD_allOnes, show k = 0 by omega]
    unfold atSet
    rw [List.getElem?_replicate, if_pos hi]
    simp [hi]

end Go.Proofs.YtfbghcpdinlmcaaGreatDoor
/- One table just where the same members; the automaton odd: plain laws. -/
set_option linter.unusedVariables false
set_option linter.unusedSimpArgs false
set_option maxRecDepth 100000
namespace Go.Proofs.YtfbghcpdinlmcaaGreatDoor
open Go.VC
attribute [local irreducible] mRun gRun atRun odd7M
/-! ### cells by steps -/
def simO (o : Option AM) (b g : Nat) : Bool := (List.range (stN o)).all fun q => stepM o (q : Int) b == stepM o (q : Int) g
def cellsG (sim : Nat → Nat → Bool) : List (BitVec 256) := (atSets (gRun sim 256).2 (gRun sim 256).1.length).map bvN
theorem simO_refl (o : Option AM) (a : Nat) : simO o a a = true := by simp [simO]
theorem cellsG_congr {s t : Nat → Nat → Bool} (hr : ∀ a, s a a = true) (h : ∀ b g, b < 256 → g < 256 → s b g = t b g) : cellsG s = cellsG t := by
  unfold cellsG
  rw [gRun_congr hr h 256 (Nat.le_refl _)]
theorem simO_D {o : Option AM} {D : DM} (hn : stN o = D.next.length) (hst : ∀ q b : Nat, q < stN o → b < 256 → stepM o (q : Int) b = stepD D (q : Int) b) {b g : Nat} (hb : b < 256) (hg : g < 256) : simO o b g = simD D b g := by
  unfold simO simD simTo
  rw [hn, Bool.eq_iff_iff, List.all_eq_true, List.all_eq_true]
  constructor <;> intro h q hq
  · have h1 := h q hq
    have hq1 := List.mem_range.1 hq
    rw [hst q b (by omega) hb, hst q g (by omega) hg] at h1
    exact h1
  · have h1 := h q hq
    have hq1 := List.mem_range.1 hq
    rw [hst q b (by omega) hb, hst q g (by omega) hg]
    exact h1
theorem cells_sim (cells : List (BitVec 256)) (next : List (List Int)) (final : List Bool) : cellsM (autoOf cells next final) = cellsG (simO (autoOf cells next final)) := by
  obtain ⟨h1, h2⟩ := cells_law cells next final
  have e : cellsG (simO (autoOf cells next final)) = cellsG (simD (dfaOf cells next final)) := cellsG_congr (simO_refl _) fun b g hb hg => simO_D (both_n _ _ _) (fun q b _ hb => both_step _ _ _ _ hb) hb hg
  rw [e]
  unfold cellsG
  refine List.ext_getElem? fun k => ?_
  by_cases hk : k < (gRun (simD (dfaOf cells next final)) 256).1.length
  · obtain ⟨x, hx⟩ := get_some (l := cellsM (autoOf cells next final)) (k := k) (by rw [h1]; exact hk)
    rw [hx, List.getElem?_map, atSets_get hk]
    simp only [Option.map_some]
    congr 1
    refine BitVec.eq_of_getLsbD_eq fun i hi => ?_
    rw [h2 k x hx i hi, bvN_bit _ hi]
  · rw [List.getElem?_eq_none (by omega), List.getElem?_eq_none (by rw [List.length_map, atSets_len]; omega)]
/-! ### the table's text -/
def IsMade (o : Option AM) : Prop := ∃ cells next final, o = autoOf cells next final
theorem IsMade.ok {o : Option AM} (h : IsMade o) : ∃ ls, CellsOk o ls := by
  obtain ⟨c, n, f, rfl⟩ := h
  exact cells_ok c n f
theorem IsMade.steps {o : Option AM} (h : IsMade o) : StepOk o := by
  obtain ⟨c, n, f, rfl⟩ := h
  exact (both_of c n f).stepOk
/-- The canonical automaton of o. -/
structure IsCan (o : Option AM) (a : Option AM) : Prop where
  made : IsMade a
  ex : ∃ O, InLang (paO o) O ∧ InOrder (paO o) O ∧ LeadsC (paO o) O (stepM a) (finM a) ∧ stN a = O.length
/-! ### odd -/
/-! ### a table's bytes -/
end Go.Proofs.YtfbghcpdinlmcaaGreatDoor
/- The walk over all things that words lead to, for any steps: what automaton it makes, on both sides; products. Plain law. -/
set_option linter.unusedVariables false
set_option linter.unusedSimpArgs false
set_option maxRecDepth 100000
namespace Go.Proofs.YtfbghcpdinlmcaaGreatDoor
open Go.VC
attribute [local irreducible] mRun gRun atRun
section
variable {K : Type} {most : Nat} {step : K → Nat → K} {start : K} {P : K → Prop} {fin : K → Bool} {sets : List (BitVec 256)}
/-- What steps, a beginning and sets of bytes must bear. -/
structure GenOk (step : K → Nat → K) (start : K) (P : K → Prop) (sets : List (BitVec 256)) : Prop where
  beg : P start
  st : ∀ x b, P x → P (step x b)
  sep : ∀ g b, g < 256 → b < 256 → sigEq sets g b = true → ∀ x, P x → step x g = step x b
theorem GenOk.cov (h : GenOk step start P sets) : CovP P step (leastB sets) := fun b hb hp => by
  obtain ⟨g, g1, g2, g3⟩ := exists_least (cells := sets) (b := b) b (sigEq_refl sets b)
  have hne : g ≠ b := fun e => by rw [e, hp] at g3; cases g3
  exact ⟨g, by omega, g3, fun x hx => h.sep g b (by omega) hb (sigEq_iff.2 fun c hc => (sigEq_iff.1 g2 c hc).symm) x hx⟩
theorem GenOk.detA [DecidableEq K] (h : GenOk step start P sets) (hm : 1 ≤ most) : (detF most step (repsM sets) start).map Prod.fst = detW most step start := by
  rw [repsM_filter]
  exact detW_of h.cov hm h.beg h.st
theorem GenOk.detD [DecidableEq K] (h : GenOk step start P sets) (hm : 1 ≤ most) : (detF most step (atRun sets 256).1 start).map Prod.fst = detW most step start := by
  rw [atRun_filter]
  exact detW_of h.cov hm h.beg h.st
structure LeadsG (step : K → Nat → K) (fin : K → Bool) (F : List K) (st : Int → Nat → Int) (fi : Int → Bool) : Prop where
  st : ∀ (q b : Nat) (x : K), F[q]? = some x → b < 256 → ∃ t : Nat, st (q : Int) b = (t : Int) ∧ F[t]? = some (step x b)
  fi : ∀ (q : Nat) (x : K), F[q]? = some x → fi (q : Int) = fin x
theorem genRows [DecidableEq K] (h : GenOk step start P sets) {bs : List Nat} {F : List K} {rows : List (List Nat)} (hm : 1 ≤ most) (hd : detF most step bs start = some (F, rows)) : RowsOk most step bs start F.length F rows ∧ ∀ x ∈ F, P x := by
  obtain ⟨-, -, -, g4⟩ := rows_inv (P := P) hm h.beg (fun x b hx => h.st x b hx) bs most F rows hd
  exact ⟨rowsF_ok hm F.length F rows (detF_at hm hd) fun j hj => hj, g4⟩
theorem rowG_lt {bs : List Nat} {F : List K} {rows : List (List Nat)} (hk : RowsOk most step bs start F.length F rows) {q : Nat} {row : List Nat} (hr : rows[q]? = some row) : row.length = bs.length ∧ ∀ t ∈ row, t < F.length := by
  have hcl := hk.cols row (List.mem_of_getElem? hr)
  refine ⟨hcl, fun t ht => ?_⟩
  obtain ⟨k, hkt⟩ := List.getElem?_of_mem ht
  have hkl := (List.getElem?_eq_some_iff.1 hkt).1
  obtain ⟨b, hb⟩ := get_some (l := bs) (k := k) (by omega)
  have hql := (List.getElem?_eq_some_iff.1 hr).1
  rw [hk.rl] at hql
  obtain ⟨x, hx⟩ := get_some (l := F) (k := q) hql
  exact (List.getElem?_eq_some_iff.1 (hk.ok q k row b t x hr hb hkt hx)).1
/-- The program's automaton. -/
theorem autoG [DecidableEq K] (h : GenOk step start P sets) {F : List K} {rows : List (List Nat)} (hm : 1 ≤ most) (hm2 : most ≤ 65536) (hd : detF most step (repsM sets) start = some (F, rows)) :
    soundB (atomsM sets) (rows.map rowI) F.length = true ∧ LeadsG step fin F (stepM (some (madeM (atomsM sets) (rows.map rowI) (F.map fin)))) (finM (some (madeM (atomsM sets) (rows.map rowI) (F.map fin)))) ∧ stN (some (madeM (atomsM sets) (rows.map rowI) (F.map fin))) = F.length := by
  obtain ⟨hk, hP⟩ := genRows h hm hd
  have h0 := (List.getElem?_eq_some_iff.1 hk.zero).1
  have hlen := hk.len
  have hrl : (rows.map rowI).length = F.length := by rw [List.length_map, hk.rl]
  have hbl : (repsM sets).length = (atomsM sets).length := List.length_map _
  have hs : soundB (atomsM sets) (rows.map rowI) F.length = true := by
    rw [soundB_iff]
    refine ⟨⟨by omega, by omega, hrl⟩, fun b hb => atoms_cnt _ hb, fun r hr => ?_⟩
    obtain ⟨row, hrow, rfl⟩ := List.mem_map.1 hr
    obtain ⟨q, hq⟩ := List.getElem?_of_mem hrow
    obtain ⟨h1, h2⟩ := rowG_lt hk hq
    unfold rowOk
    rw [Bool.and_eq_true, beq_iff_eq, List.all_eq_true]
    refine ⟨by unfold rowI; rw [List.length_map, h1, hbl], fun t ht => ?_⟩
    obtain ⟨u, hu, rfl⟩ := List.mem_map.1 ht
    have := h2 u hu
    simp only [Bool.and_eq_true, decide_eq_true_eq]
    omega
  have hfl : (F.map fin).length = F.length := List.length_map _
  refine ⟨hs, ⟨fun q b x hx hb => ?_, fun q x hx => ?_⟩, by simp only [stN, madeM, List.length_map]; exact hk.rl⟩
  · obtain ⟨row, hrow⟩ := get_some (l := rows) (k := q) (by rw [hk.rl]; exact (List.getElem?_eq_some_iff.1 hx).1)
    obtain ⟨h1, h2⟩ := rowG_lt hk hrow
    obtain ⟨c1, c2⟩ := soundB_cells hs hb
    obtain ⟨c, hc⟩ := get_some c1
    have hcb := c2 c hc
    obtain ⟨t, ht⟩ := get_some (l := row) (k := cellOf (atomsM sets) b) (by omega)
    have hbs : (repsM sets)[cellOf (atomsM sets) b]? = some (nextM c 0).1 := by unfold repsM; rw [List.getElem?_map, hc]; rfl
    have hok := hk.ok q _ row _ t x hrow hbs ht hx
    have hcm := atoms_mem.1 (List.mem_of_getElem? hc)
    have hp := part_ok sets
    have hsg : sigEq sets (nextM c 0).1 b = true := sigEq_iff.2 fun s hs => hp.same c hcm _ _ (least_of (hp.ne c hcm)).1 hcb s hs
    refine ⟨t, ?_, by rw [hok, h.sep _ b (nextM_lt c 0) hb hsg x (hP x (List.mem_of_getElem? hx))]⟩
    rw [madeM_step (row := rowI row) (by rw [hfl]; exact hs) (by rw [List.getElem?_map, hrow]; rfl) hb]
    unfold rowI
    rw [List.getD_eq_getElem?_getD, List.getElem?_map, ht]
    rfl
  · simp [finM, madeM, hx]
/-- The document's. -/
theorem docG [DecidableEq K] (h : GenOk step start P sets) {F : List K} {rows : List (List Nat)} (hm : 1 ≤ most) (hm2 : most ≤ 65536) (hd : detF most step (atRun sets 256).1 start = some (F, rows)) {D : DM} (hD : D = ⟨asI (atRun sets 256).2, asI (atRun sets 256).1, rows.map rowI, F.map fin⟩) :
    D.Ok ∧ LeadsG step fin F (stepD D) (finD D) ∧ D.next.length = F.length := by
  subst hD
  obtain ⟨hk, hP⟩ := genRows h hm hd
  have h0 := (List.getElem?_eq_some_iff.1 hk.zero).1
  have hlen := hk.len
  have hat := atRun_ok sets 256
  have hrl : (rows.map rowI).length = F.length := by rw [List.length_map, hk.rl]
  refine ⟨⟨by simp only; omega, by simp only; omega, by simp only [List.length_map]; exact hk.rl.symm, by simp only; rw [asI_len, hat.plen], fun r hr => ?_⟩, ⟨fun q b x hx hb => ?_, fun q x hx => ?_⟩, hrl⟩
  · simp only at hr ⊢
    obtain ⟨row, hrow, rfl⟩ := List.mem_map.1 hr
    obtain ⟨q, hq⟩ := List.getElem?_of_mem hrow
    obtain ⟨h1, h2⟩ := rowG_lt hk hq
    have hfl : (atRun sets 256).1.length ≤ 256 := hat.flen
    have hil : (rowI row).length = row.length := by unfold rowI; rw [List.length_map]
    refine ⟨by omega, fun c hc => ?_, fun t ht => ?_⟩
    · obtain ⟨u, hu, rfl⟩ := List.mem_map.1 hc
      have : u < (atRun sets 256).1.length := hat.lt u hu
      omega
    · obtain ⟨u, hu, rfl⟩ := List.mem_map.1 ht
      have := h2 u hu
      omega
  · obtain ⟨row, hrow⟩ := get_some (l := rows) (k := q) (by rw [hk.rl]; exact (List.getElem?_eq_some_iff.1 hx).1)
    obtain ⟨h1, h2⟩ := rowG_lt hk hrow
    obtain ⟨p, hp⟩ := get_some (l := (atRun sets 256).2) (k := b) (by rw [hat.plen]; exact hb)
    have hpl : p < (atRun sets 256).1.length := hat.lt p (List.mem_of_getElem? hp)
    obtain ⟨g, hg⟩ := get_some hpl
    obtain ⟨t, ht⟩ := get_some (l := row) (k := p) (by omega)
    have hok := hk.ok q p row g t x hrow hg ht hx
    have hsg : sigEq sets g b = true := sigEq_iff.2 fun s hs => (sigEq_iff.1 (hat.sig b p g hp hg).1 s hs).symm
    have hg8 : g < 256 := (hat.first p g hg).1
    refine ⟨t, ?_, by rw [hok, h.sep g b hg8 hb hsg x (hP x (List.mem_of_getElem? hx))]⟩
    exact stepD_at (row := rowI row) (c := p) (by simp only; rw [List.getElem?_map, hrow]; rfl) (asI_get hp) (by unfold rowI; rw [List.getElem?_map, ht]; rfl)
  · simp [finD, hx]
theorem leadsG_uniq {F : List K} (hn : F.Nodup) {s1 s2 : Int → Nat → Int} {f1 f2 : Int → Bool} {fin' : K → Bool} (h1 : LeadsG step fin F s1 f1) (h2 : LeadsG step fin' F s2 f2) : ∀ (q b : Nat), q < F.length → b < 256 → s1 (q : Int) b = s2 (q : Int) b := fun q b hq hb => by
  obtain ⟨x, hx⟩ := get_some hq
  obtain ⟨t, e1, k1⟩ := h1.st q b x hx hb
  obtain ⟨u, e2, k2⟩ := h2.st q b x hx hb
  have : t = u := by
    obtain ⟨ht, e3⟩ := List.getElem?_eq_some_iff.1 k1
    obtain ⟨hu, e4⟩ := List.getElem?_eq_some_iff.1 k2
    rcases Nat.lt_trichotomy t u with h | h | h
    · exact absurd (e3.trans e4.symm) (List.pairwise_iff_getElem.1 hn t u ht hu h)
    · exact h
    · exact absurd (e4.trans e3.symm) (List.pairwise_iff_getElem.1 hn u t hu ht h)
  rw [e1, e2, this]
theorem leadsG_fin {F : List K} {s1 s2 : Int → Nat → Int} {f1 f2 : Int → Bool} (h1 : LeadsG step fin F s1 f1) (h2 : LeadsG step fin F s2 f2) : ∀ (q : Nat), q < F.length → f1 (q : Int) = f2 (q : Int) := fun q hq => by
  obtain ⟨x, hx⟩ := get_some hq
  rw [h1.fi q x hx, h2.fi q x hx]
/-- Where there's no room, there are more things than room. -/
theorem rowsF_none_many [DecidableEq K] (hm : 1 ≤ most) (h0 : P start) (hs : ∀ x b, P x → P (step x b)) (bs : List Nat) : ∀ n, rowsF most step bs start n = none → ∃ L : List K, L.Nodup ∧ L.length = most + 1 ∧ ∀ x ∈ L, P x
  | 0, h => by cases h
  | n + 1, h => by
    rw [rowsF] at h
    cases hr : rowsF most step bs start n with
    | none => exact rowsF_none_many hm h0 hs bs n hr
    | some p =>
      obtain ⟨f, rows⟩ := p
      obtain ⟨i1, i2, -, i4⟩ := rows_inv (P := P) hm h0 hs bs n f rows hr
      rw [hr] at h
      simp only [Option.bind_some] at h
      cases hx : f[n]? with
      | none => rw [hx] at h; cases h
      | some x =>
        rw [hx] at h
        simp only [Option.map_eq_none_iff] at h
        have hPx := i4 x (List.mem_of_getElem? hx)
        -- the fold fails at some byte
        have key : ∀ (l : List Nat) (g : List K) (r : List Nat), g.length ≤ most → g.Nodup → (∀ y ∈ g, P y) → l.foldl (rowF most step x) (some (g, r)) = none → ∃ L : List K, L.Nodup ∧ L.length = most + 1 ∧ ∀ y ∈ L, P y := fun l => by
          induction l with
          | nil => intro g r _ _ _ h; cases h
          | cons b l ih =>
            intro g r hg hnd hP h
            rw [List.foldl_cons] at h
            cases ha : atF most g (step x b) with
            | none =>
              unfold atF at ha
              cases hf : g.findIdx? (· = step x b) with
              | some j => rw [hf] at ha; cases ha
              | none =>
                rw [hf] at ha
                simp only at ha
                split at ha
                · cases ha
                · have hno : step x b ∉ g := fun hmem => by
                    rw [List.findIdx?_eq_none_iff] at hf
                    have := hf _ hmem
                    simp at this
                  refine ⟨g ++ [step x b], List.nodup_append.2 ⟨hnd, by simp, fun u hu v hv => ?_⟩, by simp; omega, fun y hy => ?_⟩
                  · rw [List.mem_singleton] at hv
                    subst hv
                    exact fun e => hno (e ▸ hu)
                  · rcases List.mem_append.1 hy with hy | hy
                    · exact hP y hy
                    · rw [List.mem_singleton] at hy; subst hy; exact hs x b hPx
            | some q =>
              obtain ⟨g2, i⟩ := q
              have e : rowF most step x (some (g, r)) b = some (g2, r ++ [i]) := by
                show (atF most g (step x b)).map _ = _
                rw [ha]; rfl
              rw [e] at h
              obtain ⟨-, k2, k3, -⟩ := atF_some ha hg hnd
              exact ih g2 _ k2 k3 (fun y hy => by
                rcases atF_mem2 ha y hy with h | rfl
                · exact hP y h
                · exact hs x b hPx) h
        exact key bs f [] i1 i2 i4 h
end
/-! ### products -/
def stepPr (a b : Option AM) (x : Int × Int) (c : Nat) : Int × Int := if c < 256 then (stepM a x.1 c, stepM b x.2 c) else x
def inPr (a b : Option AM) (x : Int × Int) : Prop := (0 ≤ x.1 ∧ x.1 < stN a) ∧ 0 ≤ x.2 ∧ x.2 < stN b
/-- Bytes of one cell step alike. -/
theorem cells_sep {o : Option AM} {ls : List Nat} (h : CellsOk o ls) {g b : Nat} (hg : g < 256) (hb : b < 256) (hs : ∀ c ∈ cellsM o, c.getLsbD g = c.getLsbD b) {q : Int} (h0 : 0 ≤ q) (h1 : q < stN o) : stepM o q g = stepM o q b := by
  obtain ⟨k, c, hk, hcb, -⟩ := h.part b hb
  have hcg : c.getLsbD g = true := by rw [hs c (List.mem_of_getElem? hk)]; exact hcb
  obtain ⟨l, hl, -⟩ := h.least k c hk
  rw [(h.keeps k c l g hk hl hg hcg).2 q h0 h1, (h.keeps k c l b hk hl hb hcb).2 q h0 h1]
theorem genPr {a b : Option AM} (ha : IsMade a) (hb : IsMade b) : GenOk (stepPr a b) ((0, 0) : Int × Int) (inPr a b) (cellsM a ++ cellsM b) := by
  have sa := ha.steps
  have sb := hb.steps
  have a1 := sa.n1
  have b1 := sb.n1
  obtain ⟨la, ca⟩ := ha.ok
  obtain ⟨lb, cb⟩ := hb.ok
  refine ⟨⟨⟨Int.le_refl _, by omega⟩, Int.le_refl _, by omega⟩, fun x c hx => ?_, fun g c hg hc hs x hx => ?_⟩
  · unfold stepPr
    split
    · rename_i h
      have h1 := sa.step x.1 c hx.1 h
      have h2 := sb.step x.2 c hx.2 h
      exact ⟨h1, h2⟩
    · exact hx
  · unfold stepPr
    rw [if_pos hg, if_pos hc]
    have h1 := cells_sep ca hg hc (fun d hd => (sigEq_iff.1 hs d (List.mem_append_left _ hd))) hx.1.1 hx.1.2
    have h2 := cells_sep cb hg hc (fun d hd => (sigEq_iff.1 hs d (List.mem_append_right _ hd))) hx.2.1 hx.2.2
    rw [h1, h2]
/-- The document's cells are the program's. -/
theorem cells_doc (cells : List (BitVec 256)) (next : List (List Int)) (final : List Bool) : cellsD (dfaOf cells next final) = cellsM (autoOf cells next final) := by
  rw [cells_sim]
  exact (cellsG_congr (simO_refl _) fun b g hb hg => simO_D (both_n _ _ _) (fun q b _ hb => both_step _ _ _ _ hb) hb hg).symm
/-- The pairs that are reached, within a budget. -/
def prW (a b : Option AM) (most : Nat) : Option (List (Int × Int)) := detW most (stepPr a b) (0, 0)
end Go.Proofs.YtfbghcpdinlmcaaGreatDoor
/- The explorer over pairs; lang.product, Meet, Join, Less: the walks. -/
set_option linter.unusedVariables false
set_option linter.unusedSimpArgs false
set_option maxRecDepth 100000
namespace Go.Proofs.YtfbghcpdinlmcaaGreatDoor
open Go.VC
attribute [local irreducible] mRun gRun atRun
theorem lp_lits (m : Nat) {n : Int × Int} (h : PkOk n) : Tryz.prog.keyLits (m + 2) 224 (pkL n) = some [.int .i64 n.1, .int .i64 n.2] := by
  have c1 : Tryz.prog.cellsOf 224 = 2 := by kernel_rfl
  have c2 : Tryz.prog.cellsOf 3 = 1 := by kernel_rfl
  simp [Program.keyLits, Tryz.underlying224, Tryz.underlying3, c1, c2, pkL, pk_wf h.1, pk_wf h.2]
theorem lp_key {n : Int × Int} (h : PkOk n) : ∃ l, keyOf Tryz.prog 224 (pkV n) = some l := by
  have hk : Tryz.prog.keyType 224 = true := by kernel_rfl
  have c1 : Tryz.prog.cellsOf 224 = 2 := by kernel_rfl
  have hf : (pkV n).formed Tryz.prog 224 = true := by simp [pkV, pkL, Value.formed, Tryz.underlying224, c1]
  obtain ⟨m, hm⟩ : ∃ m, Tryz.prog.types.size + 1 = m + 2 := ⟨Tryz.prog.types.size - 1, by
    have : decide (1 ≤ Tryz.prog.types.size) = true := by kernel_rfl
    have := of_decide_eq_true this
    omega⟩
  refine ⟨.string (keyBytes [.int .i64 n.1, .int .i64 n.2]), ?_⟩
  unfold keyOf
  simp only [Tryz.underlying224, hk, hf, Bool.and_self, if_true]
  rw [hm, show (pkV n).cells.toList = pkL n from rfl, lp_lits m h]
  rfl
theorem keyLp : KeyW Tryz.prog 224 PkOk pkV :=
  KeyW.ofLaw (deep_law (m := 2) (by decide) (by kernel_rfl) (by kernel_rfl) (by simp [Tryz.underlying224])) (fun a b h => pkV_inj h) (fun a h => lp_key h)
theorem mapLp : MapTW Tryz.prog 298 224 3 (.int .i64 0) := ⟨rfl, rfl⟩
/-- Pairs in memory. -/
def tLp : Ty (Int × Int) where
  size := 2
  rep _ _ cs x := cs = pkL x
  len h := by rw [h]; rfl
  frame h _ := h
  mono h _ := h
theorem tLp_ones (x : Int × Int) : ∀ u ∈ pkL x, u.oneCell' = true := by
  intro u hu
  unfold pkL at hu
  simp only [List.mem_cons, List.not_mem_nil, or_false] at hu
  rcases hu with rfl | rfl <;> rfl
theorem pair_zL : (Tryz.prog.info? 224).bind (·.zero) = some (pkV (0, 0)) := by kernel_rfl
/-- Numbers that a state may have. -/
def Pr16 (x : Int × Int) : Prop := (0 ≤ x.1 ∧ x.1 < 65536) ∧ 0 ≤ x.2 ∧ x.2 < 65536
theorem Pr16.ok {x : Int × Int} (h : Pr16 x) : PkOk x := ⟨kint h.1, kint h.2⟩
theorem _root_.Go.VC.StB.front {B : Nat → Prop} {H0 H : Heap} {ps : List Pc} {q : Pc} (st : StB B H0 H (ps ++ [q])) : StB B H0 H (q :: ps) := by
  have hd := List.pairwise_append.1 st.dis
  refine ⟨st.old, st.lt0, st.size, fun p hp => st.oks p ?_, fun p hp => st.rng p ?_, List.pairwise_cons.2 ⟨fun p hp k hk hk2 => hd.2.2 p hp q (by simp) k hk2 hk, hd.1⟩⟩
  · rcases List.mem_cons.1 hp with rfl | hp
    · simp
    · simp [hp]
  · rcases List.mem_cons.1 hp with rfl | hp
    · simp
    · simp [hp]
theorem _root_.Go.VC.StB.tail {B : Nat → Prop} {H0 H : Heap} {ps : List Pc} {q : Pc} (st : StB B H0 H (q :: ps)) : StB B H0 H ps :=
  ⟨st.old, st.lt0, st.size, fun p hp => st.oks p (by simp [hp]), fun p hp => st.rng p (by simp [hp]), (List.pairwise_cons.1 st.dis).2⟩
/-! ### at -/
abbrev tExP : TypeId := 301
def exPM (F : List (Int × Int)) (s : Int × Int) : Option Value := (F.findIdx? (· = s)).map fun (i : Nat) => .int .i64 (i : Int)
theorem exPM_put {F : List (Int × Int)} {k : Int × Int} (hno : F.findIdx? (· = k) = none) : put (exPM F) k (some (.int .i64 (F.length : Int))) = exPM (F ++ [k]) := by
  funext s
  unfold put exPM
  rw [List.findIdx?_append]
  by_cases hs : s = k
  · subst hs
    rw [if_pos rfl, hno]
    simp [List.findIdx?_cons]
  · rw [if_neg hs]
    cases h : F.findIdx? (· = s) with
    | some i => simp
    | none =>
      have : k ≠ s := fun e => hs e.symm
      simp [List.findIdx?_cons, this]
section
variable {B : Nat → Prop} {H0 H : Heap} {rest : List Pc} {xb mb fc most : Nat} {fa : Option Addr} {F : List (Int × Int)} {k : Int × Int}
def exPS (xb mb : Nat) (fa : Option Addr) (fc most : Nat) (F : List (Int × Int)) (rest : List Pc) : List Pc :=
  pB tExP xb (exL mb (.slice fa F.length fc) most) :: pMW PkOk pkV mb (exPM F) :: pS tLp 224 fa F.length fc F :: rest
set_option maxHeartbeats 4000000 in
theorem atP_v {K : Value → Heap → Prop} (st : StB B H0 H (exPS xb mb fa fc most F rest)) (hk : PkOk k) (hm : most ≤ 4096) (hFl : F.length ≤ most)
    (k1 : ∀ F' i fa' fc' H', atF most F k = some (F', i) → StB B H0 H' (exPS xb mb fa' fc' most F' rest) → K (.tuple #[.int .i64 (i : Int), .bool true]) H')
    (k2 : ∀ H', atF most F k = none → StB B H0 H' (exPS xb mb fa fc most F rest) → K (.tuple #[.int .i64 0, .bool false]) H') :
    VCall Tryz.prog 164 #[.pointer (some ⟨xb, 0, none⟩), pkV k] H K := by
  refine VCall.mk (R := fun r H' => (∃ (F' : List (Int × Int)) (i : Nat) (fa' : Option Addr) (fc' : Nat), r = .tuple #[.int .i64 (i : Int), .bool true] ∧ atF most F k = some (F', i) ∧ StB B H0 H' (exPS xb mb fa' fc' most F' rest)) ∨ (r = .tuple #[.int .i64 0, .bool false] ∧ atF most F k = none ∧ StB B H0 H' (exPS xb mb fa fc most F rest))) ?_ fun r H' h => by
    rcases h with ⟨F', i, fa', fc', rfl, h1, h2⟩ | ⟨rfl, h1, h2⟩
    · exact k1 F' i fa' fc' H' h1 h2
    · exact k2 H' h1 h2
  unfold exPS at st
  refine FnOk.of_vc Tryz.func164 rfl (Tryz.call164 _) ?_
  (conv => whnf); refine vbox (pkL k) rfl ?_
  intro kb Hk hkb hsk hbk hak
  have stk := (st.box hkb hsk hbk hak).front
  clear st hbk hak
  have hb0 := stk.blk 1 rfl
  have hkc : Cells Hk kb 0 (pkL k) := (stk.blk 0 rfl).cells fun j v hv => by rw [Nat.zero_add]; exact hv
  (conv => whnf); refine VDraw.lex rfl (by kernel_rfl) ?_
  (conv => whnf); refine VC.fa fl301_0 ?_
  (conv => whnf); refine ld1 (v := .map (some mb)) ct298 (by rw [hb0.cell]; rfl) trivial ?_
  (conv => whnf); refine ldN (cs := pkL k) ag224 hkc trivial ?_
  (conv => whnf); refine mlookOkW (a := k) mapLp keyLp hk (stk.mapW 2 rfl) trivial ?_
  rw [show exPM F k = (F.findIdx? (· = k)).map fun (i : Nat) => .int .i64 (i : Int) from rfl]
  cases hf : F.findIdx? (· = k) with
  | some i =>
    (conv => whnf)
    exact .inl ⟨F, i, fa, fc, rfl, by unfold atF; rw [hf], stk.tail⟩
  | none =>
    (conv => whnf); refine VDraw.lex rfl (by kernel_rfl) ?_
    (conv => whnf); refine VC.fa fl301_1 ?_
    (conv => whnf); refine ld1 (v := .slice fa F.length fc) ct299 (by rw [hb0.cell]; rfl) trivial ?_
    (conv => whnf); refine VC.fa fl301_2 ?_
    (conv => whnf); refine ld1 (v := .int .i64 (most : Int)) ct3 (by rw [hb0.cell]; rfl) trivial ?_
    by_cases hlt : F.length < most
    · have d1 : decide ((most : Int) ≤ (F.length : Int)) = false := decide_eq_false (by omega)
      (conv => whnf); rw [d1]
      (conv => whnf); refine VDraw.heldZ (Old Hk) [10] (sq [0,1,2,3,4,5,6,7,8,9] (.f 10 .e)) rfl (by kernel_rfl) ?_
      (conv => whnf); refine VC.fa fl301_0 ?_
      (conv => whnf); refine ld1 (v := .map (some mb)) ct298 (by rw [hb0.cell]; rfl) hb0.lt ?_
      (conv => whnf); refine ldN (cs := pkL k) ag224 hkc (stk.blk 0 rfl).lt ?_
      (conv => whnf); refine VC.fa fl301_1 ?_
      (conv => whnf); refine ld1 (v := .slice fa F.length fc) ct299 (by rw [hb0.cell]; rfl) hb0.lt ?_
      (conv => whnf); refine mputPW (a := k) stk 2 mapLp keyLp hk rfl (exPM_put hf) fun H1 st1 => ?_
      have hb1 := st1.blk 1 rfl
      have hk1 : Cells H1 kb 0 (pkL k) := (st1.blk 0 rfl).cells fun j v hv => by rw [Nat.zero_add]; exact hv
      (conv => whnf); refine VDraw.heldZ (fun j => j = xb ∨ j = kb) [10] (sq [0,1,2,3,4,5] (.f 6 (.f 7 (sq [8,9] (.f 10 .e))))) rfl (by kernel_rfl) ?_
      (conv => whnf); refine VC.fa fl301_1 ?_
      (conv => whnf); refine ld1 (v := .slice fa F.length fc) ct299 (by rw [hb1.cell]; rfl) (.inl rfl) ?_
      (conv => whnf); refine ldN (cs := pkL k) ag224 hk1 (.inr rfl) ?_
      (conv => whnf); refine vbuild1 sl299 (pkL k) rfl rfl (by decide) (by decide) ?_
      intro q11 H11 hq11 hs11 hb11 ha11
      have hlt1 := (st1.blk 1 rfl).lt
      have hlt0 := (st1.blk 0 rfl).lt
      refine ⟨ha11.mono fun j hj => ?_, ?_⟩
      · rcases hj with rfl | rfl <;> omega
      have st11 := st1.skip hq11 ha11
      have ap1 := st11.apart2 (i := 1) (j := 3) rfl rfl (by decide)
      have ap0 := st11.apart2 (i := 0) (j := 3) rfl rfl (by decide)
      (conv => whnf); refine appO (ys := [k]) st11 3 sl299 rfl (hb11.cells fun j v hv => by rw [Nat.zero_add]; exact hv) (Ty.reps_one (show tLp.rep none_ H11 (pkL k) k from rfl)) rfl (tLp_ones k) (by simp only [List.length_singleton]; omega) (by decide) fun a12 c12 H12 st12 hag12 => ?_
      rw [show F.length + [k].length = (F ++ [k]).length by simp] at st12 ⊢
      refine ⟨(ha11.mono fun j hj => ?_).trans (hag12.mono fun j hj => ?_), ?_⟩
      · rcases hj with rfl | rfl <;> omega
      · rcases hj with rfl | rfl
        · exact ⟨by omega, fun h => ap1 _ rfl (.inl h)⟩
        · exact ⟨by omega, fun h => ap0 _ rfl (.inl h)⟩
      (conv => whnf); refine VC.fa fl301_1 ?_
      (conv => whnf); refine st1B st12 1 ct299 rfl (show 1 < 3 by decide) rfl fun H13 st13 => ?_
      replace st13 : StB B H0 H13 (pB 224 kb (pkL k) :: exPS xb mb a12 c12 most (F ++ [k]) rest) := st13
      (conv => whnf); refine VC.fa fl301_1 ?_
      (conv => whnf); refine ld1 (v := .slice a12 (F ++ [k]).length c12) ct299 (by rw [(st13.blk 1 rfl).cell]; rfl) trivial ?_
      have w1 : IntKind.wrap .i64 (((F ++ [k]).length : Int) - 1) = (F.length : Int) := by
        rw [show (F ++ [k]).length = F.length + 1 by simp, w64 (by omega) (by omega)]; omega
      (conv => whnf); rw [w1]
      (conv => whnf)
      exact .inl ⟨F ++ [k], F.length, a12, c12, rfl, by unfold atF; rw [hf]; simp only; rw [if_pos hlt], st13.tail⟩
    · have d1 : decide ((most : Int) ≤ (F.length : Int)) = true := decide_eq_true (by omega)
      (conv => whnf); rw [d1]
      (conv => whnf)
      exact .inr ⟨rfl, by unfold atF; rw [hf]; simp only; rw [if_neg hlt], stk.tail⟩
end
end Go.Proofs.YtfbghcpdinlmcaaGreatDoor
/- ambig's Meets: the walks. -/
set_option linter.unusedVariables false
set_option linter.unusedSimpArgs false
set_option maxRecDepth 100000
namespace Go.Proofs.YtfbghcpdinlmcaaGreatDoor
open Go.VC
attribute [local irreducible] mRun gRun atRun
end Go.Proofs.YtfbghcpdinlmcaaGreatDoor
/- The pairs of louperef07.First: the walk of add. -/
set_option linter.unusedVariables false
set_option linter.unusedSimpArgs false
set_option maxRecDepth 100000
namespace Go.Proofs.YtfbghcpdinlmcaaGreatDoor
open Go.VC
attribute [local irreducible] oneM mRun gRun atRun
/-! ### rows -/
structure PrsP (vs : List Value) (F : List NW) : Prop where
  len : vs.length = 1026
  nd : (F.map (·.1)).Nodup
end Go.Proofs.YtfbghcpdinlmcaaGreatDoor
/- louperef07.First, louperef09.Meets: the walks. -/
set_option linter.unusedVariables false
set_option linter.unusedSimpArgs false
set_option maxRecDepth 100000
namespace Go.Proofs.YtfbghcpdinlmcaaGreatDoor
open Go.VC
attribute [local irreducible] oneM mRun gRun atRun
end Go.Proofs.YtfbghcpdinlmcaaGreatDoor
/- louperef06.pairs: find, add: the walks. -/
set_option linter.unusedVariables false
set_option linter.unusedSimpArgs false
set_option maxRecDepth 100000
namespace Go.Proofs.YtfbghcpdinlmcaaGreatDoor
open Go.VC
attribute [local irreducible] mRun gRun atRun
def hash6 (n : Int × Int) : Nat := (31 * n.1.toNat + n.2.toNat) % 1024
theorem hash6_lt (n : Int × Int) : hash6 n < 1024 := Nat.mod_lt _ (by decide)
/-- The numbers of those whose hash is h. -/
def idx6 (F : List (Int × Int)) (h : Nat) : List Nat := (List.range F.length).filter fun i => decide ((F[i]?.map hash6) = some h)
theorem idx6_snoc (F : List (Int × Int)) (x : Int × Int) (h : Nat) : idx6 (F ++ [x]) h = if hash6 x = h then idx6 F h ++ [F.length] else idx6 F h := by
  unfold idx6
  rw [List.length_append, List.length_singleton, List.range_succ, List.filter_append]
  have e1 : (List.range F.length).filter (fun i => decide (((F ++ [x])[i]?.map hash6) = some h)) = (List.range F.length).filter (fun i => decide ((F[i]?.map hash6) = some h)) := List.filter_congr fun i hi => by
    rw [List.getElem?_append_left (List.mem_range.1 hi)]
  rw [e1]
  have e2 : (F ++ [x])[F.length]? = some x := by simp
  by_cases hh : hash6 x = h
  · rw [if_pos hh, List.filter_cons_of_pos (by rw [e2]; simp [hh])]; rfl
  · rw [if_neg hh, List.filter_cons_of_neg (by rw [e2]; simp [hh])]; simp
theorem idx6_mem {F : List (Int × Int)} {h i : Nat} : i ∈ idx6 F h ↔ ∃ x, F[i]? = some x ∧ hash6 x = h := by
  unfold idx6
  rw [List.mem_filter, List.mem_range, decide_eq_true_eq]
  constructor
  · rintro ⟨h1, h2⟩
    obtain ⟨x, hx⟩ := get_some h1
    rw [hx] at h2
    exact ⟨x, hx, by simpa using h2⟩
  · rintro ⟨x, hx, rfl⟩
    exact ⟨(List.getElem?_eq_some_iff.1 hx).1, by rw [hx]; rfl⟩
/-- What the cells of pairs hold. -/
def pr6S (F : List (Int × Int)) : Nat → Slot
  | 0 => slot tLp 129 F
  | h + 1 => slot tI 3 ((idx6 F h).map fun (i : Nat) => (i : Int))
def pPr6 (b : Nat) (vs : List Value) (F : List (Int × Int)) : Pc := pF 127 b vs (pr6S F)
theorem pr6_add (F : List (Int × Int)) (n : Int × Int) : updS (updS (pr6S F) (hash6 n + 1) (slot tI 3 ((idx6 F (hash6 n)).map (fun (i : Nat) => (i : Int)) ++ [(F.length : Int)]))) 0 (slot tLp 129 (F ++ [n])) = pr6S (F ++ [n]) := by
  funext j
  match j with
  | 0 => rw [updS_self]; rfl
  | h + 1 =>
    rw [updS_ne (by omega)]
    by_cases hh : h + 1 = hash6 n + 1
    · rw [hh, updS_self]
      obtain rfl : h = hash6 n := by omega
      show slot _ _ _ = slot _ _ _
      rw [idx6_snoc, if_pos rfl, List.map_append]; rfl
    · rw [updS_ne hh]
      show slot _ _ _ = slot _ _ _
      rw [idx6_snoc, if_neg (by omega)]
theorem pr6_z : (Tryz.prog.info? 127).bind (·.zero) = some (.agg (List.replicate 1025 (Value.slice none 0 0)).toArray) := by kernel_rfl
theorem pr6_nil (j : Nat) (H : Heap) : (pr6S [] j).ok H (.slice none 0 0) := by
  match j with
  | 0 => exact SlO.nil
  | h + 1 => exact SlO.nil
theorem pr6_new {H0 H : Heap} {ps : List Pc} {K : Value → Heap → Prop} (st : St H0 H ps) (k : ∀ b H', St H0 H' (ps ++ [pPr6 b (List.replicate 1025 (.slice none 0 0)) []]) → K (.pointer (some ⟨b, 0, none⟩)) H') : VEff Tryz.prog (Instr.box 127 (.agg (List.replicate 1025 (Value.slice none 0 0)).toArray)) H K := by
  refine vbox (List.replicate 1025 (Value.slice none 0 0)) rfl ?_
  intro b H' hb hs hk ha
  have st1 := st.box hb hs hk ha
  have st2 := st1.fldNew (ss := pr6S []) ps.length (by rw [List.getElem?_append_right (Nat.le_refl _), Nat.sub_self]; rfl) pr6_nil
  refine k b H' ?_
  rw [List.set_append_right _ _ (Nat.le_refl _), Nat.sub_self] at st2
  exact st2
/-- The number of a pair, or -1. -/
def num6 (F : List (Int × Int)) (n : Int × Int) : Int := match F.findIdx? (· = n) with
  | some i => (i : Int)
  | none => -1
section
variable {B : Nat → Prop} {H : Heap} {b : Nat} {vs : List Value} {F : List (Int × Int)} {n : Int × Int}
theorem w31 {n : Int × Int} (h : Pr16 n) : 31 * n.1 + n.2 = ((31 * n.1.toNat + n.2.toNat : Nat) : Int) := by
  have h1 := h.1
  have h2 := h.2
  omega
set_option maxHeartbeats 16000000 in
theorem find6_c (st : StB B H H [pPr6 b vs F]) (hvl : vs.length = 1025) (hnd : F.Nodup) (hn : Pr16 n) (hlen : F.length ≤ 4096) :
    Pure Tryz.prog 65 #[.pointer (some ⟨b, 0, none⟩), .int .i64 n.1, .int .i64 n.2] H (.int .i64 (num6 F n)) := by
  have hh := hash6_lt n
  have hn1 := hn.1
  have hn2 := hn.2
  obtain ⟨vh, hvh⟩ := get_some (l := vs) (k := hash6 n + 1) (by omega)
  obtain ⟨v0, hv0⟩ := get_some (l := vs) (k := 0) (by omega)
  have hbk0 : Blk H b 127 vs := st.fblk 0 rfl
  obtain ⟨ah, ch, rfl, hvi0⟩ := st.fview 0 rfl hvh (xs := (idx6 F (hash6 n)).map fun (i : Nat) => (i : Int)) (T := tI) (e := 3) rfl
  rw [List.length_map] at hvh
  obtain ⟨a0, c0, rfl, hvs0⟩ := st.fview 0 rfl hv0 (xs := F) (T := tLp) (e := 129) rfl
  have hbl := hbk0.lt
  have hIL : (idx6 F (hash6 n)).length ≤ F.length := by
    unfold idx6
    exact Nat.le_trans (List.length_filter_le _ _) (by simp)
  refine FnOk.of_vc Tryz.func65 rfl (Tryz.call65 _) ?_
  (conv => whnf); rw [w64 (x := 31 * n.1) (by omega) (by omega)]
  (conv => whnf); rw [w64 (x := 31 * n.1 + n.2) (by omega) (by omega)]
  rw [w31 hn]
  (conv => whnf); refine vrem (b := 1024) (by decide) ?_
  rw [show (31 * n.1.toNat + n.2.toNat) % 1024 = hash6 n from rfl]
  (conv => whnf); refine VC.fa fl127_1 ?_
  (conv => whnf); refine ixa ar125 (by omega) (by omega) ?_
  (conv => whnf); refine ld1 (v := .slice ah (idx6 F (hash6 n)).length ch) ct41 (by rw [hbk0.cell, show 0 + 1 + ((hash6 n : Nat) : Int).toNat * 1 = hash6 n + 1 by omega]; exact hvh) trivial ?_
  (conv => whnf)
  refine VLoop.mk [8] (fun k : Nat => [.int .i64 (k : Int)]) (fun k G => k ≤ (idx6 F (hash6 n)).length ∧ (∀ i ∈ (idx6 F (hash6 n)).take k, ∀ x, F[i]? = some x → x ≠ n) ∧ Agr (Old H) H G) (fun k _ => (idx6 F (hash6 n)).length - k) ?_ ?_
  · (conv => whnf)
    exact ⟨0, rfl, Nat.zero_le _, by simp, Agr.refl _ _⟩
  · rintro k G junk ⟨hk, hno, hag⟩
    have hbk : Blk G b 127 vs := hbk0.agr hag hbl
    have hvi := hvi0.frame (hag.mono fun k hk => hk)
    have hvs := hvs0.frame (hag.mono fun k hk => hk)
    (conv => whnf); refine VIte.mk (fun hz => ?_) (fun hz => ?_) <;> simp only [decide_eq_true_eq, decide_eq_false_iff_not] at hz
    · obtain ⟨i, hi⟩ := get_some (l := idx6 F (hash6 n)) (k := k) (by omega)
      obtain ⟨x, hx, hxh⟩ := idx6_mem.1 (List.mem_of_getElem? hi)
      have hil := (List.getElem?_eq_some_iff.1 hx).1
      have hgi : ((idx6 F (hash6 n)).map fun (i : Nat) => (i : Int))[k]? = some (i : Int) := by rw [List.getElem?_map, hi]; rfl
      have hne : x ≠ n → ∀ i' ∈ (idx6 F (hash6 n)).take (k + 1), ∀ x', F[i']? = some x' → x' ≠ n := fun he i' hi' x' hx' => by
        rw [take_succ_snoc hi, List.mem_append, List.mem_singleton] at hi'
        rcases hi' with hi' | rfl
        · exact hno i' hi' x' hx'
        · rw [hx] at hx'
          cases hx'
          exact he
      (conv => whnf); refine VDraw.quiet (Old G) rfl (by kernel_rfl) ?_
      (conv => whnf); refine VC.fa fl127_0 ?_
      (conv => whnf); refine ld1 (v := .slice a0 F.length c0) ct124 (by rw [hbk.cell]; exact hv0) hbk.lt ?_
      (conv => whnf); refine ixrn (i := k) (x := (i : Int)) sl41 hvi (by simp) hgi rfl ?_
      rintro b3 o3 cs3 hS3 hc3 ⟨rfl, -⟩
      (conv => whnf); refine ld1 ct3 hc3.one (old_lt hag hS3) ?_
      (conv => whnf); refine ixrn (i := i) (x := x) sl124 hvs rfl hx rfl ?_
      rintro b4 o4 cs4 hS4 hc4 rfl
      (conv => whnf); refine ixa ar129 (by decide) (by decide) ?_
      (conv => whnf); refine ld1 (v := .int .i64 x.1) ct3 (hc4 0 _ rfl) (old_lt hag hS4) ?_
      by_cases hex : x.1 = n.1
      · have d1 : (x.1 == n.1) = true := by rw [hex]; simp
        (conv => whnf); rw [d1]
        (conv => whnf); refine VC.fa fl127_0 ?_
        (conv => whnf); refine ld1 (v := .slice a0 F.length c0) ct124 (by rw [hbk.cell]; exact hv0) hbk.lt ?_
        (conv => whnf); refine ixrn (i := k) (x := (i : Int)) sl41 hvi (by simp) hgi rfl ?_
        rintro b5 o5 cs5 hS5 hc5 ⟨rfl, -⟩
        (conv => whnf); refine ld1 ct3 hc5.one (old_lt hag hS5) ?_
        (conv => whnf); refine ixrn (i := i) (x := x) sl124 hvs rfl hx rfl ?_
        rintro b6 o6 cs6 hS6 hc6 rfl
        (conv => whnf); refine ixa ar129 (by decide) (by decide) ?_
        (conv => whnf); refine ld1 (v := .int .i64 x.2) ct3 (hc6 1 _ rfl) (old_lt hag hS6) ?_
        by_cases hey : x.2 = n.2
        · have d2 : (x.2 == n.2) = true := by rw [hey]; simp
          (conv => whnf); rw [d2]
          (conv => whnf)
          intro G2 ga2
          have hag2 : Agr (Old H) H G2 := hag.trans (ga2.mono fun k hk => old_lt hag hk)
          (conv => whnf); refine ixrn (i := k) (x := (i : Int)) sl41 (hvi0.frame (hag2.mono fun k hk => hk)) (by simp) hgi rfl ?_
          rintro b7 o7 cs7 hS7 hc7 ⟨rfl, -⟩
          (conv => whnf); refine ld1 ct3 hc7.one trivial ?_
          (conv => whnf)
          refine ⟨?_, hag2⟩
          have hxn : x = n := Prod.ext hex hey
          subst hxn
          have hf : F.findIdx? (· = x) = some i := by
            have := findIdx_in (F := F) (k := x) (List.mem_of_getElem? hx)
            rw [this, ixF_at hnd hx]
          unfold num6
          rw [hf]
        · have d2 : (x.2 == n.2) = false := beq_eq_false_iff_ne.2 hey
          (conv => whnf); rw [d2]
          (conv => whnf)
          intro G2 ga2
          have hag2 : Agr (Old H) H G2 := hag.trans (ga2.mono fun k hk => old_lt hag hk)
          (conv => whnf); rw [w64 (x := (k : Int) + 1) (by omega) (by omega)]
          exact ⟨rfl, k + 1, rfl, ⟨by omega, hne fun e => hey (by rw [e]), hag2⟩, by omega⟩
      · have d1 : (x.1 == n.1) = false := beq_eq_false_iff_ne.2 hex
        (conv => whnf); rw [d1]
        (conv => whnf)
        intro G2 ga2
        have hag2 : Agr (Old H) H G2 := hag.trans (ga2.mono fun k hk => old_lt hag hk)
        (conv => whnf); rw [w64 (x := (k : Int) + 1) (by omega) (by omega)]
        exact ⟨rfl, k + 1, rfl, ⟨by omega, hne fun e => hex (by rw [e]), hag2⟩, by omega⟩
    · obtain rfl : k = (idx6 F (hash6 n)).length := by omega
      rw [List.take_length] at hno
      (conv => whnf)
      refine ⟨?_, hag⟩
      have hnew : n ∉ F := fun hm => by
        obtain ⟨i, hi⟩ := List.getElem?_of_mem hm
        exact hno i (idx6_mem.2 ⟨n, hi, rfl⟩) n hi rfl
      unfold num6
      rw [findIdx_out hnew]
set_option maxHeartbeats 16000000 in
theorem add6_c (st : StB B H H [pPr6 b vs F]) (hvl : vs.length = 1025) (hnd : F.Nodup) (hn : Pr16 n) (hlen : F.length + 1 ≤ 4194304) :
    FnOk Tryz.prog 63 #[.pointer (some ⟨b, 0, none⟩), .int .i64 n.1, .int .i64 n.2] H fun v H' => v = .int .i64 (F.length : Int) ∧ ∃ vs', vs'.length = 1025 ∧ StB B H H' [pPr6 b vs' (F ++ [n])] := by
  have hh := hash6_lt n
  have hn1 := hn.1
  have hn2 := hn.2
  obtain ⟨vh, hvh⟩ := get_some (l := vs) (k := hash6 n + 1) (by omega)
  obtain ⟨v0, hv0⟩ := get_some (l := vs) (k := 0) (by omega)
  have hbk0 : Blk H b 127 vs := st.fblk 0 rfl
  obtain ⟨ah, ch, rfl, -⟩ := st.fview 0 rfl hvh (xs := (idx6 F (hash6 n)).map fun (i : Nat) => (i : Int)) (T := tI) (e := 3) rfl
  rw [List.length_map] at hvh
  obtain ⟨a0, c0, rfl, -⟩ := st.fview 0 rfl hv0 (xs := F) (T := tLp) (e := 129) rfl
  have hbl := hbk0.lt
  have hIL : (idx6 F (hash6 n)).length ≤ F.length := by
    unfold idx6
    exact Nat.le_trans (List.length_filter_le _ _) (by simp)
  have hself : ∀ (j : Nat) (v : Value), vs[j]? = some v → ¬ slB v b := (st.at_ 0 rfl).2.2.2
  refine FnOk.of_vc Tryz.func63 rfl (Tryz.call63 _) ?_
  (conv => whnf); rw [w64 (x := 31 * n.1) (by omega) (by omega)]
  (conv => whnf); rw [w64 (x := 31 * n.1 + n.2) (by omega) (by omega)]
  rw [w31 hn]
  (conv => whnf); refine vrem (b := 1024) (by decide) ?_
  rw [show (31 * n.1.toNat + n.2.toNat) % 1024 = hash6 n from rfl]
  (conv => whnf); refine VDraw.heldZ (fun k => k < H.size ∧ ¬ slB (.slice ah (idx6 F (hash6 n)).length ch) k) [18] (sq [0,1,2,3,4,5,6,7,8,9,10,11,12,15,16] (.f 13 (.f 14 (sq [17] (.f 18 .e))))) rfl (by kernel_rfl) ?_
  (conv => whnf); refine VC.fa fl127_1 ?_
  (conv => whnf); refine ixa ar125 (by omega) (by omega) ?_
  (conv => whnf); refine ld1 (v := .slice ah (idx6 F (hash6 n)).length ch) ct41 (by rw [hbk0.cell, show 0 + 1 + ((hash6 n : Nat) : Int).toNat * 1 = hash6 n + 1 by omega]; exact hvh) ⟨hbl, hself _ _ hvh⟩ ?_
  (conv => whnf); refine VC.fa fl127_0 ?_
  (conv => whnf); refine ld1 (v := .slice a0 F.length c0) ct124 (by rw [hbk0.cell]; exact hv0) ⟨hbl, hself _ _ hvh⟩ ?_
  (conv => whnf); refine VC.fa fl127_1 ?_
  (conv => whnf); refine vbuild1 sl41 [.int .i64 (F.length : Int)] rfl rfl (by decide) (by decide) ?_
  intro q3 H3 hq3 hs3 hb3 ha3
  have st3 := st.skip hq3 ha3
  refine ⟨ha3.mono fun k hk => by have := hk.1; omega, ?_⟩
  (conv => whnf); refine appF (ys := [(F.length : Int)]) (ds := [.int .i64 (F.length : Int)]) st3 0 sl41 rfl hvh (xs := (idx6 F (hash6 n)).map fun (i : Nat) => (i : Int)) (T := tI) (e := 3) rfl (hb3.cells fun j v hv => by rw [Nat.zero_add]; exact hv) (Ty.reps_one ⟨rfl, inI64 (by omega)⟩) rfl (by simp [Value.oneCell']) (by simp only [List.length_map, List.length_singleton]; unfold maxLen; omega) (by simp only [List.length_map, List.length_singleton]; omega) fun v4 H4 st4 ha4 h14 => ?_
  refine ⟨(ha3.mono fun k hk => by have := hk.1; omega).trans (ha4.mono fun k hk => ⟨by have := hk.1; omega, hk.2⟩), ?_⟩
  (conv => whnf); refine ixa ar125 (by omega) (by omega) ?_
  (conv => whnf); refine stF (o := 0 + 1 + ((hash6 n : Nat) : Int).toNat * 1) (j := hash6 n + 1) st4 0 ct41 rfl (by omega) h14 fun H5 st5 => ?_
  have hw0 : (vs.set (hash6 n + 1) v4)[0]? = some (.slice a0 F.length c0) := by rw [List.getElem?_set_ne (by omega)]; exact hv0
  have hwl : (vs.set (hash6 n + 1) v4).length = 1025 := by rw [List.length_set]; exact hvl
  generalize vs.set (hash6 n + 1) v4 = ws at *
  have hk5 : Blk H5 b 127 ws := st5.fblk 0 rfl
  (conv => whnf); refine VC.fa fl127_0 ?_
  (conv => whnf); refine ld1 (v := .slice a0 F.length c0) ct124 (by rw [hk5.cell]; exact hw0) trivial ?_
  (conv => whnf); refine vbuildA ar129 (.agg #[.int .i64 0, .int .i64 0]) rfl (pkL n) rfl ?_
  (conv => whnf); refine vbuild1 sl124 (pkL n) rfl rfl (by decide) (by decide) ?_
  intro q6 H6 hq6 hs6 hb6 ha6
  have st6 := st5.skip hq6 ha6
  (conv => whnf); refine appF (ys := [n]) (ds := pkL n) st6 0 sl124 rfl hw0 (xs := F) (T := tLp) (e := 129) (by rw [updS_ne (by omega)]; rfl) (hb6.cells fun j v hv => by rw [Nat.zero_add]; exact hv) (Ty.reps_one (show tLp.rep none_ H6 (pkL n) n from rfl)) rfl (tLp_ones n) (by simp only [List.length_singleton]; unfold maxLen; omega) (by simp only [List.length_singleton]; omega) fun v7 H7 st7 ha7 h17 => ?_
  (conv => whnf); refine VC.fa fl127_0 ?_
  (conv => whnf); refine stF (o := 0 + 0) (j := 0) st7 0 ct124 rfl rfl h17 fun H8 st8 => ?_
  rw [pr6_add] at st8
  have hk8 : Blk H8 b 127 (ws.set 0 v7) := st8.fblk 0 rfl
  have hg0 : (ws.set 0 v7)[0]? = some v7 := List.getElem?_set_self (by omega)
  obtain ⟨a8, c8, e8, -⟩ := st8.fview 0 rfl hg0 (xs := F ++ [n]) (T := tLp) (e := 129) rfl
  (conv => whnf); refine VC.fa fl127_0 ?_
  (conv => whnf); refine ld1 (v := .slice a8 (F ++ [n]).length c8) ct124 (by rw [hk8.cell, ← e8]; exact hg0) trivial ?_
  have w1 : IntKind.wrap .i64 (((F ++ [n]).length : Int) - 1) = (F.length : Int) := by
    rw [show (F ++ [n]).length = F.length + 1 by simp, w64 (by omega) (by omega)]; omega
  (conv => whnf); rw [w1]
  (conv => whnf)
  exact ⟨rfl, ws.set 0 v7, by rw [List.length_set]; exact hwl, st8.pick [0] (by decide)⟩
theorem add6_v {H0 : Heap} {ps : List Pc} {K : Value → Heap → Prop} (st : StB B H0 H ps) (i : Nat) (hp : ps[i]? = some (pPr6 b vs F)) (hvl : vs.length = 1025) (hnd : F.Nodup) (hn : Pr16 n) (hlen : F.length + 1 ≤ 4194304)
    (k : ∀ vs' H', StB B H0 H' (ps.set i (pPr6 b vs' (F ++ [n]))) → vs'.length = 1025 → K (.int .i64 (F.length : Int)) H') : VCall Tryz.prog 63 #[.pointer (some ⟨b, 0, none⟩), .int .i64 n.1, .int .i64 n.2] H K := by
  refine VCall.mk (add6_c (StB.start (st.at_ i hp) fun k hk => (st.in_ i hp hk).2) hvl hnd hn hlen) ?_
  rintro _ H' ⟨rfl, vs', hvl', st'⟩
  refine k vs' H' (st.upd i hp st'.old _ (st'.at_ 0 rfl) (fun k hk => ?_) (fun k hk => (st'.in_ 0 rfl hk).2) st'.size) hvl'
  have := (st'.in_ 0 rfl hk).1
  by_cases h1 : k < H.size
  · by_cases h2 : (pPr6 b vs F).foot k
    · exact .inl h2
    · exact absurd ⟨h1, h2⟩ this
  · exact .inr (by omega)
theorem find6_v {H0 : Heap} {ps : List Pc} {K : Value → Heap → Prop} (st : StB B H0 H ps) (i : Nat) (hp : ps[i]? = some (pPr6 b vs F)) (hvl : vs.length = 1025) (hnd : F.Nodup) (hn : Pr16 n) (hlen : F.length ≤ 4096)
    (k : ∀ H', StB B H0 H' ps → K (.int .i64 (num6 F n)) H') : VCall Tryz.prog 65 #[.pointer (some ⟨b, 0, none⟩), .int .i64 n.1, .int .i64 n.2] H K := by
  refine pures (find6_c (StB.start (st.at_ i hp) fun k hk => (st.in_ i hp hk).2) hvl hnd hn hlen) fun H' ha => ?_
  exact k H' (st.call ha)
end
end Go.Proofs.YtfbghcpdinlmcaaGreatDoor
/- Explore over pairs; lang.product, Meet, Join, Less: the walks. (Printed by mklg4.py.) -/
set_option linter.unusedVariables false
set_option linter.unusedSimpArgs false
set_option maxRecDepth 100000
namespace Go.Proofs.YtfbghcpdinlmcaaGreatDoor
open Go.VC
attribute [local irreducible] mRun gRun atRun
/-- Two automata, in boxes. -/
structure BoxAB (S : Nat → Prop) (H : Heap) (pa pb : Nat) (va vb : Value) (a b : Option AM) : Prop where
  spa : S pa
  spb : S pb
  ca : Cells H pa 0 [va]
  cb : Cells H pb 0 [vb]
  va : AutoV S H va a
  vb : AutoV S H vb b
theorem BoxAB.frame {S : Nat → Prop} {H H' : Heap} {pa pb : Nat} {va vb : Value} {a b : Option AM} (h : BoxAB S H pa pb va vb a b) (k : Agr S H H') : BoxAB S H' pa pb va vb a b :=
  ⟨h.spa, h.spb, h.ca.eq (k _ h.spa), h.cb.eq (k _ h.spb), h.va.frame k, h.vb.frame k⟩
section
variable {S : Nat → Prop} {H : Heap} {pa pb pf : Nat} {va vb : Value} {a b : Option AM} {x : Int × Int} {c : Nat} {ends : Bool → Bool → Bool} {f : FuncId}
set_option maxHeartbeats 4000000 in
theorem stepP_p (hS : ∀ k, S k → k < H.size) (h : BoxAB S H pa pb va vb a b) (hc : c < 256) :
    Pure Tryz.prog 120 #[pkV x, .int .u8 (c : Int), .pointer (some ⟨pa, 0, none⟩), .pointer (some ⟨pb, 0, none⟩)] H (pkV (stepPr a b x c)) := by
  have e : stepPr a b x c = (stepM a x.1 c, stepM b x.2 c) := if_pos hc
  rw [e]
  refine FnOk.of_vc Tryz.func120 rfl (Tryz.call120 _) ?_
  (conv => whnf); refine vbox (pkL x) rfl ?_
  intro p4 H1 hp4 hs1 hb1 ha1
  have st1 := (St.nil H).box hp4 hs1 hb1 ha1
  (conv => whnf); refine valloc (pkV (0, 0)) (pkL (0, 0)) pair_zL rfl ?_
  intro p6 H2 hp6 hs2 hb2 ha2
  have st2 := st1.box hp6 hs2 hb2 ha2
  have h2 := h.frame (st2.old.mono hS)
  have b4 := st2.blk 0 rfl
  have up2 : ∀ k, S k → k < H2.size := fun k hk => st2.up (hS k hk)
  (conv => whnf); refine VDraw.heldZ (Old H2) [11] (sq [0,1,2,3,5,6,7,8] (.f 4 (.f 9 (sq [10] (.f 11 .e))))) rfl (by kernel_rfl) ?_
  (conv => whnf); refine ld1 (v := va) ct23 (h2.ca 0 _ rfl) (up2 _ h.spa) ?_
  (conv => whnf); refine VC.fa fl224_0 ?_
  (conv => whnf); refine ld1 (v := .int .i64 x.1) ct3 (by rw [b4.cell]; rfl) b4.lt ?_
  (conv => whnf); refine ld1 (v := vb) ct23 (h2.cb 0 _ rfl) (up2 _ h.spb) ?_
  (conv => whnf); refine VC.fa fl224_1 ?_
  (conv => whnf); refine ld1 (v := .int .i64 x.2) ct3 (by rw [b4.cell]; rfl) b4.lt ?_
  (conv => whnf); refine pures (step_p up2 h2.va hc) fun H3 ha3 => ?_
  have st3 := st2.call ha3
  refine ⟨ha3, ?_⟩
  (conv => whnf); refine pures (step_p (fun k hk => st3.up (hS k hk)) (h.vb.frame (st3.old.mono hS)) hc) fun H4 ha4 => ?_
  have st4 := st3.call ha4
  refine ⟨ha3.trans (ha4.mono fun k hk => old_lt ha3 hk), ?_⟩
  (conv => whnf); refine vbuildS Tryz.underlying224 rfl (pkV (0, 0)) pair_zL (pkL (stepM a x.1 c, stepM b x.2 c)) rfl ?_
  (conv => whnf); refine stNB (cs := pkL (stepM a x.1 c, stepM b x.2 c)) st4 1 rfl rfl (Nat.le_refl _) rfl fun H5 st5 => ?_
  rw [splice_all (show (pkL (stepM a x.1 c, stepM b x.2 c)).length = (pkL (0, 0)).length from rfl)] at st5
  (conv => whnf); refine ldN (cs := pkL (stepM a x.1 c, stepM b x.2 c)) ag224 ((st5.blk 1 rfl).cells fun j v hv => by rw [Nat.zero_add]; exact hv) trivial ?_
  exact ⟨rfl, st5.old⟩
set_option maxHeartbeats 4000000 in
theorem finalP_p (hS : ∀ k, S k → k < H.size) (h : BoxAB S H pa pb va vb a b) (hpf : S pf) (hcf : Cells H pf 0 [.func (.func f) #[] #[]]) (hf : ∀ (G : Heap) (x y : Bool), Pure Tryz.prog f #[.bool x, .bool y] G (.bool (ends x y))) :
    Pure Tryz.prog 121 #[pkV x, .pointer (some ⟨pf, 0, none⟩), .pointer (some ⟨pa, 0, none⟩), .pointer (some ⟨pb, 0, none⟩)] H (.bool (ends (finM a x.1) (finM b x.2))) := by
  refine FnOk.of_vc Tryz.func121 rfl (Tryz.call121 _) ?_
  (conv => whnf); refine vbox (pkL x) rfl ?_
  intro p4 H1 hp4 hs1 hb1 ha1
  have st1 := (St.nil H).box hp4 hs1 hb1 ha1
  have h1 := h.frame (st1.old.mono hS)
  have b4 := st1.blk 0 rfl
  have up1 : ∀ k, S k → k < H1.size := fun k hk => st1.up (hS k hk)
  (conv => whnf); refine VDraw.heldZ (Old H1) [] (sq [0,1,2,3,5,6,7] (.f 4 (.f 8 (.f 9 (.f 10 .e))))) rfl (by kernel_rfl) ?_
  (conv => whnf); refine ld1 (v := .func (.func f) #[] #[]) ct120 ((hcf.eq (st1.old _ (hS _ hpf))) 0 _ rfl) (up1 _ hpf) ?_
  (conv => whnf); refine ld1 (v := va) ct23 (h1.ca 0 _ rfl) (up1 _ h.spa) ?_
  (conv => whnf); refine VC.fa fl224_0 ?_
  (conv => whnf); refine ld1 (v := .int .i64 x.1) ct3 (by rw [b4.cell]; rfl) b4.lt ?_
  (conv => whnf); refine ld1 (v := vb) ct23 (h1.cb 0 _ rfl) (up1 _ h.spb) ?_
  (conv => whnf); refine VC.fa fl224_1 ?_
  (conv => whnf); refine ld1 (v := .int .i64 x.2) ct3 (by rw [b4.cell]; rfl) b4.lt ?_
  (conv => whnf); refine pures (final_p h1.va) fun H3 ha3 => ?_
  have st3 := st1.call ha3
  refine ⟨ha3, ?_⟩
  (conv => whnf); refine pures (final_p (h.vb.frame (st3.old.mono hS))) fun H4 ha4 => ?_
  have st4 := st3.call ha4
  have h14 := ha3.trans (ha4.mono fun k hk => old_lt ha3 hk)
  refine ⟨h14, ?_⟩
  (conv => whnf); refine pures (hf H4 _ _) fun H5 ha5 => ?_
  have st5 := st4.call ha5
  have h15 := h14.trans (ha5.mono fun k hk => old_lt h14 hk)
  refine ⟨h15, ?_⟩
  (conv => whnf)
  refine ⟨h15, ?_⟩
  (conv => whnf)
  exact ⟨rfl, st5.old⟩
theorem atG_len {K : Type} [DecidableEq K] {most : Nat} {F F' : List K} {k : K} {i : Nat} (h : atF most F k = some (F', i)) (hl : F.length ≤ most) : F'.length ≤ most ∧ i < most := by
  unfold atF at h
  split at h
  · rename_i j hj
    injection h with h; injection h with h1 h2; subst h1; subst h2
    have := (List.findIdx?_eq_some_iff_getElem.1 hj).1
    omega
  · split at h
    · injection h with h; injection h with h1 h2; subst h1; subst h2
      simp only [List.length_append, List.length_cons, List.length_nil]; omega
    · cases h
/-- What Explore answers. -/
def ExpP (a b : Option AM) (ends : Bool → Bool → Bool) (most : Nat) (cs : List (BitVec 256)) (l0 : Int × Int) (H H' : Heap) (r : Value) : Prop := Agr (Old H) H H' ∧
  match detF most (stepPr a b) (bsOf cs) l0 with
  | none => r = .tuple #[.pointer none, .bool false]
  | some (F, rows) => ∃ v, r = .tuple #[v, .bool true] ∧ AutoV (fun k => H.size ≤ k ∧ k < H'.size) H' v (if soundB cs (rows.map rowI) F.length then some (madeM cs (rows.map rowI) (F.map fun x => ends (finM a x.1) (finM b x.2))) else none)
set_option maxHeartbeats 16000000 in
theorem exploreP_c {ca : Option Addr} {cc most : Nat} {cs : List (BitVec 256)} {l0 : Int × Int} (hS : ∀ k, S k → k < H.size) (hab : BoxAB S H pa pb va vb a b) (hpf : S pf) (hcf : Cells H pf 0 [.func (.func f) #[] #[]]) (hf : ∀ (G : Heap) (x y : Bool), Pure Tryz.prog f #[.bool x, .bool y] G (.bool (ends x y)))
    (hcs : SlD tSet S H ca cc cs) (hcl : cs.length ≤ 256) (sa : StepOk a) (sb : StepOk b) (hl0 : inPr a b l0) (hm1 : 1 ≤ most) (hm : most ≤ 4096) :
    FnOk Tryz.prog 122 #[pkV l0, .slice ca cs.length cc, .func (.func 120) #[] #[.pointer (some ⟨pa, 0, none⟩), .pointer (some ⟨pb, 0, none⟩)], .func (.func 121) #[] #[.pointer (some ⟨pf, 0, none⟩), .pointer (some ⟨pa, 0, none⟩), .pointer (some ⟨pb, 0, none⟩)], .int .i64 (most : Int)] H fun r H' => ExpP a b ends most cs l0 H H' r := by
  have h16 : ∀ x, inPr a b x → Pr16 x := fun x hx => by
    have h1 := sa.n2
    have h2 := sb.n2
    obtain ⟨⟨x1, x2⟩, x3, x4⟩ := hx
    exact ⟨⟨x1, by omega⟩, x3, by omega⟩
  have hst : ∀ x c, inPr a b x → inPr a b (stepPr a b x c) := fun x c hx => by
    unfold stepPr
    split
    · rename_i h
      exact ⟨sa.step x.1 c hx.1 h, sb.step x.2 c hx.2 h⟩
    · exact hx
  have hF0 : ∀ x ∈ [l0], inPr a b x := fun x hx => by rw [List.mem_singleton] at hx; subst hx; exact hl0
  refine FnOk.of_vc Tryz.func122 rfl (Tryz.call122 _) ?_
  (conv => whnf); refine vbox (pkL l0) rfl ?_
  intro kb0 H0' hkb0 hs0 hb0' ha0'
  have st0 := (St.nil H).box hkb0 hs0 hb0' ha0'
  (conv => whnf); refine mmakeW (Ok := PkOk) (enc := pkV) fun mb H1 hb1 hs1 hm1' ha1 => ?_
  have st1 := st0.mapNewW hb1 hs1 hm1' ha1
  (conv => whnf); refine vbuildS Tryz.underlying301 rfl (.agg #[.map none, .slice none 0 0, .int .i64 0]) rfl (exL mb (.slice none 0 0) most) rfl ?_
  (conv => whnf); refine vbox (exL mb (.slice none 0 0) most) rfl ?_
  intro xb H2 hxb hs2 hb2 ha2
  have stA := (st1.box hxb hs2 hb2 ha2).nils tLp 224
  have hkc : Cells H2 kb0 0 (pkL l0) := (stA.blk 0 rfl).cells fun j v hv => by rw [Nat.zero_add]; exact hv
  have st2 : St H H2 (exPS xb mb none 0 most [] []) := stA.pick [2, 1, 3] (by decide)
  have hat0 : atF most ([] : List (Int × Int)) l0 = some ([l0], 0) := by
    unfold atF
    rw [List.findIdx?_nil]
    simp only
    rw [if_pos (by simp only [List.length_nil]; omega)]
    rfl
  (conv => whnf); refine ldN (cs := pkL l0) ag224 hkc trivial ?_
  (conv => whnf); refine atP_v st2 (h16 l0 hl0).ok hm (Nat.zero_le _) (fun F' i fa' fc' H3 h1 st3 => ?_) (fun H3 h1 _ => ?_)
  · rw [hat0] at h1
    injection h1 with h1
    injection h1 with h1 h2
    subst h1; subst h2
    have st4 : St H H3 (exPS xb mb fa' fc' most [l0] [pN (tSl tIk) none_ 41 none 0 0 [], pS tBool 4 none 0 0 []]) := (st3.nils (tSl tIk) 41).nils tBool 4
    (conv => whnf)
    refine VLoop.mk [15, 16, 17] (fun x : Nat × List (Int × Int) × List (List Nat) × Option Addr × Nat × Option Addr × Nat => match x with | (i, F, rows, na, nc, ba, bc) => [.slice na i nc, .slice ba i bc, .int .i64 (i : Int)])
      (fun x H4 => match x with | (i, F, rows, na, nc, ba, bc) => i ≤ F.length ∧ F.length ≤ most ∧ (∀ x ∈ F, inPr a b x) ∧ rows.length = i ∧ rowsF most (stepPr a b) (bsOf cs) l0 i = some (F, rows) ∧ ∃ Sx fa fc, St H H4 (exPS xb mb fa fc most F [pN (tSl tIk) Sx 41 na i nc (rows.map rowI), pS tBool 4 ba i bc ((F.take i).map fun x => ends (finM a x.1) (finM b x.2))])) (fun x _ => most - x.1) ?_ ?_
    · (conv => whnf)
      exact ⟨(0, [l0], [], none, 0, none, 0), rfl, Nat.zero_le _, by simp only [List.length_cons, List.length_nil]; omega, hF0, rfl, rfl, none_, fa', fc', st4⟩
    · rintro ⟨i, F, rows, na, nc, ba, bc⟩ H4 junk4 ⟨hiF, hFm, hHF, hrl, hrun, Sx, fa, fc, st5⟩
      have hb5 := st5.blk 0 rfl
      (conv => whnf); refine VC.fa fl301_1 ?_
      (conv => whnf); refine ld1 (v := .slice fa F.length fc) ct299 (by rw [hb5.cell]; rfl) trivial ?_
      (conv => whnf); refine VIte.mk (fun hz => ?_) (fun hz => ?_) <;> simp only [decide_eq_true_eq, decide_eq_false_iff_not] at hz
      · obtain ⟨x, hx⟩ := get_some (l := F) (k := i) (by omega)
        have hxh := hHF x (List.mem_of_getElem? hx)
        have hnext : rowsF most (stepPr a b) (bsOf cs) l0 (i + 1) = ((bsOf cs).foldl (rowF most (stepPr a b) x) (some (F, []))).map fun r => (r.1, rows ++ [r.2]) := by
          show (rowsF most (stepPr a b) (bsOf cs) l0 i).bind _ = _
          rw [hrun]
          simp only [Option.bind_some, hx]
        (conv => whnf); refine vmake1 sl41 rfl (by omega) (by omega) (by omega) (by omega) ?_
        intro rb H6 hrb hs6 hb6 ha6
        rw [Int.toNat_natCast] at hb6
        rw [Int.toNat_natCast, show (0 : Int).toNat = 0 from rfl]
        have st6 := st5.newCap (T := tIk) (cap := cs.length) hrb hs6 hb6 ha6 (by simp [tInt]) (by unfold maxLen; omega)
        (conv => whnf)
        refine VLoop.mk [18, 51] (fun y : Nat × List (Int × Int) × List Nat × Option Addr × Nat => match y with | (j, F', row, ra, rc) => [.slice ra row.length rc, .int .i64 (j : Int)])
          (fun y H7 => match y with | (j, F', row, ra, rc) => j ≤ cs.length ∧ F'.length ≤ most ∧ (∀ x ∈ F', inPr a b x) ∧ F <+: F' ∧ row.length = j ∧ ((bsOf cs).take j).foldl (rowF most (stepPr a b) x) (some (F, [])) = some (F', row) ∧ ∃ fa fc, St H H7 (exPS xb mb fa fc most F' [pN (tSl tIk) Sx 41 na i nc (rows.map rowI), pS tBool 4 ba i bc ((F.take i).map fun x => ends (finM a x.1) (finM b x.2)), pS tIk 3 ra row.length rc (rowI row)])) (fun y _ => cs.length - y.1) ?_ ?_
        · (conv => whnf)
          exact ⟨(0, F, [], some ⟨rb, 0, none⟩, cs.length), rfl, Nat.zero_le _, hFm, hHF, List.prefix_refl _, rfl, rfl, fa, fc, st6⟩
        · rintro ⟨j, F', row, ra, rc⟩ H7 junk7 ⟨hj, hF'm, hHF', hpre, hrowl, hfold, fa7, fc7, st7⟩
          (conv => whnf); refine VIte.mk (fun hz2 => ?_) (fun hz2 => ?_) <;> simp only [decide_eq_true_eq, decide_eq_false_iff_not] at hz2
          · obtain ⟨c, hc⟩ := get_some (l := cs) (k := j) (by omega)
            have hbs := bsOf_get hc
            have hblt := nextM_lt c 0
            have hxF' := pre_get hpre hx
            (conv => whnf); refine ixr (i := j) sl106 (hcs.frame (st7.old.mono hS)) hc rfl ?_
            rintro b8 o8 cs8 hS8 hc8 rfl
            (conv => whnf); refine ldN (cs := setL c) ag101 hc8 trivial ?_
            (conv => whnf); refine valloc (setV 0) (setL 0) rfl rfl ?_
            intro sx H8 hsx hs8 hb8 ha8
            have st8 := st7.box hsx hs8 hb8 ha8
            (conv => whnf); refine stNB (cs := setL c) st8 6 rfl rfl (Nat.le_refl _) rfl fun H9 st9 => ?_
            rw [splice_all (show (setL c).length = (setL 0).length from rfl)] at st9
            (conv => whnf); refine ldN (cs := setL c) ag101 ((st9.blk 6 rfl).cells fun j v hv => by rw [Nat.zero_add]; exact hv) trivial ?_
            (conv => whnf); refine pures (next_p c 0 (by decide) H9) fun H10 ha10 => ?_
            have st10 := st9.call ha10
            have hb10 := st10.blk 0 rfl
            (conv => whnf); refine VC.fa fl301_1 ?_
            (conv => whnf); refine ld1 (v := .slice fa7 F'.length fc7) ct299 (by rw [hb10.cell]; rfl) trivial ?_
            have hview := st10.view 2 rfl
            (conv => whnf); refine ixrn (i := i) sl299 hview rfl hxF' rfl ?_
            rintro b11 o11 c11 hS11 hc11 rfl
            (conv => whnf); refine ldN (cs := pkL x) ag224 hc11 trivial ?_
            have up10 : ∀ k, S k → k < H10.size := fun k hk => st10.up (hS k hk)
            (conv => whnf); refine pures (stepP_p (S := S) up10 (hab.frame (st10.old.mono hS)) hblt) fun H11 ha11 => ?_
            have st11 := st10.call ha11
            replace st11 : St H H11 (exPS xb mb fa7 fc7 most F' [pN (tSl tIk) Sx 41 na i nc (rows.map rowI), pS tBool 4 ba i bc ((F.take i).map fun x => ends (finM a x.1) (finM b x.2)), pS tIk 3 ra row.length rc (rowI row)]) := st11.pick [0, 1, 2, 3, 4, 5] (by decide)
            have hstep : ((bsOf cs).take (j + 1)).foldl (rowF most (stepPr a b) x) (some (F, [])) = (atF most F' (stepPr a b x (nextM c 0).1)).map fun r => (r.1, row ++ [r.2]) := by
              rw [take_succ_snoc hbs, List.foldl_append, hfold]
              rfl
            (conv => whnf); refine atP_v st11 (h16 _ (hst x _ hxh)).ok hm hF'm (fun F2 t fa12 fc12 H12 h12 st12 => ?_) (fun H12 h12 st12 => ?_)
            · obtain ⟨hl2, htm⟩ := atG_len h12 hF'm
              rw [h12] at hstep
              (conv => whnf); refine vbuild1 sl41 [.int .i64 (t : Int)] rfl rfl (by decide) (by decide) ?_
              intro q13 H13 hq13 hs13 hb13 ha13
              (conv => whnf); refine app1 (x := (t : Int)) (st12.skip hq13 ha13) 5 sl41 rfl hb13 ⟨rfl, kint ⟨by omega, by omega⟩⟩ rfl (by unfold rowI; rw [List.length_map]; omega) (by decide) fun a14 c14 H14 st14 _ => ?_
              have e1 : (rowI row).length + 1 = (row ++ [t]).length := by unfold rowI; simp
              have e2 : rowI row ++ [(t : Int)] = rowI (row ++ [t]) := by unfold rowI; simp
              rw [e1, e2] at st14
              rw [e1]
              (conv => whnf); rw [w64 (x := (j : Int) + 1) (by omega) (by omega)]
              exact ⟨rfl, (j + 1, F2, row ++ [t], a14, c14), by simp, ⟨by omega, hl2, fun y hy => (atF_mem2 h12 y hy).elim (hHF' y) fun e => by rw [e]; exact hst x _ hxh, hpre.trans (by
                unfold atF at h12
                split at h12
                · injection h12 with h; injection h with h1 h2; subst h1; exact List.prefix_refl _
                · split at h12
                  · injection h12 with h; injection h with h1 h2; subst h1; exact List.prefix_append _ _
                  · cases h12), by simp [hrowl], hstep, fa12, fc12, st14⟩, by simp only; omega⟩
            · rw [h12] at hstep
              have hnone : (bsOf cs).foldl (rowF most (stepPr a b) x) (some (F, [])) = none := by
                have h3 := (List.take_append_drop (j + 1) (bsOf cs)).symm
                rw [h3, List.foldl_append, hstep]
                exact rowF_none x _
              have hdet : detF most (stepPr a b) (bsOf cs) l0 = none := detF_none (n := i) (by rw [hnext, hnone]; rfl) (by omega)
              (conv => whnf)
              refine ⟨st12.old, ?_⟩
              rw [hdet]
          · obtain rfl : j = cs.length := by omega
            have hfull : (bsOf cs).foldl (rowF most (stepPr a b) x) (some (F, [])) = some (F', row) := by
              rw [← hfold, List.take_of_length_le (by unfold bsOf; rw [List.length_map]; exact Nat.le_refl _)]
            rw [hfull] at hnext
            simp only [Option.map_some] at hnext
            have hxF' := pre_get hpre hx
            have hri : (rowI row).length = row.length := by unfold rowI; rw [List.length_map]
            have hrl2 : (rows.map rowI).length = i := by rw [List.length_map]; exact hrl
            have hend : ((F'.take (i + 1)).map fun x => ends (finM a x.1) (finM b x.2)) = ((F.take i).map fun x => ends (finM a x.1) (finM b x.2)) ++ [ends (finM a x.1) (finM b x.2)] := by
              obtain ⟨t, rfl⟩ := hpre
              rw [List.take_append_of_le_length (by omega), take_succ_snoc hx, List.map_append]
              rfl
            have hel7 : ((F.take i).map fun x => ends (finM a x.1) (finM b x.2)).length = i := by rw [List.length_map, List.length_take]; omega
            obtain ⟨ra', rc', er, hrow7, -⟩ := (st7.at_ 5 rfl).1.view (S' := slB (.slice ra row.length rc)) (fun b hb => hb) (fun b hb => hb.elim)
            injection er with er1 er2 er3
            subst er1; subst er3
            have st8 : St H H7 (pN (tSl tIk) (fun k => Sx k ∨ slB (.slice ra row.length rc) k) 41 na i nc (rows.map rowI) :: [pB tExP xb (exL mb (.slice fa7 F'.length fc7) most), pMW PkOk pkV mb (exPM F'), pS tLp 224 fa7 F'.length fc7 F', pS tBool 4 ba i bc ((F.take i).map fun x => ends (finM a x.1) (finM b x.2))]) := StB.absorb (st7.pick [3, 5, 0, 1, 2, 4] (by decide))
            (conv => whnf); refine vbuild1 sl35 [.slice ra row.length rc] rfl rfl (by decide) (by decide) ?_
            intro q13 H13 hq13 hs13 hb13 ha13
            have st13 := st8.skip hq13 ha13
            have hrow13 : SlD tIk (fun k => Sx k ∨ slB (.slice ra row.length rc) k) H13 ra rc (rowI row) := (hrow7.frame (ha13.mono fun k hk => by
              have := (st7.in_ 5 rfl (.inl hk)).2
              omega)).mono fun k hk => .inr hk
            (conv => whnf); refine appNO (row := rowI row) st13 sl35 (hb13.cells fun j v hv => by rw [Nat.zero_add]; exact hv) ⟨ra, rc, by rw [hri], hrow13⟩ rfl (fun u hu => by cases List.mem_singleton.1 hu; rfl) (by rw [hrl2]; omega) (by decide) fun a14 c14 H14 st14 => ?_
            rw [hrl2] at st14 ⊢
            have hb14 := st14.blk 1 rfl
            (conv => whnf); refine VC.fa fl301_1 ?_
            (conv => whnf); refine ld1 (v := .slice fa7 F'.length fc7) ct299 (by rw [hb14.cell]; rfl) trivial ?_
            (conv => whnf); refine ixrn (i := i) sl299 (st14.view 3 rfl) rfl hxF' rfl ?_
            rintro b11 o11 c11 hS11 hc11 rfl
            (conv => whnf); refine ldN (cs := pkL x) ag224 hc11 trivial ?_
            have up14 : ∀ k, S k → k < H14.size := fun k hk => st14.up (hS k hk)
            (conv => whnf); refine pures (finalP_p (S := S) up14 (hab.frame (st14.old.mono hS)) hpf (hcf.eq (st14.old pf (hS pf hpf))) hf) fun H15 ha15 => ?_
            have st15 := st14.call ha15
            (conv => whnf); refine vbuild1 sl36 [.bool (ends (finM a x.1) (finM b x.2))] rfl rfl (by decide) (by decide) ?_
            intro q16 H16 hq16 hs16 hb16 ha16
            (conv => whnf); refine app1 (x := ends (finM a x.1) (finM b x.2)) (st15.skip hq16 ha16) 4 sl36 rfl hb16 rfl rfl (by rw [hel7]; omega) (by decide) fun a17 c17 H17 st17 _ => ?_
            rw [hel7, ← hend] at st17
            rw [hel7]
            (conv => whnf); rw [w64 (x := (i : Int) + 1) (by omega) (by omega)]
            refine ⟨rfl, (i + 1, F', rows ++ [row], a14, c14, a17, c17), by simp, ⟨?_, hF'm, hHF', by simp [hrl], hnext, (fun k => Sx k ∨ slB (.slice ra row.length rc) k), fa7, fc7, ?_⟩, by simp only; omega⟩
            · have := (List.getElem?_eq_some_iff.1 hxF').1
              omega
            · have e5 : rows.map rowI ++ [rowI row] = (rows ++ [row]).map rowI := by simp
              rw [e5] at st17
              exact st17.pick [1, 2, 3, 0, 4] (by decide)
      · obtain rfl : i = F.length := by omega
        rw [List.take_length] at st5
        have hrl2 : (rows.map rowI).length = F.length := by rw [List.length_map]; exact hrl
        have hdet := detF_done hrun rfl hFm
        have hnew := new_c ca na ba cc nc bc cs (rows.map rowI) (F.map fun x => ends (finM a x.1) (finM b x.2)) (Old H4) H4 (fun k hk => hk) ((hcs.frame (st5.old.mono hS)).mono fun k hk => st5.up (hS k hk)) (st5.view 3 rfl) (st5.view 4 rfl)
        rw [hrl2, List.length_map] at hnew
        (conv => whnf); refine VCall.mk hnew ?_
        rintro v H6 ⟨ha6, hs6, hv6⟩
        have st6 := st5.call ha6
        (conv => whnf)
        refine ⟨st6.old, ?_⟩
        rw [hdet]
        exact ⟨v, rfl, hv6.mono fun k hk => ⟨Nat.le_trans (old_size st5.old) hk.1, hk.2⟩⟩
  · rw [hat0] at h1
    cases h1
end
end Go.Proofs.YtfbghcpdinlmcaaGreatDoor
