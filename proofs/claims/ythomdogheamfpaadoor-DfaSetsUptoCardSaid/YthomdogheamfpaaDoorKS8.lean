/- Parts of the proof: PDLw, PDetB, PNet05, PDCa, PPow5, PLaid5, VOpen, POpenS, VTop, PNetIn5, PNfa5, PNfa6 -/
import Derived.Test.YthomdogheamfpaaDoorKS7
import Derived.Test.YthomdogheamfpaaDoorKS6
import Derived.Test.YthomdogheamfpaaDoorKS3
import Derived.Test.YthomdogheamfpaaDoorRows
import Derived.Lib.LaidTab
import Derived.ProofKit
import Derived.Test.YthomdogheamfpaaDoorKS1
import Derived.OpenShut
import Derived.Test.YthomdogheamfpaaDoorKS2
import Derived.JoinedCond
import Derived.WideKeyArgs
/- Making automata deterministic: the plain law: the walk over all bytes, and over one byte of each atom, find the same sets. -/
set_option linter.unusedVariables false
set_option linter.unusedSimpArgs false
set_option maxRecDepth 100000
namespace Go.Proofs.YthomdogheamfpaaDoor
open Go.VC
attribute [local irreducible] mRun gRun atRun
section
variable {K : Type} [DecidableEq K] {most : Nat} {step : K → Nat → K} {start : K} {P : K → Prop} {x : K}
theorem rowF_fst (s : Option (List K × List Nat)) (b : Nat) : (rowF most step x s b).map Prod.fst = (s.map Prod.fst).bind fun f => (atF most f (step x b)).map Prod.fst := by
  cases s with
  | none => rfl
  | some p =>
    simp only [rowF, Option.bind_some, Option.map_some]
    cases atF most p.1 (step x b) <;> rfl
theorem atF_old {f : List K} {k : K} {i : Nat} (hn : f.Nodup) (h : f[i]? = some k) : atF most f k = some (f, i) := by
  unfold atF
  have : f.findIdx? (· = k) = some i := by
    rw [List.findIdx?_eq_some_iff_getElem]
    obtain ⟨hi, e⟩ := List.getElem?_eq_some_iff.1 h
    refine ⟨hi, by simpa using e, fun j hj => ?_⟩
    have := (List.pairwise_iff_getElem.1 hn) j i (by omega) hi hj
    rw [e] at this
    simpa using this
  rw [this]
theorem atF_mem2 {F F' : List K} {k : K} {i : Nat} (h : atF most F k = some (F', i)) : ∀ y ∈ F', y ∈ F ∨ y = k := by
  intro y hx
  unfold atF at h
  split at h
  · injection h with h; injection h with h1 h2; subst h1; exact .inl hx
  · split at h
    · injection h with h; injection h with h1 h2; subst h1
      rcases List.mem_append.1 hx with hx | hx
      · exact .inl hx
      · rw [List.mem_singleton] at hx; exact .inr hx
    · cases h
theorem row_P (hs : ∀ b, P (step x b)) : ∀ (l : List Nat) (f f' : List K) (r r' : List Nat), l.foldl (rowF most step x) (some (f, r)) = some (f', r') → (∀ y ∈ f, P y) → ∀ y ∈ f', P y
  | [], f, f', r, r', h, hf => by
    simp only [List.foldl_nil, Option.some.injEq, Prod.mk.injEq] at h
    obtain ⟨rfl, -⟩ := h
    exact hf
  | b :: l, f, f', r, r', h, hf => by
    rw [List.foldl_cons] at h
    simp only [rowF, Option.bind_some] at h
    cases ha : atF most f (step x b) with
    | none => rw [ha] at h; rw [Option.map_none, rowF_none] at h; cases h
    | some p =>
      rw [ha] at h
      refine row_P hs l p.1 f' _ r' h fun y hy => ?_
      rcases atF_mem2 (i := p.2) ha y hy with h1 | rfl
      · exact hf y h1
      · exact hs b
theorem row_pre : ∀ (l : List Nat) (f f' : List K) (r r' : List Nat), l.foldl (rowF most step x) (some (f, r)) = some (f', r') → f.length ≤ most → f.Nodup → f'.length ≤ most ∧ f'.Nodup ∧ f <+: f' ∧ ∃ r2, r' = r ++ r2
  | [], f, f', r, r', h, h1, h2 => by
    simp only [List.foldl_nil, Option.some.injEq, Prod.mk.injEq] at h
    obtain ⟨rfl, rfl⟩ := h
    exact ⟨h1, h2, List.prefix_refl _, [], by simp⟩
  | b :: l, f, f', r, r', h, h1, h2 => by
    rw [List.foldl_cons] at h
    simp only [rowF, Option.bind_some] at h
    cases ha : atF most f (step x b) with
    | none => rw [ha] at h; rw [Option.map_none, rowF_none] at h; cases h
    | some p =>
      rw [ha] at h
      obtain ⟨-, g1, g2, g3⟩ := atF_some (i := p.2) ha h1 h2
      obtain ⟨k1, k2, k3, r2, k4⟩ := row_pre l p.1 f' _ r' h g1 g2
      exact ⟨k1, k2, g3.trans k3, p.2 :: r2, by rw [k4]; simp⟩
/-- What holds of all that has been found. -/
theorem rows_inv (hm : 1 ≤ most) (h0 : P start) (hs : ∀ y b, P y → P (step y b)) (bs : List Nat) : ∀ (n : Nat) (f : List K) (rows : List (List Nat)), rowsF most step bs start n = some (f, rows) → f.length ≤ most ∧ f.Nodup ∧ f[0]? = some start ∧ ∀ y ∈ f, P y
  | 0, f, rows, h => by
    simp only [rowsF, Option.some.injEq, Prod.mk.injEq] at h
    obtain ⟨rfl, -⟩ := h
    exact ⟨hm, by simp, rfl, fun y hy => by rw [List.mem_singleton] at hy; subst hy; exact h0⟩
  | n + 1, f, rows, h => by
    simp only [rowsF] at h
    cases hp : rowsF most step bs start n with
    | none => rw [hp] at h; cases h
    | some p =>
      obtain ⟨g1, g2, g3, g4⟩ := rows_inv hm h0 hs bs n p.1 p.2 hp
      rw [hp] at h
      simp only [Option.bind_some] at h
      cases hx : p.1[n]? with
      | none =>
        rw [hx] at h
        simp only [Option.some.injEq] at h
        subst h
        exact ⟨g1, g2, g3, g4⟩
      | some x =>
        rw [hx] at h
        simp only at h
        cases hr : bs.foldl (rowF most step x) (some (p.1, [])) with
        | none => rw [hr] at h; cases h
        | some r =>
          rw [hr] at h
          simp only [Option.map_some, Option.some.injEq, Prod.mk.injEq] at h
          obtain ⟨rfl, -⟩ := h
          obtain ⟨k1, k2, k3, -⟩ := row_pre bs p.1 r.1 [] r.2 hr g1 g2
          exact ⟨k1, k2, pre_get k3 g3, row_P (fun b => hs x b (g4 x (List.mem_of_getElem? hx))) bs p.1 r.1 [] r.2 hr g4⟩
/-- Each byte that is left out leads as one ahead of it. -/
def CovP (P : K → Prop) (step : K → Nat → K) (p : Nat → Bool) : Prop := ∀ b, b < 256 → p b = false → ∃ g, g < b ∧ p g = true ∧ ∀ x, P x → step x g = step x b
theorem row_canon {p : Nat → Bool} (hc : CovP P step p) (hx : P x) {f : List K} (h1 : f.length ≤ most) (h2 : f.Nodup) : ∀ m, m ≤ 256 →
    ((List.range m).foldl (rowF most step x) (some (f, []))).map Prod.fst = (((List.range m).filter p).foldl (rowF most step x) (some (f, []))).map Prod.fst := by
  intro m
  induction m with
  | zero => intro _; rfl
  | succ m ih =>
    intro hm
    have ih := ih (by omega)
    rw [List.range_succ, List.filter_append, List.foldl_append, List.foldl_append, List.foldl_cons, List.foldl_nil, rowF_fst, ih]
    cases hp : p m with
    | true =>
      rw [List.filter_cons_of_pos hp, List.filter_nil, List.foldl_cons, List.foldl_nil, rowF_fst]
    | false =>
      rw [List.filter_cons_of_neg (by rw [hp]; decide), List.filter_nil, List.foldl_nil]
      cases hA : (List.range m).foldl (rowF most step x) (some (f, [])) with
      | none => rw [← ih, hA]; rfl
      | some q =>
        obtain ⟨f', r'⟩ := q
        obtain ⟨k1, k2, k3, k4, k5⟩ := foldRow_pre h1 h2 hA
        obtain ⟨g, hg, hpg, hs⟩ := hc m (by omega) hp
        rw [List.length_range] at k4
        obtain ⟨t, ht⟩ := get_some (l := r') (k := g) (by omega)
        have h5 := k5 g g t (List.getElem?_range hg) ht
        rw [hs x hx] at h5
        rw [← ih, hA]
        simp only [Option.map_some, Option.bind_some, atF_old k2 h5]
theorem rows_canon {p : Nat → Bool} (hc : CovP P step p) (hm : 1 ≤ most) (h0 : P start) (hs : ∀ y b, P y → P (step y b)) : ∀ n, (rowsF most step (List.range 256) start n).map Prod.fst = (rowsF most step ((List.range 256).filter p) start n).map Prod.fst
  | 0 => rfl
  | n + 1 => by
    have ih := rows_canon hc hm h0 hs n
    simp only [rowsF]
    cases hA : rowsF most step (List.range 256) start n with
    | none =>
      rw [hA] at ih
      cases hB : rowsF most step ((List.range 256).filter p) start n with
      | none => rfl
      | some q => rw [hB] at ih; cases ih
    | some q =>
      rw [hA] at ih
      cases hB : rowsF most step ((List.range 256).filter p) start n with
      | none => rw [hB] at ih; cases ih
      | some q' =>
        rw [hB] at ih
        simp only [Option.map_some, Option.some.injEq] at ih
        obtain ⟨f, rows⟩ := q
        obtain ⟨f', rows'⟩ := q'
        simp only at ih
        subst ih
        obtain ⟨g1, g2, g3, g4⟩ := rows_inv hm h0 hs _ n f rows hA
        simp only [Option.bind_some]
        cases hx : f[n]? with
        | none => rfl
        | some x =>
          have hr := row_canon hc (g4 x (List.mem_of_getElem? hx)) g1 g2 256 (Nat.le_refl _)
          cases hA2 : (List.range 256).foldl (rowF most step x) (some (f, [])) with
          | none =>
            rw [hA2] at hr
            cases hB2 : ((List.range 256).filter p).foldl (rowF most step x) (some (f, [])) with
            | none => simp only [hA2, hB2]; rfl
            | some r => rw [hB2] at hr; cases hr
          | some r =>
            rw [hA2] at hr
            cases hB2 : ((List.range 256).filter p).foldl (rowF most step x) (some (f, [])) with
            | none => rw [hB2] at hr; cases hr
            | some r' =>
              rw [hB2] at hr
              simp only [hA2, hB2]
              simpa using hr
/-- All sets, in the order in which a walk over all bytes finds them. -/
def detW (most : Nat) (step : K → Nat → K) (start : K) : Option (List K) := (detF most step (List.range 256) start).map Prod.fst
theorem detW_of {p : Nat → Bool} (hc : CovP P step p) (hm : 1 ≤ most) (h0 : P start) (hs : ∀ y b, P y → P (step y b)) : (detF most step ((List.range 256).filter p) start).map Prod.fst = detW most step start := (rows_canon hc hm h0 hs most).symm
/-- A prefix of the walk has found a prefix. -/
theorem rows_pre (hm : 1 ≤ most) {bs : List Nat} : ∀ (k n : Nat) (f : List K) (rows : List (List Nat)), rowsF most step bs start (n + k) = some (f, rows) → ∃ f1 rows1, rowsF most step bs start n = some (f1, rows1) ∧ f1 <+: f
  | 0, n, f, rows, h => ⟨f, rows, h, List.prefix_refl _⟩
  | k + 1, n, f, rows, h => by
    rw [← Nat.add_assoc] at h
    simp only [rowsF] at h
    cases hp : rowsF most step bs start (n + k) with
    | none => rw [hp] at h; cases h
    | some p =>
      obtain ⟨f1, rows1, e1, e2⟩ := rows_pre hm k n p.1 p.2 hp
      obtain ⟨g1, g2, -⟩ := rows_inv (P := fun _ => True) hm trivial (fun _ _ _ => trivial) bs (n + k) p.1 p.2 hp
      rw [hp] at h
      simp only [Option.bind_some] at h
      cases hx : p.1[n + k]? with
      | none =>
        rw [hx] at h
        simp only [Option.some.injEq] at h
        subst h
        exact ⟨f1, rows1, e1, e2⟩
      | some x =>
        rw [hx] at h
        simp only at h
        cases hr : bs.foldl (rowF most step x) (some (p.1, [])) with
        | none => rw [hr] at h; cases h
        | some r =>
          rw [hr] at h
          simp only [Option.map_some, Option.some.injEq, Prod.mk.injEq] at h
          obtain ⟨rfl, -⟩ := h
          exact ⟨f1, rows1, e1, e2.trans (row_pre bs p.1 r.1 [] r.2 hr g1 g2).2.2.1⟩
theorem detF_at (hm : 1 ≤ most) {bs : List Nat} {F : List K} {rows : List (List Nat)} (h : detF most step bs start = some (F, rows)) : rowsF most step bs start F.length = some (F, rows) := by
  obtain ⟨g1, -⟩ := rows_inv (P := fun _ => True) hm trivial (fun _ _ _ => trivial) bs most F rows h
  obtain ⟨f1, rows1, e1, e2⟩ := rows_pre hm (most - F.length) F.length F rows (by rw [show F.length + (most - F.length) = most by omega]; exact h)
  have e3 := rowsF_stop e1 e2.length_le most g1
  have e4 : rowsF most step bs start most = some (F, rows) := h
  rw [e4] at e3
  rw [e1]
  exact e3.symm
/-- With room enough nothing changes. -/
theorem atF_most {m2 : Nat} {f f' : List K} {k : K} {i : Nat} (h : atF most f k = some (f', i)) (hl : f'.length ≤ m2) : atF m2 f k = some (f', i) := by
  unfold atF at h ⊢
  cases hf : f.findIdx? (· = k) with
  | some j => rw [hf] at h; exact h
  | none =>
    rw [hf] at h
    simp only at h ⊢
    split at h
    · injection h with h
      injection h with h1 h2
      subst h1
      simp only [List.length_append, List.length_cons, List.length_nil] at hl
      rw [if_pos (by omega), h2]
    · cases h
theorem row_most {m2 : Nat} : ∀ (l : List Nat) (f f' : List K) (r r' : List Nat), l.foldl (rowF most step x) (some (f, r)) = some (f', r') → f.length ≤ most → f.Nodup → f'.length ≤ m2 → l.foldl (rowF m2 step x) (some (f, r)) = some (f', r')
  | [], f, f', r, r', h, _, _, _ => h
  | b :: l, f, f', r, r', h, h1, h2, hl => by
    rw [List.foldl_cons] at h ⊢
    simp only [rowF, Option.bind_some] at h ⊢
    cases ha : atF most f (step x b) with
    | none => rw [ha] at h; rw [Option.map_none, rowF_none] at h; cases h
    | some p =>
      rw [ha] at h
      obtain ⟨-, g1, g2, g3⟩ := atF_some (i := p.2) ha h1 h2
      have k3 := (row_pre l p.1 f' _ r' h g1 g2).2.2.1
      rw [atF_most (i := p.2) ha (Nat.le_trans k3.length_le hl)]
      exact row_most l p.1 f' _ r' h g1 g2 hl
theorem rows_most {m2 : Nat} (hm : 1 ≤ most) {bs : List Nat} : ∀ (n : Nat) (f : List K) (rows : List (List Nat)), rowsF most step bs start n = some (f, rows) → f.length ≤ m2 → rowsF m2 step bs start n = some (f, rows)
  | 0, f, rows, h, _ => h
  | n + 1, f, rows, h, hl => by
    simp only [rowsF] at h ⊢
    cases hp : rowsF most step bs start n with
    | none => rw [hp] at h; cases h
    | some p =>
      obtain ⟨g1, g2, -⟩ := rows_inv (P := fun _ => True) hm trivial (fun _ _ _ => trivial) bs n p.1 p.2 hp
      rw [hp] at h
      simp only [Option.bind_some] at h
      cases hx : p.1[n]? with
      | none =>
        rw [hx] at h
        simp only [Option.some.injEq] at h
        subst h
        rw [rows_most hm n f rows hp hl]
        simp only [Option.bind_some]
        rw [hx]
      | some x =>
        rw [hx] at h
        simp only at h
        cases hr : bs.foldl (rowF most step x) (some (p.1, [])) with
        | none => rw [hr] at h; cases h
        | some r =>
          rw [hr] at h
          simp only [Option.map_some, Option.some.injEq, Prod.mk.injEq] at h
          obtain ⟨rfl, rfl⟩ := h
          have k3 := (row_pre bs p.1 r.1 [] r.2 hr g1 g2).2.2.1
          rw [rows_most hm n p.1 p.2 hp (Nat.le_trans k3.length_le hl)]
          simp only [Option.bind_some]
          rw [hx]
          simp only
          rw [row_most bs p.1 r.1 [] r.2 hr g1 g2 hl]
          rfl
theorem detF_most {m2 : Nat} (hm : 1 ≤ most) {bs : List Nat} {F : List K} {rows : List (List Nat)} (h : detF most step bs start = some (F, rows)) (hl : F.length ≤ m2) : detF m2 step bs start = some (F, rows) :=
  rowsF_stop (rows_most hm _ F rows (detF_at hm h) hl) (Nat.le_refl _) m2 hl
theorem detW_most {m2 : Nat} (hm : 1 ≤ most) {F : List K} (h : detW most step start = some F) (hl : F.length ≤ m2) : detW m2 step start = some F := by
  unfold detW at h ⊢
  cases hd : detF most step (List.range 256) start with
  | none => rw [hd] at h; cases h
  | some p =>
    rw [hd] at h
    simp only [Option.map_some, Option.some.injEq] at h
    subst h
    rw [detF_most hm (rows := p.2) hd hl]
    rfl
theorem detW_len (hm : 1 ≤ most) {F : List K} (h : detW most step start = some F) : 1 ≤ F.length ∧ F.length ≤ most ∧ F.Nodup ∧ F[0]? = some start := by
  unfold detW at h
  cases hd : detF most step (List.range 256) start with
  | none => rw [hd] at h; cases h
  | some p =>
    rw [hd] at h
    simp only [Option.map_some, Option.some.injEq] at h
    subst h
    obtain ⟨g1, g2, g3, -⟩ := rows_inv (P := fun _ => True) hm trivial (fun _ _ _ => trivial) (List.range 256) most p.1 p.2 hd
    exact ⟨(List.getElem?_eq_some_iff.1 g3).1, g1, g2, g3⟩
theorem detW_few {m2 : Nat} (hm : 1 ≤ most) (hm2 : 1 ≤ m2) {F : List K} (h : detW most step start = some F) (hl : m2 < F.length) : detW m2 step start = none := by
  cases h2 : detW m2 step start with
  | none => rfl
  | some F' =>
    have l1 := (detW_len hm h).2.1
    have l2 := (detW_len hm2 h2).2.1
    rw [detW_most hm2 h2 (by omega)] at h
    injection h with h
    subst h
    omega
end
/-! ### atoms as a table's cells -/
theorem Apart_.sym {x y : BitVec 256} (h : Apart_ x y) : Apart_ y x := fun c hc => by
  cases hx : x.getLsbD c with
  | false => rfl
  | true => rw [h c hx] at hc; cases hc
theorem apart_ne {l : List (BitVec 256)} (h : l.Pairwise Apart_) {x y : BitVec 256} (hx : x ∈ l) (hy : y ∈ l) (hne : x ≠ y) : Apart_ x y := by
  obtain ⟨i, hi, rfl⟩ := List.getElem_of_mem hx
  obtain ⟨j, hj, rfl⟩ := List.getElem_of_mem hy
  rcases Nat.lt_trichotomy i j with hlt | rfl | hlt
  · exact List.pairwise_iff_getElem.1 h i j hi hj hlt
  · exact absurd rfl hne
  · exact (List.pairwise_iff_getElem.1 h j i hj hi hlt).sym
theorem atoms_mem {sets : List (BitVec 256)} {x : BitVec 256} : x ∈ atomsM sets ↔ x ∈ blocksM sets := by
  unfold atomsM
  rw [List.mem_flatMap]
  constructor
  · rintro ⟨b, -, hx⟩
    exact (List.mem_filter.1 hx).1
  · exact fun h => ⟨(nextM x 0).1, List.mem_range.2 (nextM_lt x 0), List.mem_filter.2 ⟨h, by simp⟩⟩
theorem atoms_apart (sets : List (BitVec 256)) : (atomsM sets).Pairwise Apart_ := by
  have hb := blocks_apart sets
  unfold atomsM
  rw [List.pairwise_flatMap]
  refine ⟨fun b _ => hb.filter _, List.pairwise_lt_range.imp fun {b c} hbc x hx y hy => ?_⟩
  obtain ⟨h1, h2⟩ := List.mem_filter.1 hx
  obtain ⟨h3, h4⟩ := List.mem_filter.1 hy
  refine apart_ne hb h1 h3 fun e => ?_
  subst e
  have e1 : (nextM x 0).1 = b := by simpa using h2
  have e2 : (nextM x 0).1 = c := by simpa using h4
  omega
theorem atoms_cnt (sets : List (BitVec 256)) {b : Nat} (hb : b < 256) : cnt (atomsM sets) b = 1 := by
  unfold cnt
  obtain ⟨x, hx, hxb⟩ := (part_ok sets).all b hb
  obtain ⟨y, hy⟩ := one_of (l := (atomsM sets).filter fun x => x.getLsbD b) (b := b) ((atoms_apart sets).filter _) (fun z hz => (List.mem_filter.1 hz).2) (List.ne_nil_of_mem (List.mem_filter.2 ⟨atoms_mem.2 hx, hxb⟩))
  rw [hy]
  rfl
/-! ### both sides -/
def HasL (a : NfM) (l : List Int) : Prop := ∀ q ∈ l, a.has q = true
/-- The sets hold all that ways take. -/
def Takes (a : NfM) (sets : List (BitVec 256)) : Prop := ∀ e ∈ a.edges, e.sil = false → okE a e = true → e.set ∈ sets
theorem takes_A (a : NfM) : Takes a (setsA a) := fun e he hs hk => by
  unfold okE at hk
  rw [Bool.and_eq_true] at hk
  obtain ⟨row, h1, -, h3⟩ := takT_row hk.1
  exact List.mem_flatMap.2 ⟨row, List.mem_of_getElem? h1, List.mem_map.2 ⟨e, (h3 e).2 ⟨he, hs, rfl, hk.2⟩, rfl⟩⟩
theorem takes_D (a : NfM) : Takes a (setsD a) := fun e he hs _ => List.mem_map.2 ⟨e, List.mem_filter.2 ⟨he, by rw [hs]; rfl⟩, rfl⟩
theorem step_sep {a : NfM} {sets : List (BitVec 256)} (ht : Takes a sets) {g b : Nat} (hs : sigEq sets g b = true) {l : List Int} (hl : HasL a l) : stepA a l g = stepA a l b := by
  have key : ∀ g b : Nat, sigEq sets g b = true → ∀ q, hopS a (· ∈ l) g q → hopS a (· ∈ l) b q := fun g b hs q ⟨e, h1, h2, h3, h4, h5, h6⟩ =>
    ⟨e, h1, h2, by rw [← sigEq_iff.1 hs e.set (ht e h1 h2 (by unfold okE; rw [hl _ h4, h5]; rfl))]; exact h3, h4, h5, h6⟩
  have hs' : sigEq sets b g = true := sigEq_iff.2 fun c hc => (sigEq_iff.1 hs c hc).symm
  unfold stepA goS
  have e : hopS a (· ∈ l) g = hopS a (· ∈ l) b := funext fun q => propext ⟨key g b hs q, key b g hs' q⟩
  rw [e]
theorem covP_of {a : NfM} {sets : List (BitVec 256)} (ht : Takes a sets) : CovP (HasL a) (stepA a) (leastB sets) := fun b hb hp => by
  obtain ⟨g, g1, g2, g3⟩ := exists_least (cells := sets) (b := b) b (sigEq_refl sets b)
  have hne : g ≠ b := fun e => by rw [e, hp] at g3; cases g3
  exact ⟨g, by omega, g3, fun x hx => step_sep ht (sigEq_iff.2 fun c hc => (sigEq_iff.1 g2 c hc).symm) hx⟩
noncomputable abbrev begL (a : NfM) : List Int := lstS (begS a)
theorem begL_has (a : NfM) : HasL a (begL a) := fun q hq => begS_has a q ((lstS_mem (has_rng (begS_has a)) q).1 hq)
theorem stepL_has {a : NfM} (l : List Int) (b : Nat) (_ : HasL a l) : HasL a (stepA a l b) := stepA_rng
noncomputable def detN (a : NfM) (most : Nat) : Option (List (List Int)) := detW most (stepA a) (begL a)
theorem detA (a : NfM) {most : Nat} (hm : 1 ≤ most) : (detF most (stepA a) (repsM (setsA a)) (begL a)).map Prod.fst = detN a most := by
  rw [repsM_filter]
  exact detW_of (covP_of (takes_A a)) hm (begL_has a) stepL_has
theorem detD_ (a : NfM) {most : Nat} (hm : 1 ≤ most) : (detF most (stepA a) (repD a) (begL a)).map Prod.fst = detN a most := by
  unfold repD
  rw [atRun_filter]
  exact detW_of (covP_of (takes_D a)) hm (begL_has a) stepL_has
/-- Steps lead from set to set. -/
structure Leads5 (a : NfM) (F : List (List Int)) (st : Int → Nat → Int) (fi : Int → Bool) : Prop where
  st : ∀ (q b : Nat) (x : List Int), F[q]? = some x → b < 256 → ∃ t : Nat, st (q : Int) b = (t : Int) ∧ F[t]? = some (stepA a x b)
  fi : ∀ (q : Nat) (x : List Int), F[q]? = some x → fi (q : Int) = decide (a.fin ∈ x)
theorem det_rowsOk {a : NfM} {most : Nat} {bs : List Nat} {F : List (List Int)} {rows : List (List Nat)} (hm : 1 ≤ most) (h : detF most (stepA a) bs (begL a) = some (F, rows)) : RowsOk most (stepA a) bs (begL a) F.length F rows ∧ ∀ x ∈ F, HasL a x := by
  obtain ⟨-, -, -, g4⟩ := rows_inv (P := HasL a) hm (begL_has a) stepL_has bs most F rows h
  exact ⟨rowsF_ok hm F.length F rows (detF_at hm h) fun j hj => hj, g4⟩
theorem row_lt {a : NfM} {most : Nat} {bs : List Nat} {F : List (List Int)} {rows : List (List Nat)} (hk : RowsOk most (stepA a) bs (begL a) F.length F rows) {q : Nat} {row : List Nat} (hr : rows[q]? = some row) : row.length = bs.length ∧ ∀ t ∈ row, t < F.length := by
  have hcl := hk.cols row (List.mem_of_getElem? hr)
  refine ⟨hcl, fun t ht => ?_⟩
  obtain ⟨k, hkt⟩ := List.getElem?_of_mem ht
  have hkl := (List.getElem?_eq_some_iff.1 hkt).1
  obtain ⟨b, hb⟩ := get_some (l := bs) (k := k) (by omega)
  have hql := (List.getElem?_eq_some_iff.1 hr).1
  rw [hk.rl] at hql
  obtain ⟨x, hx⟩ := get_some (l := F) (k := q) hql
  exact (List.getElem?_eq_some_iff.1 (hk.ok q k row b t x hr hb hkt hx)).1
/-- The program's automaton. -/
theorem autoA {a : NfM} {most : Nat} {F : List (List Int)} {rows : List (List Nat)} (hm : 1 ≤ most) (hm2 : most ≤ 65536) (h : detF most (stepA a) (repsM (setsA a)) (begL a) = some (F, rows)) :
    soundB (atomsM (setsA a)) (rows.map rowI) F.length = true ∧ Leads5 a F (stepM (some (madeM (atomsM (setsA a)) (rows.map rowI) (F.map fun l => decide (a.fin ∈ l))))) (finM (some (madeM (atomsM (setsA a)) (rows.map rowI) (F.map fun l => decide (a.fin ∈ l))))) ∧ stN (some (madeM (atomsM (setsA a)) (rows.map rowI) (F.map fun l => decide (a.fin ∈ l)))) = F.length := by
  obtain ⟨hk, hP⟩ := det_rowsOk hm h
  have h0 := (List.getElem?_eq_some_iff.1 hk.zero).1
  have hlen := hk.len
  have hrl : (rows.map rowI).length = F.length := by rw [List.length_map, hk.rl]
  have hbl : (repsM (setsA a)).length = (atomsM (setsA a)).length := List.length_map _
  have hs : soundB (atomsM (setsA a)) (rows.map rowI) F.length = true := by
    rw [soundB_iff]
    refine ⟨⟨by omega, by omega, hrl⟩, fun b hb => atoms_cnt _ hb, fun r hr => ?_⟩
    obtain ⟨row, hrow, rfl⟩ := List.mem_map.1 hr
    obtain ⟨q, hq⟩ := List.getElem?_of_mem hrow
    obtain ⟨h1, h2⟩ := row_lt hk hq
    unfold rowOk
    rw [Bool.and_eq_true, beq_iff_eq, List.all_eq_true]
    refine ⟨by unfold rowI; rw [List.length_map, h1, hbl], fun t ht => ?_⟩
    obtain ⟨u, hu, rfl⟩ := List.mem_map.1 ht
    have := h2 u hu
    simp only [Bool.and_eq_true, decide_eq_true_eq]
    omega
  have hfl : (F.map fun l => decide (a.fin ∈ l)).length = F.length := List.length_map _
  refine ⟨hs, ⟨fun q b x hx hb => ?_, fun q x hx => ?_⟩, by simp only [stN, madeM, List.length_map]; exact hk.rl⟩
  · obtain ⟨row, hrow⟩ := get_some (l := rows) (k := q) (by rw [hk.rl]; exact (List.getElem?_eq_some_iff.1 hx).1)
    obtain ⟨h1, h2⟩ := row_lt hk hrow
    obtain ⟨c1, c2⟩ := soundB_cells hs hb
    obtain ⟨c, hc⟩ := get_some c1
    have hcb := c2 c hc
    obtain ⟨t, ht⟩ := get_some (l := row) (k := cellOf (atomsM (setsA a)) b) (by omega)
    have hbs : (repsM (setsA a))[cellOf (atomsM (setsA a)) b]? = some (nextM c 0).1 := by unfold repsM; rw [List.getElem?_map, hc]; rfl
    have hok := hk.ok q _ row _ t x hrow hbs ht hx
    have hcm := atoms_mem.1 (List.mem_of_getElem? hc)
    have hp := part_ok (setsA a)
    have hsg : sigEq (setsA a) (nextM c 0).1 b = true := sigEq_iff.2 fun s hs => hp.same c hcm _ _ (least_of (hp.ne c hcm)).1 hcb s hs
    refine ⟨t, ?_, by rw [hok, step_sep (takes_A a) hsg (hP x (List.mem_of_getElem? hx))]⟩
    rw [madeM_step (row := rowI row) (by rw [hfl]; exact hs) (by rw [List.getElem?_map, hrow]; rfl) hb]
    unfold rowI
    rw [List.getD_eq_getElem?_getD, List.getElem?_map, ht]
    rfl
  · simp [finM, madeM, hx]
/-- The document's. -/
theorem autoD {a : NfM} {most : Nat} {F : List (List Int)} {rows : List (List Nat)} (hm : 1 ≤ most) (hm2 : most ≤ 65536) (h : detF most (stepA a) (repD a) (begL a) = some (F, rows)) {D : DM} (hD : D = ⟨asI (atRun (setsD a) 256).2, asI (repD a), rows.map rowI, F.map fun l => decide (a.fin ∈ l)⟩) :
    D.Ok ∧ Leads5 a F (stepD D) (finD D) ∧ D.next.length = F.length := by
  subst hD
  obtain ⟨hk, hP⟩ := det_rowsOk hm h
  have h0 := (List.getElem?_eq_some_iff.1 hk.zero).1
  have hlen := hk.len
  have hat := atRun_ok (setsD a) 256
  have hrl : (rows.map rowI).length = F.length := by rw [List.length_map, hk.rl]
  refine ⟨⟨by simp only; omega, by simp only; omega, by simp only [List.length_map]; exact hk.rl.symm, by simp only; rw [asI_len, hat.plen], fun r hr => ?_⟩, ⟨fun q b x hx hb => ?_, fun q x hx => ?_⟩, hrl⟩
  · simp only at hr ⊢
    obtain ⟨row, hrow, rfl⟩ := List.mem_map.1 hr
    obtain ⟨q, hq⟩ := List.getElem?_of_mem hrow
    obtain ⟨h1, h2⟩ := row_lt hk hq
    have hfl : (repD a).length ≤ 256 := hat.flen
    have hil : (rowI row).length = row.length := by unfold rowI; rw [List.length_map]
    refine ⟨by omega, fun c hc => ?_, fun t ht => ?_⟩
    · obtain ⟨u, hu, rfl⟩ := List.mem_map.1 hc
      have : u < (repD a).length := hat.lt u hu
      omega
    · obtain ⟨u, hu, rfl⟩ := List.mem_map.1 ht
      have := h2 u hu
      omega
  · obtain ⟨row, hrow⟩ := get_some (l := rows) (k := q) (by rw [hk.rl]; exact (List.getElem?_eq_some_iff.1 hx).1)
    obtain ⟨h1, h2⟩ := row_lt hk hrow
    obtain ⟨p, hp⟩ := get_some (l := (atRun (setsD a) 256).2) (k := b) (by rw [hat.plen]; exact hb)
    have hpl : p < (repD a).length := hat.lt p (List.mem_of_getElem? hp)
    obtain ⟨g, hg⟩ := get_some hpl
    obtain ⟨t, ht⟩ := get_some (l := row) (k := p) (by omega)
    have hok := hk.ok q p row g t x hrow hg ht hx
    have hsg : sigEq (setsD a) g b = true := sigEq_iff.2 fun s hs => (sigEq_iff.1 (hat.sig b p g hp hg).1 s hs).symm
    refine ⟨t, ?_, by rw [hok, step_sep (takes_D a) hsg (hP x (List.mem_of_getElem? hx))]⟩
    exact stepD_at (row := rowI row) (c := p) (by simp only; rw [List.getElem?_map, hrow]; rfl) (asI_get hp) (by unfold rowI; rw [List.getElem?_map, ht]; rfl)
  · simp [finD, hx]
theorem leads_uniq {a : NfM} {F : List (List Int)} (hn : F.Nodup) {s1 s2 : Int → Nat → Int} {f1 f2 : Int → Bool} (h1 : Leads5 a F s1 f1) (h2 : Leads5 a F s2 f2) : ∀ (q b : Nat), q < F.length → b < 256 → s1 (q : Int) b = s2 (q : Int) b := fun q b hq hb => by
  obtain ⟨x, hx⟩ := get_some hq
  obtain ⟨t, e1, k1⟩ := h1.st q b x hx hb
  obtain ⟨u, e2, k2⟩ := h2.st q b x hx hb
  have : t = u := by
    obtain ⟨ht, e3⟩ := List.getElem?_eq_some_iff.1 k1
    obtain ⟨hu, e4⟩ := List.getElem?_eq_some_iff.1 k2
    rcases Nat.lt_trichotomy t u with h | h | h
    · exact absurd (e3.trans e4.symm) (List.pairwise_iff_getElem.1 hn t u ht hu h)
    · exact h
    · exact absurd (e4.trans e3.symm) (List.pairwise_iff_getElem.1 hn u t hu ht h)
  rw [e1, e2, this]
theorem leads_fin {a : NfM} {F : List (List Int)} {s1 s2 : Int → Nat → Int} {f1 f2 : Int → Bool} (h1 : Leads5 a F s1 f1) (h2 : Leads5 a F s2 f2) : ∀ (q : Nat), q < F.length → f1 (q : Int) = f2 (q : Int) := fun q hq => by
  obtain ⟨x, hx⟩ := get_some hq
  rw [h1.fi q x hx, h2.fi q x hx]
end Go.Proofs.YthomdogheamfpaaDoor
/- dfa.Determinize with a budget that may not be: the walk. -/
set_option linter.unusedVariables false
set_option linter.unusedSimpArgs false
set_option maxRecDepth 100000
namespace Go.Proofs.YthomdogheamfpaaDoor
open Go.VC
theorem determinizeBad_p {S : Nat → Prop} {H : Heap} {v : Value} {a : NfM} {b : Int} (h : NfV S H v a) (hb : b < 1 ∨ 4096 < b) :
    Pure Tryd.prog 32 #[v, .int .i64 b] H (.tuple #[.pointer none, .int .i64 2]) := by
  refine FnOk.of_vc Tryd.func32 rfl (Tryd.call32 _) ?_
  (conv => whnf); refine nf_box h fun ea ec he0 h1 => ?_
  subst he0
  intro p H1 hp hs1 hb1 ha1
  have st1 := (St.nil H).box hp hs1 hb1 ha1
  by_cases hl : b < 1
  · have d1 : decide (b < (1 : Int)) = true := decide_eq_true hl
    (conv => whnf); rw [d1]
    (conv => whnf)
    exact ⟨rfl, st1.old⟩
  · have d1 : decide (b < (1 : Int)) = false := decide_eq_false hl
    have d2 : decide ((4096 : Int) < b) = true := decide_eq_true (by omega)
    (conv => whnf); rw [d1]
    (conv => whnf); rw [d2]
    (conv => whnf)
    exact ⟨rfl, st1.old⟩
end Go.Proofs.YthomdogheamfpaaDoor
/- Law 5: nets as automata: the walks of machine and doc. -/
set_option linter.unusedVariables false
set_option linter.unusedSimpArgs false
set_option maxRecDepth 100000
namespace Go.Proofs.YthomdogheamfpaaDoor
open Go.VC
theorem way_z : (Tryd.prog.info? 72).bind (·.zero) = some (.agg #[.int .i64 0, .int .i64 0, .bool false, .int .u64 0, .int .u64 0, .int .u64 0, .int .u64 0]) := rfl
set_option maxHeartbeats 4000000 in
theorem machine05_c {S : Nat → Prop} {H : Heap} {v : Value} {a : NfM} (hS : ∀ k, S k → k < H.size) (h : NfV S H v a) :
    FnOk Tryd.prog 31 #[v] H fun v' H' => Agr (Old H) H H' ∧ ∃ ea ec, v' = .agg (nfL a (.slice ea a.edges.length ec)).toArray ∧ SlO tEd none_ H' H.size 75 (.slice ea a.edges.length ec) a.edges := by
  have hl := h.2.1
  refine FnOk.of_vc Tryd.func31 rfl (Tryd.call31 _) ?_
  (conv => whnf); refine nf_box h fun ea ec he h1 => ?_
  subst he
  intro p H1 hp hs1 hb1 ha1
  have st1 := (St.nil H).box hp hs1 hb1 ha1
  (conv => whnf); refine valloc _ [.int .i64 0, .int .i64 0, .int .i64 0, .slice none 0 0] nfa_z rfl ?_
  intro r H2 hr hs2 hb2 ha2
  have st2 := st1.box hr hs2 hb2 ha2
  (conv => whnf); refine fa fl55_0 ?_
  (conv => whnf); refine ld1 (v := .int .i64 a.st) ct3 (by rw [(st2.blk 0 rfl).cell]; rfl) trivial ?_
  (conv => whnf); refine fa fl55_1 ?_
  (conv => whnf); refine ld1 (v := .int .i64 a.start) ct3 (by rw [(st2.blk 0 rfl).cell]; rfl) trivial ?_
  (conv => whnf); refine fa fl55_2 ?_
  (conv => whnf); refine ld1 (v := .int .i64 a.fin) ct3 (by rw [(st2.blk 0 rfl).cell]; rfl) trivial ?_
  (conv => whnf); refine vbuildS Tryd.underlying58 rfl _ nfa_z (nfL a (.slice none 0 0)) rfl ?_
  (conv => whnf); refine valloc _ [.int .i64 0, .int .i64 0, .int .i64 0, .slice none 0 0] nfa_z rfl ?_
  intro q H3 hq hs3 hb3 ha3
  have st3 := st2.box hq hs3 hb3 ha3
  (conv => whnf); refine stNB (cs := nfL a (.slice none 0 0)) st3 2 rfl rfl (Nat.le_refl _) rfl fun H4 st4 => ?_
  rw [splice_all (show (nfL a (.slice none 0 0)).length = 4 from rfl)] at st4
  have st5 := st4.nils tEd 75
  (conv => whnf)
  refine VLoop.mk [4] (fun i : Nat => [.int .i64 (i : Int)]) (fun i H5 => i ≤ a.edges.length ∧ ∃ a' c', St H H5 [pB 55 p (nfL a (.slice ea a.edges.length ec)), pB 58 r [.int .i64 0, .int .i64 0, .int .i64 0, .slice none 0 0], pB 58 q (nfL a (.slice a' i c')), pS tEd 75 a' i c' (a.edges.take i)]) (fun i _ => a.edges.length - i) ?_ ?_
  · (conv => whnf)
    exact ⟨0, rfl, Nat.zero_le _, none, 0, st5⟩
  · rintro i H5 junk ⟨hi, a', c', st⟩
    (conv => whnf); refine fa fl55_3 ?_
    (conv => whnf); refine ld1 (v := .slice ea a.edges.length ec) ct53 (by rw [(st.blk 0 rfl).cell]; rfl) trivial ?_
    (conv => whnf); refine VIte.mk (fun hz => ?_) (fun hz => ?_) <;> simp only [decide_eq_true_eq, decide_eq_false_iff_not] at hz
    · obtain ⟨e, he⟩ := get_some (l := a.edges) (k := i) (by omega)
      (conv => whnf); refine fa fl55_3 ?_
      (conv => whnf); refine ld1 (v := .slice ea a.edges.length ec) ct53 (by rw [(st.blk 0 rfl).cell]; rfl) trivial ?_
      (conv => whnf); refine ixr (i := i) sl53 (h1.frame (st.old.mono hS)) he rfl ?_
      rintro b6 o6 c6 hS6 hc6 ⟨rfl, hok⟩
      (conv => whnf); refine ldN (cs := edL e) ag72 hc6 trivial ?_
      (conv => whnf); refine valloc _ [.int .i64 0, .int .i64 0, .bool false, .int .u64 0, .int .u64 0, .int .u64 0, .int .u64 0] way_z rfl ?_
      intro x H6 hx hs6 hb6 ha6
      have st6 := st.box hx hs6 hb6 ha6
      (conv => whnf); refine stNB (cs := edL e) st6 4 rfl rfl (Nat.le_refl _) rfl fun H7 st7 => ?_
      rw [splice_all (show (edL e).length = 7 from rfl)] at st7
      have hbx := st7.blk 4 rfl
      (conv => whnf); refine fa fl58_3 ?_
      (conv => whnf); refine ld1 (v := .slice a' i c') ct56 (by rw [(st7.blk 2 rfl).cell]; rfl) trivial ?_
      (conv => whnf); refine fa fl72_0 ?_
      (conv => whnf); refine ld1 (v := .int .i64 e.fr) ct3 (by rw [hbx.cell]; rfl) trivial ?_
      (conv => whnf); refine fa fl72_1 ?_
      (conv => whnf); refine ld1 (v := .int .i64 e.to) ct3 (by rw [hbx.cell]; rfl) trivial ?_
      (conv => whnf); refine fa fl72_2 ?_
      (conv => whnf); refine ld1 (v := .bool e.sil) ct4 (by rw [hbx.cell]; rfl) trivial ?_
      (conv => whnf); refine fa fl72_3 ?_
      (conv => whnf); refine ldN (cs := setL e.set) ag70 (hbx.cells fun j v hv => edL_set e j v hv) trivial ?_
      (conv => whnf); refine edge_build e ?_
      (conv => whnf); refine vbuild1 sl56 (edL e) rfl rfl (by decide) (by decide) ?_
      intro y H8 hy hs8 hb8 ha8
      have st8 := st7.skip hy ha8
      have htl : (a.edges.take i).length = i := by rw [List.length_take]; omega
      (conv => whnf); refine appO (ys := [e]) st8 3 sl56 rfl (hb8.cells (o := 0) (cs := edL e) fun j v hv => by rw [Nat.zero_add]; exact hv) (Ty.reps_one ⟨rfl, hok⟩) rfl (fun u hu => List.all_eq_true.1 (ed_ones e) u hu) (by rw [htl]; simp; omega) (by decide) fun a9 c9 H9 st9 _ => ?_
      rw [htl] at st9 ⊢
      (conv => whnf); refine fa fl58_3 ?_
      (conv => whnf); refine st1B st9 2 ct56 rfl (show 3 < 4 by decide) rfl fun H10 st10 => ?_
      (conv => whnf); rw [w64 (x := (i : Int) + 1) (by omega) (by omega)]
      have ht : a.edges.take i ++ [e] = a.edges.take (i + 1) := (take_succ_snoc he).symm
      rw [ht] at st10
      exact ⟨rfl, i + 1, by simp, ⟨by omega, a9, c9, st10.pick [0, 1, 2, 3] (by decide)⟩, by omega⟩
    · obtain rfl : i = a.edges.length := by omega
      rw [List.take_length] at st
      (conv => whnf); refine ldN (cs := nfL a (.slice a' a.edges.length c')) ag58 ((st.blk 2 rfl).cells fun j v hv => by rw [Nat.zero_add]; exact hv) trivial ?_
      (conv => whnf); refine stNB (cs := nfL a (.slice a' a.edges.length c')) st 1 rfl rfl (Nat.le_refl _) rfl fun H7 st7 => ?_
      rw [splice_all (show (nfL a (.slice a' a.edges.length c')).length = 4 from rfl)] at st7
      (conv => whnf); refine ldN (cs := nfL a (.slice a' a.edges.length c')) ag58 ((st7.blk 1 rfl).cells fun j v hv => by rw [Nat.zero_add]; exact hv) trivial ?_
      exact ⟨st7.old, a', c', rfl, St.own st7 3 rfl⟩
set_option maxHeartbeats 4000000 in
theorem doc05_c {S : Nat → Prop} {H : Heap} {v : Value} {a : NfM} (hS : ∀ k, S k → k < H.size) (h : NfV S H v a) :
    FnOk Tryd.prog 34 #[v] H fun v' H' => Agr (Old H) H H' ∧ ∃ ea ec, v' = .agg (nfL a (.slice ea a.edges.length ec)).toArray ∧ SlO tEdD none_ H' H.size 143 (.slice ea a.edges.length ec) a.edges := by
  have hl := h.2.1
  refine FnOk.of_vc Tryd.func34 rfl (Tryd.call34 _) ?_
  (conv => whnf); refine nf_box h fun ea ec he h1 => ?_
  subst he
  intro p H1 hp hs1 hb1 ha1
  have st1 := (St.nil H).box hp hs1 hb1 ha1
  (conv => whnf); refine valloc _ [.int .i64 0, .int .i64 0, .int .i64 0, .slice none 0 0] nfd_z rfl ?_
  intro r H2 hr hs2 hb2 ha2
  have st2 := st1.box hr hs2 hb2 ha2
  (conv => whnf); refine fa fl55_0 ?_
  (conv => whnf); refine ld1 (v := .int .i64 a.st) ct3 (by rw [(st2.blk 0 rfl).cell]; rfl) trivial ?_
  (conv => whnf); refine fa fl55_1 ?_
  (conv => whnf); refine ld1 (v := .int .i64 a.start) ct3 (by rw [(st2.blk 0 rfl).cell]; rfl) trivial ?_
  (conv => whnf); refine fa fl55_2 ?_
  (conv => whnf); refine ld1 (v := .int .i64 a.fin) ct3 (by rw [(st2.blk 0 rfl).cell]; rfl) trivial ?_
  (conv => whnf); refine vbuildS Tryd.underlying67 rfl _ nfd_z (nfL a (.slice none 0 0)) rfl ?_
  (conv => whnf); refine valloc _ [.int .i64 0, .int .i64 0, .int .i64 0, .slice none 0 0] nfd_z rfl ?_
  intro q H3 hq hs3 hb3 ha3
  have st3 := st2.box hq hs3 hb3 ha3
  (conv => whnf); refine stNB (cs := nfL a (.slice none 0 0)) st3 2 rfl rfl (Nat.le_refl _) rfl fun H4 st4 => ?_
  rw [splice_all (show (nfL a (.slice none 0 0)).length = 4 from rfl)] at st4
  have st5 := st4.nils tEdD 143
  (conv => whnf)
  refine VLoop.mk [4] (fun i : Nat => [.int .i64 (i : Int)]) (fun i H5 => i ≤ a.edges.length ∧ ∃ a' c', St H H5 [pB 55 p (nfL a (.slice ea a.edges.length ec)), pB 67 r [.int .i64 0, .int .i64 0, .int .i64 0, .slice none 0 0], pB 67 q (nfL a (.slice a' i c')), pS tEdD 143 a' i c' (a.edges.take i)]) (fun i _ => a.edges.length - i) ?_ ?_
  · (conv => whnf)
    exact ⟨0, rfl, Nat.zero_le _, none, 0, st5⟩
  · rintro i H5 junk ⟨hi, a', c', st⟩
    (conv => whnf); refine fa fl55_3 ?_
    (conv => whnf); refine ld1 (v := .slice ea a.edges.length ec) ct53 (by rw [(st.blk 0 rfl).cell]; rfl) trivial ?_
    (conv => whnf); refine VIte.mk (fun hz => ?_) (fun hz => ?_) <;> simp only [decide_eq_true_eq, decide_eq_false_iff_not] at hz
    · obtain ⟨e, he⟩ := get_some (l := a.edges) (k := i) (by omega)
      (conv => whnf); refine fa fl55_3 ?_
      (conv => whnf); refine ld1 (v := .slice ea a.edges.length ec) ct53 (by rw [(st.blk 0 rfl).cell]; rfl) trivial ?_
      (conv => whnf); refine ixr (i := i) sl53 (h1.frame (st.old.mono hS)) he rfl ?_
      rintro b6 o6 c6 hS6 hc6 ⟨rfl, hok⟩
      (conv => whnf); refine ldN (cs := edL e) ag72 hc6 trivial ?_
      (conv => whnf); refine valloc _ [.int .i64 0, .int .i64 0, .bool false, .int .u64 0, .int .u64 0, .int .u64 0, .int .u64 0] way_z rfl ?_
      intro x H6 hx hs6 hb6 ha6
      have st6 := st.box hx hs6 hb6 ha6
      (conv => whnf); refine stNB (cs := edL e) st6 4 rfl rfl (Nat.le_refl _) rfl fun H7 st7 => ?_
      rw [splice_all (show (edL e).length = 7 from rfl)] at st7
      have hbx := st7.blk 4 rfl
      have htl : (a.edges.take i).length = i := by rw [List.length_take]; omega
      (conv => whnf); refine VDraw.heldZ (Old H7) [13, 14, 15] (sq [0,1,2,3,4,5,6,7,8,9] (.f 10 (sq [11] (.f 12 (.f 13 (.f 14 (.f 15 .e))))))) rfl (by kernel_rfl) ?_
      (conv => whnf); refine fa fl67_3 ?_
      (conv => whnf); refine ld1 (v := .slice a' i c') ct65 (by rw [(st7.blk 2 rfl).cell]; rfl) (st7.in_ 2 rfl rfl).2 ?_
      (conv => whnf); refine fa fl72_0 ?_
      (conv => whnf); refine ld1 (v := .int .i64 e.fr) ct3 (by rw [hbx.cell]; rfl) (st7.in_ 4 rfl rfl).2 ?_
      (conv => whnf); refine fa fl72_1 ?_
      (conv => whnf); refine ld1 (v := .int .i64 e.to) ct3 (by rw [hbx.cell]; rfl) (st7.in_ 4 rfl rfl).2 ?_
      (conv => whnf); refine fa fl72_2 ?_
      (conv => whnf); refine ld1 (v := .bool e.sil) ct4 (by rw [hbx.cell]; rfl) (st7.in_ 4 rfl rfl).2 ?_
      (conv => whnf); refine fa fl72_3 ?_
      (conv => whnf); refine ldN (cs := setL e.set) ag70 (hbx.cells fun j v hv => edL_set e j v hv) (st7.in_ 4 rfl rfl).2 ?_
      (conv => whnf); refine pures (from_p e.set H7) fun H8 ha8 => ?_
      have st8 := st7.call ha8
      refine ⟨ha8, ?_⟩
      (conv => whnf); refine edgeD_build e ?_
      (conv => whnf); refine vbuild1 sl65 (edDL e) rfl (edDL_len e) (by decide) (by decide) ?_
      intro y H9 hy hs9 hb9 ha9
      have st9 := st8.skip hy ha9
      refine ⟨ha8.trans (ha9.mono fun k hk => by have := old_lt ha8 hk; omega), ?_⟩
      (conv => whnf); refine appO (ys := [e]) st9 3 sl65 rfl (hb9.cells (o := 0) (cs := edDL e) fun j v hv => by rw [Nat.zero_add]; exact hv) (Ty.reps_one ⟨rfl, hok⟩) rfl (fun u hu => List.all_eq_true.1 (edD_ones e) u hu) (by rw [htl]; simp; omega) (by decide) fun a9 c9 H10 st10 _ => ?_
      rw [htl] at st10 ⊢
      (conv => whnf); refine fa fl67_3 ?_
      (conv => whnf); refine st1B st10 2 ct65 rfl (show 3 < 4 by decide) rfl fun H11 st10 => ?_
      (conv => whnf); rw [w64 (x := (i : Int) + 1) (by omega) (by omega)]
      have ht : a.edges.take i ++ [e] = a.edges.take (i + 1) := (take_succ_snoc he).symm
      rw [ht] at st10
      exact ⟨rfl, i + 1, by simp, ⟨by omega, a9, c9, st10.pick [0, 1, 2, 3] (by decide)⟩, by omega⟩
    · obtain rfl : i = a.edges.length := by omega
      rw [List.take_length] at st
      (conv => whnf); refine ldN (cs := nfL a (.slice a' a.edges.length c')) ag67 ((st.blk 2 rfl).cells fun j v hv => by rw [Nat.zero_add]; exact hv) trivial ?_
      (conv => whnf); refine stNB (cs := nfL a (.slice a' a.edges.length c')) st 1 rfl rfl (Nat.le_refl _) rfl fun H7 st7 => ?_
      rw [splice_all (show (nfL a (.slice a' a.edges.length c')).length = 4 from rfl)] at st7
      (conv => whnf); refine ldN (cs := nfL a (.slice a' a.edges.length c')) ag67 ((st7.blk 1 rfl).cells fun j v hv => by rw [Nat.zero_add]; exact hv) trivial ?_
      exact ⟨st7.old, a', c', rfl, St.own st7 3 rfl⟩
end Go.Proofs.YthomdogheamfpaaDoor
/- Determinize of the program and of the document, for any budget: what the calls give. -/
set_option linter.unusedVariables false
set_option linter.unusedSimpArgs false
set_option maxRecDepth 100000
namespace Go.Proofs.YthomdogheamfpaaDoor
open Go.VC
attribute [local irreducible] mRun gRun atRun
/-- The error's number, or the sets. -/
noncomputable def detB (a : NfM) (b : Int) : Except Int (List (List Int)) := if b < 1 ∨ 4096 < b then .error 2 else match detN a b.toNat with
  | none => .error 40
  | some F => .ok F
theorem detB_bad {a : NfM} {b : Int} (h : b < 1 ∨ 4096 < b) : detB a b = .error 2 := by unfold detB; rw [if_pos h]
theorem detB_in {a : NfM} {b : Nat} (h1 : 1 ≤ b) (h2 : b ≤ 4096) : detB a (b : Int) = match detN a b with
  | none => .error 40
  | some F => .ok F := by
  unfold detB
  rw [if_neg (by omega), Int.toNat_natCast]
theorem detB_err {a : NfM} {b e : Int} (h : detB a b = .error e) : e ≠ 0 ∧ 0 ≤ e ∧ e ≤ 40 := by
  unfold detB at h
  split at h
  · injection h with h; omega
  · split at h
    · injection h with h; omega
    · cases h
theorem detB_ok {a : NfM} {b : Int} {F : List (List Int)} (h : detB a b = .ok F) : ∃ m : Nat, b = (m : Int) ∧ 1 ≤ m ∧ m ≤ 4096 ∧ detN a m = some F := by
  unfold detB at h
  split at h
  · cases h
  · rename_i hb
    refine ⟨b.toNat, by omega, by omega, by omega, ?_⟩
    split at h
    · cases h
    · rename_i F' hF
      injection h with h
      rw [hF, h]
def ProgOk (a : NfM) (F : List (List Int)) (H H' : Heap) (v : Value) : Prop := ∃ (o : AM), AutoV (fun k => H.size ≤ k ∧ k < H'.size) H' v (some o) ∧ Leads5 a F (stepM (some o)) (finM (some o)) ∧ stN (some o) = F.length
theorem detP_c {S : Nat → Prop} {H : Heap} {v : Value} {a : NfM} {b : Int} (hS : ∀ k, S k → k < H.size) (h : NfV S H v a) (hpow : PowH Tryd.prog H) :
    FnOk Tryd.prog 32 #[v, .int .i64 b] H fun r H' => Agr (Old H) H H' ∧ match detB a b with
      | .error e => r = .tuple #[.pointer none, .int .i64 e]
      | .ok F => ∃ v, r = .tuple #[v, .int .i64 0] ∧ ProgOk a F H H' v := by
  by_cases hb : b < 1 ∨ 4096 < b
  · rw [detB_bad hb]
    exact (determinizeBad_p h hb).mono fun r H' ⟨h1, h2⟩ => ⟨h2, h1⟩
  · obtain ⟨m, rfl⟩ := Int.eq_ofNat_of_zero_le (show 0 ≤ b by omega)
    rw [detB_in (by omega) (by omega)]
    refine (determinize_c hS h hpow (budget := m) (by omega) (by omega)).mono fun r H' ⟨h1, h2⟩ => ⟨h1, ?_⟩
    have hA := detA a (most := m) (by omega)
    cases hd : detF m (stepA a) (repsM (setsA a)) (begL a) with
    | none =>
      rw [hd] at h2 hA
      rw [← hA]
      exact h2
    | some q =>
      obtain ⟨F, rows⟩ := q
      rw [hd] at h2 hA
      rw [← hA]
      obtain ⟨v', rfl, hv⟩ := h2
      obtain ⟨k1, k2, k3⟩ := autoA (by omega) (by omega) hd
      rw [k1, if_pos rfl] at hv
      exact ⟨v', rfl, _, hv, k2, k3⟩
def DocOk (a : NfM) (F : List (List Int)) (H H' : Heap) (v : Value) : Prop := ∃ D : DM, DfaV (Fresh H H') H' v D ∧ D.Ok ∧ Leads5 a F (stepD D) (finD D) ∧ D.next.length = F.length
theorem detQ_c {S : Nat → Prop} {H : Heap} {v : Value} {a : NfM} {b : Int} (hS : ∀ k, S k → k < H.size) (h : NdV S H v a) :
    FnOk Tryd.prog 33 #[v, .int .i64 b] H fun r H' => Agr (Old H) H H' ∧ ∃ l : List Value, l.length = 259 ∧ l.all (·.oneCell') = true ∧ match detB a b with
      | .error e => r = .tuple #[.agg l.toArray, .int .i64 e]
      | .ok F => r = .tuple #[.agg l.toArray, .int .i64 0] ∧ DocOk a F H H' (.agg l.toArray) := by
  by_cases hb : b < 1 ∨ 4096 < b
  · rw [detB_bad hb]
    exact (detBadD_p h hb).mono fun r H' ⟨h1, l, h2, h3, h4⟩ => ⟨h1, l, h3, h4, h2⟩
  · obtain ⟨m, rfl⟩ := Int.eq_ofNat_of_zero_le (show 0 ≤ b by omega)
    rw [detB_in (by omega) (by omega)]
    refine (detD_c hS h (budget := m) (by omega) (by omega)).mono fun r H' ⟨h1, h2⟩ => ⟨h1, ?_⟩
    have hA := detD_ a (most := m) (by omega)
    cases hd : detF m (stepA a) (repD a) (begL a) with
    | none =>
      rw [hd] at h2 hA
      rw [← hA]
      obtain ⟨l, h3, h4, h5⟩ := h2
      exact ⟨l, h4, h5, h3⟩
    | some q =>
      obtain ⟨F, rows⟩ := q
      rw [hd] at h2 hA
      rw [← hA]
      obtain ⟨w, rfl, hv⟩ := h2
      obtain ⟨k1, k2, k3⟩ := autoD (by omega) (by omega) hd rfl
      have hv0 := hv
      obtain ⟨hl, ra, rc, na, nc, fa, fc, rfl, -, -, -⟩ := hv0
      exact ⟨_, dfaL_len hl, dfaL_ones rfl rfl rfl, rfl, _, hv, k1, k2, k3⟩
/-- The two alike. -/
theorem both5 {a : NfM} {F : List (List Int)} (hn : F.Nodup) {o : AM} {D : DM} (h1 : Leads5 a F (stepM (some o)) (finM (some o))) (h2 : Leads5 a F (stepD D) (finD D)) (n1 : stN (some o) = F.length) (n2 : D.next.length = F.length) (hfl : D.final.length = D.next.length) (hof : o.final.length = F.length) :
    (∀ (q : Int) (b : Nat), b < 256 → stepM (some o) q b = stepD D q b) ∧ ∀ q : Int, finM (some o) q = finD D q := by
  constructor
  · intro q b hb
    by_cases hq : q < 0 ∨ (F.length : Int) ≤ q
    · unfold stepM stepD
      rw [if_pos (by rw [n1]; exact hq), if_pos (by rw [n2]; exact hq)]
    · obtain ⟨m, rfl⟩ := Int.eq_ofNat_of_zero_le (show 0 ≤ q by omega)
      exact leads_uniq hn h1 h2 m b (by omega) hb
  · intro q
    by_cases hq : q < 0 ∨ (F.length : Int) ≤ q
    · have e1 : (decide (0 ≤ q) && (o.final[q.toNat]?).getD false) = false := by
        by_cases h0 : 0 ≤ q
        · rw [List.getElem?_eq_none (by omega)]; simp
        · rw [decide_eq_false h0]; rfl
      have e2 : (decide (0 ≤ q) && (D.final[q.toNat]?).getD false) = false := by
        by_cases h0 : 0 ≤ q
        · rw [List.getElem?_eq_none (by omega)]; simp
        · rw [decide_eq_false h0]; rfl
      show finM (some o) q = (decide (0 ≤ q) && (D.final[q.toNat]?).getD false)
      rw [e2]
      exact e1
    · obtain ⟨m, rfl⟩ := Int.eq_ofNat_of_zero_le (show 0 ≤ q by omega)
      exact leads_fin h1 h2 m (by omega)
theorem detN_len {a : NfM} {m : Nat} {F : List (List Int)} (hm : 1 ≤ m) (h : detN a m = some F) : 1 ≤ F.length ∧ F.length ≤ m ∧ F.Nodup ∧ F[0]? = some (begL a) := detW_len hm h
end Go.Proofs.YthomdogheamfpaaDoor
/- The library's table of powers, out of a row's list. -/
set_option linter.unusedVariables false
set_option maxRecDepth 100000
namespace Go.Proofs.YthomdogheamfpaaDoor
open Go.VC Go.Lib
theorem pow_g : Tryd.prog.globalNamed powN = some 1 := by kernel_rfl
theorem pow_gt : (Tryd.prog.globals[1]?).map (·.type) = some 225 := by kernel_rfl
theorem pow_c : Tryd.prog.cellsOf 225 = 20 := by kernel_rfl
theorem pow_c1 : Tryd.prog.cellsOf 69 = 1 := by kernel_rfl
theorem pow_data : (Rows.laid_internal_strconv_uint64pow10 : DataW Unit) = tabData .u64 pow10Tab := by kernel_rfl
theorem pow_of_laid {W : World} (h : laidMetH Tryd.prog Rows.dfaOrderUptoRow.laid W) : PowH Tryd.prog W.heap := by
  have hW : TabIs Tryd.prog W powN .u64 pow10Tab := by
    obtain ⟨ps, ⟨g0, t0, cs0, f0, p0, q0, hg0, ht0, hv0, hd0, ⟨g1, t1, cs1, f1, p1, q1, hg1, ht1, hv1, hd1, ⟨g2, t2, cs2, f2, p2, q2, hg2, ht2, hv2, hd2, -, -⟩, -⟩, -⟩, -⟩ := h
    obtain rfl := Option.some.inj (pow_g.symm.trans hg2)
    obtain rfl := Option.some.inj (pow_gt.symm.trans ht2)
    rw [pow_data] at hd2
    unfold TabIs
    rw [hv2, ← cells_of_tab Tryd.underlying225 Tryd.underlying69 pow_c1 pow_c hd2]
  intro w hw
  exact var_agr hW fun k _ => by rw [hw]
end Go.Proofs.YthomdogheamfpaaDoor
/- A world for the witness: the tables of the library hold what their initialisers lay. -/
set_option linter.unusedVariables false
set_option maxRecDepth 100000
namespace Go.Proofs.YthomdogheamfpaaDoor
open Go.VC Go.Lib
def tab32 : List Int := [0, 1, 28, 2, 29, 14, 24, 3, 30, 22, 20, 15, 25, 17, 4, 8, 31, 27, 13, 23, 21, 19, 16, 7, 26, 12, 18, 6, 11, 5, 10, 9]
def tab32V : Array Value := (tab32.map (Value.int .u8)).toArray
def tab64 : List Int := [0, 1, 56, 2, 57, 49, 28, 3, 61, 58, 42, 50, 38, 29, 17, 4, 62, 47, 59, 36, 45, 43, 51, 22, 53, 39, 33, 30, 24, 18, 12, 5, 63, 55, 48, 27, 60, 41, 37, 16, 46, 35, 44, 21, 52, 32, 23, 11, 54, 26, 40, 15, 34, 20, 31, 10, 25, 14, 19, 9, 13, 8, 7, 6]
def tab64V : Array Value := (tab64.map (Value.int .u8)).toArray
def tabP10 : List Int := [1, 10, 100, 1000, 10000, 100000, 1000000, 10000000, 100000000, 1000000000, 10000000000, 100000000000, 1000000000000, 10000000000000, 100000000000000, 1000000000000000, 10000000000000000, 100000000000000000, 1000000000000000000, 10000000000000000000]
def tabP10V : Array Value := (tabP10.map (Value.int .u64)).toArray
def putTab (vs : Array Value) : Obj → Obj
  | .cells _ t frozen => .cells vs t frozen
  | o => o
noncomputable def laidW (os : Os) : World :=
  { World.holding Tryd.prog os ⟨#[], #[], []⟩ with heap := (((World.holding Tryd.prog os ⟨#[], #[], []⟩).heap.modify 3 (putTab tab32V)).modify 4 (putTab tab64V)).modify 1 (putTab tabP10V) }
end Go.Proofs.YthomdogheamfpaaDoor
/- Reading arguments: what the form says of them, as typed views. -/
set_option linter.unusedVariables false
set_option linter.unusedSimpArgs false
namespace Go.VC
open Go.Proofs.YthomdogheamfpaaDoor.Rows (uptoBulk uptoBulkAll)
def InW (W : World) (k : Nat) : Prop := k < W.heap.size
def Opens {H : Type} (enc : TypeId × Value → H) (P : Program) (W : World) {α : Type} (T : Ty α) (sz : α → Nat) (t : TypeId) : Prop :=
  ∀ fuel cs d ps, DataW.trod enc P W 0 (fun _ => true) true fuel t cs = some (d, ps) → ∃ x, T.rep (InW W) W.heap cs x ∧ sz x ≤ uptoBulk d
/-- How many values a list bears. -/
def szL {α : Type} (sz : α → Nat) : List α → Nat
  | [] => 1
  | x :: xs => sz x + szL sz xs
theorem szL_snoc {α : Type} (sz : α → Nat) (x : α) : ∀ xs : List α, szL sz (xs ++ [x]) = szL sz xs + sz x
  | [] => by simp [szL]; omega
  | y :: ys => by simp only [List.cons_append, szL, szL_snoc sz x ys]; omega
theorem szL_len {α : Type} {sz : α → Nat} (h : ∀ x, 1 ≤ sz x) : ∀ xs : List α, xs.length + 1 ≤ szL sz xs
  | [] => Nat.le_refl _
  | y :: ys => by have := szL_len h ys; have := h y; simp only [List.length_cons, szL]; omega
theorem szL_mem {α : Type} {sz : α → Nat} {x : α} : ∀ {xs : List α}, x ∈ xs → sz x ≤ szL sz xs
  | [], h => by cases h
  | y :: ys, h => by
    rcases List.mem_cons.1 h with rfl | h
    · simp only [szL]; omega
    · have := szL_mem (sz := sz) h; simp only [szL]; omega
theorem bulkAll_snoc {H : Type} (d : DataW H) : ∀ ds : List (DataW H), uptoBulkAll (ds ++ [d]) = uptoBulkAll ds + uptoBulk d
  | [] => by simp [uptoBulkAll]
  | y :: ys => by simp only [List.cons_append, uptoBulkAll, bulkAll_snoc d ys]; omega
section
variable {H : Type} {enc : TypeId × Value → H} {P : Program} {W : World} {t e : TypeId}
theorem mapM_all {α β : Type} {f : α → Option β} : ∀ {l : List α} {r : List β}, l.mapM f = some r → ∀ x ∈ l, ∃ y, f x = some y := by
  intro l
  induction l with
  | nil => intro r h x hx; cases hx
  | cons a l ih =>
    intro r h x hx
    rw [List.mapM_cons] at h
    cases ha : f a with
    | none => simp [ha] at h
    | some y =>
      rcases List.mem_cons.1 hx with rfl | hx
      · exact ⟨y, ha⟩
      · cases hl : l.mapM f with
        | none => simp [ha, hl] at h
        | some r' => exact ih hl x hx
theorem opens_int {k : IntKind} (ht : P.underlying t = some (.int k)) : Opens enc P W (tInt k) (fun _ => 1) t := by
  intro fuel cs d ps h
  obtain ⟨n, rfl, hd, hw⟩ := DataW.trod_int ht h
  cases hd
  simp only [Lit.wf, Bool.and_eq_true, decide_eq_true_eq] at hw
  exact ⟨n, ⟨rfl, hw⟩, by simp [uptoBulk]⟩
theorem opens_bool (ht : P.underlying t = some .bool) : Opens enc P W tBool (fun _ => 1) t := by
  intro fuel cs d ps h
  obtain ⟨b, rfl, hd⟩ := DataW.trod_bool ht h
  cases hd
  exact ⟨b, rfl, by simp [uptoBulk]⟩
theorem opens_str (ht : P.underlying t = some .string) : Opens enc P W tStr (fun s => s.size + 1) t := by
  intro fuel cs d ps h
  obtain ⟨s, rfl, hd, hs⟩ := DataW.trod_string ht h
  cases hd
  exact ⟨s, ⟨rfl, hs⟩, by simp [uptoBulk, Array.length_toList]⟩
theorem slice_cell {base : Nat} {v x : Value} (ht : P.underlying t = some (.slice e)) (hok : Value.okWide P W .any base t v) (h : v.cells.toList = [x]) : v = x := by
  simp only [Value.okWide, ht] at hok
  cases v with
  | agg cs => simp [Cell.okWide, Cell.ok, ht] at hok
  | _ => simpa [Value.cells] using h
theorem cells_get {a : Addr} {n : Nat} {cs : List Value} (h : W.cells? 0 a n = some cs) (hn : 0 < n) : cs.length = n ∧ a.spot = none ∧ a.block < W.heap.size ∧ Cells W.heap a.block a.off cs := by
  unfold World.cells? at h
  rw [if_pos (Nat.zero_le _)] at h
  have hl := mapM_some_length h
  rw [List.length_range] at hl
  have hg : ∀ j, j < n → W.cell? (a.add j) = cs[j]? := fun j hj => mapM_some_get h j j (by simp [hj])
  obtain ⟨v0, hv0⟩ : ∃ v, cs[0]? = some v := ⟨cs[0]'(by omega), List.getElem?_eq_getElem (by omega)⟩
  have h0 := hg 0 hn
  rw [hv0] at h0
  have hsp : a.spot = none := by
    cases hs : a.spot with
    | none => rfl
    | some x =>
      unfold World.cell? at h0
      split at h0
      · simp [Addr.add, hs] at h0
      · cases h0
  refine ⟨hl, hsp, ?_, fun j v hv => ?_⟩
  · unfold World.cell? at h0
    split at h0
    · rename_i he
      exact (Array.getElem?_eq_some_iff.1 he).1
    · cases h0
  · have hj := (List.getElem?_eq_some_iff.1 hv).1
    have := hg j (by omega)
    rw [hv] at this
    rw [← cell_w]
    obtain ⟨b, o, sp⟩ := a
    simp only at hsp
    subst hsp
    rw [Addr.add_mid] at this
    exact this
theorem opens_slice {α : Type} {T : Ty α} {sz : α → Nat} (ht : P.underlying t = some (.slice e)) (hc : P.cellsOf e = T.size) (h0 : 0 < T.size) (he : Opens enc P W T sz e) : Opens enc P W (tSl T) (szL sz) t := by
  intro fuel cs d ps h
  rcases DataW.trod_slice ht h with ⟨rfl, hd⟩ | ⟨a, len, cap, elems, rest, n, rfl, rfl, hd, -, hl, hm, hel, hget, hsp, -⟩
  · cases hd
    exact ⟨[], ⟨none, 0, rfl, rfl, rfl⟩, by simp [szL, uptoBulk]⟩
  · cases hd
    obtain ⟨hrl, hrest⟩ := hsp rfl
    rw [hc] at hget hrest
    by_cases hcap : cap = 0
    · obtain rfl : len = 0 := by omega
      exact ⟨[], ⟨some a, cap, rfl, by simp, hm, .inl hcap⟩, by simp [szL, uptoBulk]⟩
    · have hsb : a.spot = none ∧ a.block < W.heap.size := by
        have key : ∀ y, (W.cells? 0 (a.add (0 * T.size)) T.size).bind (DataW.trod enc P W 0 (fun _ => true) true n e) = some y → a.spot = none ∧ a.block < W.heap.size := by
          intro y hy
          obtain ⟨c, hc1, hc2⟩ := Option.bind_eq_some_iff.1 hy
          obtain ⟨g1, g2, g3, g4⟩ := cells_get hc1 h0
          rw [Nat.zero_mul] at g2 g3
          unfold Addr.add at g2 g3
          split at g2 <;> simp_all
        by_cases hil : 0 < len
        · exact key _ ((hget 0 hil).trans (List.getElem?_eq_getElem (by omega)))
        · have := hrest 0 (by omega)
          rw [show len + 0 = 0 by omega] at this
          exact key _ (this.trans (List.getElem?_eq_getElem (by omega)))
      obtain ⟨b, o, sp⟩ := a
      obtain ⟨rfl, hb⟩ := hsb
      have build : ∀ m, m ≤ len → ∃ ec xs, xs.length = m ∧ Cells W.heap b o ec ∧ T.reps (InW W) W.heap ec xs ∧ szL sz xs ≤ uptoBulkAll ((elems.take m).map (·.1)) + 1 := by
        intro m
        induction m with
        | zero => exact fun _ => ⟨[], [], rfl, (fun j v hv => by simp at hv), rfl, by simp [szL]⟩
        | succ m ih =>
          intro hm'
          obtain ⟨ec, xs, h1, h2, h3, hz⟩ := ih (by omega)
          have hy : elems[m]? = some (elems[m]'(by omega)) := List.getElem?_eq_getElem (by omega)
          obtain ⟨c, h4, hc2⟩ := Option.bind_eq_some_iff.1 ((hget m (by omega)).trans hy)
          obtain ⟨x, h5, hzx⟩ := he n c _ _ hc2
          obtain ⟨g1, g2, g3, g4⟩ := cells_get h4 h0
          rw [Addr.add_mid] at g4
          have hel := Ty.reps_len h3
          refine ⟨ec ++ c, xs ++ [x], by simp [h1], fun j v hv => ?_, Ty.reps_snoc h3 h5, ?_⟩
          · by_cases hj : j < ec.length
            · rw [List.getElem?_append_left hj] at hv
              exact h2 j v hv
            · rw [List.getElem?_append_right (by omega)] at hv
              have := g4 _ v hv
              simp only at this
              rw [show o + m * T.size + (j - ec.length) = o + j by rw [hel, h1] at *; omega] at this
              exact this
          · rw [szL_snoc, List.take_add_one, hy, Option.toList_some, List.map_append, List.map_singleton, bulkAll_snoc]
            refine Nat.le_trans (Nat.add_le_add hz hzx) ?_
            rw [Nat.add_right_comm]
            exact Nat.le_refl _
      obtain ⟨ec, xs, h1, h2, h3, hz⟩ := build len (Nat.le_refl _)
      rw [List.take_of_length_le (by omega)] at hz
      refine ⟨xs, ⟨_, cap, by rw [h1], SlD.intro hb (by omega) hm h2 h3⟩, ?_⟩
      simp only [uptoBulk]
      omega
end

end Go.VC
/- Sets as arguments. -/
set_option linter.unusedVariables false
set_option linter.unusedSimpArgs false
set_option maxRecDepth 100000
namespace Go.Proofs.YthomdogheamfpaaDoor
open Go.VC Go
def ofWd (a b c d : Nat) : BitVec 256 := BitVec.ofNat 256 (a + 2 ^ 64 * (b + 2 ^ 64 * (c + 2 ^ 64 * d)))
theorem wd_of {a b c d : Nat} (ha : a < 2 ^ 64) (hb : b < 2 ^ 64) (hc : c < 2 ^ 64) (hd : d < 2 ^ 64) : wd (ofWd a b c d) 0 = a ∧ wd (ofWd a b c d) 1 = b ∧ wd (ofWd a b c d) 2 = c ∧ wd (ofWd a b c d) 3 = d := by
  have h : (ofWd a b c d).toNat = a + 2 ^ 64 * (b + 2 ^ 64 * (c + 2 ^ 64 * d)) := by
    unfold ofWd
    rw [BitVec.toNat_ofNat]
    exact Nat.mod_eq_of_lt (by omega)
  unfold wd
  simp only [h, Nat.shiftRight_eq_div_pow]
  refine ⟨?_, ?_, ?_, ?_⟩ <;> omega

theorem opens_set {H : Type} {enc : TypeId × Value → H} {P : Program} {W : World} {t e : TypeId} (ht : P.underlying t = some (.array 4 e)) (he : P.underlying e = some (.int .u64)) (hc : P.cellsOf e = 1) (h4 : P.cellsOf t = 4) : Opens enc P W tSet (fun _ => 1) t := by
  intro fuel cs d ps h
  obtain ⟨xs, m, rfl, hd, hl, hx, hg⟩ := DataW.trod_array ht h
  cases hd
  rw [h4] at hl
  rw [hc] at hg
  match cs, hl with
  | [c0, c1, c2, c3], _ =>
    have one : ∀ (i : Nat) (c : Value), i < 4 → ([c0, c1, c2, c3].drop (i * 1)).take 1 = [c] → ∃ n : Nat, c = .int .u64 (n : Int) ∧ n < 2 ^ 64 := by
      intro i c hi hd
      have := hg i hi
      rw [hd, List.getElem?_eq_getElem (by omega)] at this
      obtain ⟨n, h1, -, hw⟩ := DataW.trod_int he this
      cases h1
      simp only [Lit.wf, Bool.and_eq_true, decide_eq_true_eq] at hw
      have m0 : IntKind.u64.min = 0 := rfl
      have m1 : IntKind.u64.max = 18446744073709551615 := rfl
      obtain ⟨k, rfl⟩ := Int.eq_ofNat_of_zero_le (show 0 ≤ n by omega)
      exact ⟨k, rfl, by omega⟩
    obtain ⟨n0, rfl, b0⟩ := one 0 c0 (by decide) rfl
    obtain ⟨n1, rfl, b1⟩ := one 1 c1 (by decide) rfl
    obtain ⟨n2, rfl, b2⟩ := one 2 c2 (by decide) rfl
    obtain ⟨n3, rfl, b3⟩ := one 3 c3 (by decide) rfl
    obtain ⟨w0, w1, w2, w3⟩ := wd_of b0 b1 b2 b3
    refine ⟨ofWd n0 n1 n2 n3, ?_, by simp [Rows.uptoBulk]⟩
    show _ = setL _
    unfold setL
    rw [w0, w1, w2, w3]

end Go.Proofs.YthomdogheamfpaaDoor
/- Closing: a law that returns true and leaves all that was there as it was. -/
set_option linter.unusedVariables false
namespace Go.VC
open Go.ChangeShapes Go.WideShapes Go.ChangeAt Go.RowKit

theorem kept_of_agr {W W' : World} {may : MemPlace → Prop} (he : Env W W') (h : Agr (Old W.heap) W.heap W'.heap) : W.keptBut W' may := by
  refine ⟨he.os, he.output, fun i hi => ?_⟩
  rw [h i hi]
  split <;> simp_all
theorem frozen_of_agr {W W' : World} (h : Agr (Old W.heap) W.heap W'.heap) (a : Addr) (ha : a.block < W.heap.size) : W'.frozen? a = W.frozen? a := by
  unfold World.frozen?
  rw [h a.block ha]
theorem sameAt_of_agr {W W' : World} (h : Agr (Old W.heap) W.heap W'.heap) : ∀ p : MemPlace, p.block < W.heap.size → W.sameAt W' p
  | .cell b o, hb => by
    show W'.cell? ⟨b, o, none⟩ = W.cell? ⟨b, o, none⟩
    rw [cell_w, cell_w]
    exact cell_eq (h b hb)
  | .map b, hb => h b hb
section
variable {H : Type} {enc : TypeId × Value → H} {P : Program}
theorem all_stay {W W' : World} {sp : Nat → Bool} (hl : laidOutB P = true) (ha : Agr (Old W.heap) W.heap W'.heap) : ∀ {ts : List TypeId} {vs : List Value} {ds : List (DataW H)} {ps : List MemPlace}, (∀ t ∈ ts, P.readableRec t = true ∧ t < P.types.size) →
    DataW.TrodAll enc P W 0 (fun _ => true) true ts vs ds ps → (∀ p ∈ ps, p.block < W.heap.size) → (∀ p ∈ ps, sp p.block = true) → DataW.TrodAll enc P W' 0 sp true ts vs ds ps
  | [], vs, ds, ps, _, h, _, _ => by
    obtain ⟨rfl, rfl, rfl⟩ := trodAll_nil h
    exact trodAll_mk0
  | t :: ts, vs, ds, ps, ht, h, hlt, hsp => by
    obtain ⟨v, vs', d, ds', p, q, rfl, rfl, rfl, h1, h2⟩ := trodAll_cons h
    have ht0 := ht t List.mem_cons_self
    exact trodAll_cons_mk (WideElems.Trod_stays hl ht0.1 ht0.2 h1 (fun x hx => sameAt_of_agr ha x (hlt x (List.mem_append_left _ hx))) fun x hx => hsp x (List.mem_append_left _ hx))
      (all_stay hl ha (fun x hx => ht x (List.mem_cons_of_mem _ hx)) h2 (fun x hx => hlt x (List.mem_append_right _ hx)) fun x hx => hsp x (List.mem_append_right _ hx))
theorem trod_b {w : World} {base : Nat} {sp : Nat → Bool} {hd : Bool} {t : TypeId} {b : Bool} (h : P.underlying t = some .bool) : DataW.Trod enc P w base sp hd t (.bool b) (.lit (.bool b)) [] := ⟨1, by simp [DataW.trod, Value.cells, h]⟩
/-- The law has returned true; what was there is as it was. -/
theorem post_true {f : Func} {s : ChangeSpec} {apart fresh handsOn again : Bool} {W W' : World} {args : Array Value} {ds gs : List (DataW H)} {before : List MemPlace} {bt : TypeId}
    (hW : DataW.Whole enc P f.params.toList s.vars apart W args.toList ds gs before) (hv : s.vars = []) (hfn : (s.fn H (ds ++ gs)).results = [.lit (.bool true)] ∧ (s.fn H (ds ++ gs)).args = ds ∧ (s.fn H (ds ++ gs)).vars = [])
    (hl : laidOutB P = true) (hp : f.params.toList.all (fun t => P.readableRec t && decide (t < P.types.size)) = true) (hr : f.resultTypes = #[bt]) (hu : P.underlying bt = some .bool)
    (he : Env W W') (ha : Agr (Old W.heap) W.heap W'.heap) : s.post enc P f apart fresh handsOn again W args (.bool true) W' := by
  have hlt := hW.lt
  have hW' := hW
  obtain ⟨pa, pv, hA, hV, hbe, hz, hn⟩ := hW
  rw [hv] at hV
  obtain ⟨rfl, rfl⟩ := trodVars_none hV
  rw [List.append_nil] at hbe
  subst hbe
  obtain ⟨hres, hargs, hvars⟩ := hfn
  have hk : W.keptBut W' (fun _ => False) := kept_of_agr he ha
  have hpp : ∀ t ∈ f.params.toList, P.readableRec t = true ∧ t < P.types.size := fun t ht => by
    have := List.all_eq_true.1 hp t ht
    simpa using this
  have hst : ∀ sp : Nat → Bool, (∀ p ∈ before, sp p.block = true) → DataW.TrodAll enc P W' 0 sp true f.params.toList args.toList (s.fn H (ds ++ [])).args before := fun sp hsp => by
    rw [hargs]; exact all_stay hl ha hpp hA hlt hsp
  have hrs : ∀ (b : Nat) (sp : Nat → Bool) (hd : Bool), DataW.TrodAll enc P W' b sp hd f.resultTypes.toList ((Value.bool true).resultList f.resultTypes.size) (s.fn H (ds ++ [])).results [] := fun b sp hd => by
    rw [hres, hr]; exact trodAll_mk1 (trod_b hu)
  have hvs : ∀ sp : Nat → Bool, DataW.TrodVars enc P W' sp s.vars (s.fn H (ds ++ [])).vars [] := fun sp => by
    rw [hvars, hv]; rfl
  have hok : ∀ (j : Nat) (t : TypeId) (r : Value), f.resultTypes[j]? = some t → ((Value.bool true).resultList f.resultTypes.size)[j]? = some r → Value.okWide P W' .any 0 t r := ok_one hr rfl (okWide_bool_mk hu true)
  refine ⟨ds, [], before, [], before, [], hW', hrs _ _ _, hst _ (fun p hp => decide_eq_true (hlt p hp)), hvs _, World.keptBut_mono (fun p hp => hp.elim) hk, fun _ => ?_⟩
  refine ⟨hok, _, _, ([] ++ before) ++ [], ⟨[] ++ before, [], trodAll_append (hst _ (fun _ _ => rfl)) (hrs _ _ _), hvs _, rfl, ?_, ?_⟩, ?_⟩
  · intro b off hp
    simp only [List.nil_append, List.append_nil] at hp
    rw [frozen_of_agr ha _ (hlt _ hp)]
    exact hz b off hp
  · intro hap
    have := hn hap
    simpa using this
  · intro p hp _
    simpa using hp
end

end Go.VC
/- A law's net, handed in. -/
set_option linter.unusedVariables false
set_option linter.unusedSimpArgs false
set_option maxRecDepth 100000
namespace Go.Proofs.YthomdogheamfpaaDoor
open Go.VC Go
theorem own_ : ownKnob Tryd.prog.godebug = none := by kernel_rfl
theorem laid_ : laidOutB Tryd.prog = true := by kernel_rfl
theorem small_of {H : Type} {ds : List (DataW H)} (h : Rows.uptoSmall H ds = true) : Rows.uptoBulkAll ds ≤ 1048576 := by simpa [Rows.uptoSmall] using h
section
variable {H : Type} {enc : TypeId × Value → H} {W : World}
theorem opens_way5 : Opens enc Tryd.prog W tEd (fun _ => 1) 72 := by
  intro fuel cs d ps h
  obtain ⟨xs, m, rfl, hd, hl, hx, hg⟩ := DataW.trod_struct Tryd.underlying72 h
  cases hd
  have h7 : Tryd.prog.cellsOf 72 = 7 := by kernel_rfl
  have k1 : Tryd.prog.cellsOf 3 = 1 := by kernel_rfl
  have k2 : Tryd.prog.cellsOf 4 = 1 := by kernel_rfl
  have k3 : Tryd.prog.cellsOf 70 = 4 := by kernel_rfl
  have k4 : Tryd.prog.cellsOf 69 = 1 := by kernel_rfl
  rw [h7] at hl
  have hx4 : xs.length = 4 := hx
  match cs, hl, xs, hx4 with
  | [c0, c1, c2, c3, c4, c5, c6], _, [x0, x1, x2, x3], _ =>
    have g0 : DataW.trod enc Tryd.prog W 0 (fun _ => true) true m 3 (List.take (Tryd.prog.cellsOf 3) [c0, c1, c2, c3, c4, c5, c6]) = some x0 := hg 0 _ rfl
    have g1 : DataW.trod enc Tryd.prog W 0 (fun _ => true) true m 3 (List.take (Tryd.prog.cellsOf 3) [c1, c2, c3, c4, c5, c6]) = some x1 := hg 1 _ rfl
    have g2 : DataW.trod enc Tryd.prog W 0 (fun _ => true) true m 4 (List.take (Tryd.prog.cellsOf 4) [c2, c3, c4, c5, c6]) = some x2 := hg 2 _ rfl
    have g3 : DataW.trod enc Tryd.prog W 0 (fun _ => true) true m 70 (List.take (Tryd.prog.cellsOf 70) [c3, c4, c5, c6]) = some x3 := hg 3 _ rfl
    rw [k1] at g0 g1
    rw [k2] at g2
    rw [k3] at g3
    obtain ⟨n0, ⟨e0, o0⟩, -⟩ := opens_int Tryd.underlying3 _ _ _ _ g0
    obtain ⟨n1, ⟨e1, o1⟩, -⟩ := opens_int Tryd.underlying3 _ _ _ _ g1
    obtain ⟨b2, e2, -⟩ := opens_bool Tryd.underlying4 _ _ _ _ g2
    obtain ⟨s3, e3, -⟩ := opens_set Tryd.underlying70 Tryd.underlying69 k4 k3 _ _ _ _ g3
    cases e0; cases e1; cases e2; cases e3
    exact ⟨⟨n0, n1, b2, s3⟩, ⟨rfl, o0, o1⟩, by simp [Rows.uptoBulk]⟩
theorem open_net5 {base : Nat} {v : Value} {d : DataW H} {ps : List MemPlace} (hval : Value.okWide Tryd.prog W .any base 55 v) (h : DataW.Trod enc Tryd.prog W 0 (fun _ => true) true 55 v d ps) (hb : Rows.uptoBulk d ≤ 1048576) :
    ∃ a, NfV (InW W) W.heap v a ∧ a.edges.length ≤ Rows.uptoBulk d := by
  obtain ⟨fuel, h⟩ := h
  have hu := Tryd.underlying55
  obtain ⟨xs, m, rfl, hd, hl, hx, hg⟩ := DataW.trod_struct hu h
  cases hd
  have h4 : Tryd.prog.cellsOf 55 = 4 := by kernel_rfl
  simp only [Value.okWide, hu] at hval
  obtain ⟨cs, rfl, hsz, -⟩ := hval
  rw [h4] at hsz
  obtain ⟨l⟩ := cs
  match l, hsz with
  | [c0, c1, c2, c3], _ =>
    have k1 : Tryd.prog.cellsOf 3 = 1 := by kernel_rfl
    have k2 : Tryd.prog.cellsOf 53 = 1 := by kernel_rfl
    have k3 : Tryd.prog.cellsOf 72 = tEd.size := by kernel_rfl
    have hx4 : xs.length = 4 := hx
    match xs, hx4 with
    | [x0, x1, x2, x3], _ =>
      have g0 : DataW.trod enc Tryd.prog W 0 (fun _ => true) true m 3 (List.take (Tryd.prog.cellsOf 3) [c0, c1, c2, c3]) = some x0 := hg 0 _ rfl
      have g1 : DataW.trod enc Tryd.prog W 0 (fun _ => true) true m 3 (List.take (Tryd.prog.cellsOf 3) [c1, c2, c3]) = some x1 := hg 1 _ rfl
      have g2 : DataW.trod enc Tryd.prog W 0 (fun _ => true) true m 3 (List.take (Tryd.prog.cellsOf 3) [c2, c3]) = some x2 := hg 2 _ rfl
      have g3 : DataW.trod enc Tryd.prog W 0 (fun _ => true) true m 53 (List.take (Tryd.prog.cellsOf 53) [c3]) = some x3 := hg 3 _ rfl
      rw [k1] at g0 g1 g2
      rw [k2] at g3
      obtain ⟨n0, ⟨e0, o0⟩, -⟩ := opens_int Tryd.underlying3 _ _ _ _ g0
      obtain ⟨n1, ⟨e1, o1⟩, -⟩ := opens_int Tryd.underlying3 _ _ _ _ g1
      obtain ⟨n2, ⟨e2, o2⟩, -⟩ := opens_int Tryd.underlying3 _ _ _ _ g2
      obtain ⟨es, ⟨ea, ec, e3, he⟩, z3⟩ := opens_slice Tryd.underlying53 k3 (by decide) opens_way5 _ _ _ _ g3
      cases e0; cases e1; cases e2; cases e3
      have b1 := szL_len (sz := fun _ : EdM => 1) (fun _ => Nat.le_refl _) es
      simp only [List.map_cons, List.map_nil, Rows.uptoBulk, Rows.uptoBulkAll] at hb ⊢
      exact ⟨⟨n0, n1, n2, es⟩, ⟨⟨o0, o1, o2⟩, by simp only; omega, ea, ec, rfl, he⟩, by simp only; omega⟩
end
end Go.Proofs.YthomdogheamfpaaDoor
/- The document's Begin, Go, Reach, Accepts of nondeterministic automata: the walks. -/
set_option linter.unusedVariables false
set_option linter.unusedSimpArgs false
set_option maxRecDepth 100000
namespace Go.VC
section
variable {α : Type} {T : Ty α} {e : TypeId} {a : Option Addr} {n cap : Nat} {xs ys : List α} {B S : Nat → Prop} {H0 H : Heap} {ps : List Pc}
/-- append of a slice that is only read. -/
theorem appSD {P : Program} {t ty by_ : Nat} {z : Value} {a2 : Option Addr} {c2 : Nat} {K : Value → Heap → Prop} (hf : T.Free) (hone : T.Ones) (st : StB B H0 H ps) (i : Nat) (ht : SlT P t e T.size by_ z) (hp : ps[i]? = some (pS T e a n cap xs)) (hSB : ∀ k, S k → B k) (hy : SlD T S H a2 c2 ys)
    (h63 : xs.length + ys.length ≤ 4194304) (hby : by_ ≤ 1024)
    (k : ∀ a' cap' H', StB B H0 H' (ps.set i (pS T e a' (xs.length + ys.length) cap' (xs ++ ys))) → K (.slice a' (xs.length + ys.length) cap') H') :
    VEff P (Builtin.append_ #[t, t] ty [.slice a n cap, .slice a2 ys.length c2].toArray) H K := by
  refine vappendD (T := T) (S := S) (lo := 0) ht hone ((st.at_ i hp).1.free hf) (Nat.zero_le _) (fun k hk => ⟨st.up (hSB k hk), fun hb => (st.in_ i hp (.inl hb)).1 (hSB k hk)⟩) hy (by unfold maxLen; omega) (by have := Nat.mul_le_mul h63 hby; omega) ?_
  intro v' H' hown hagr hsz hfr
  have hown : SlO T none_ H' 0 e v' (xs ++ ys) := hown.free hf
  obtain ⟨a', cap', rfl⟩ := hown.hull
  rw [List.length_append] at hown hfr ⊢
  refine k a' cap' H' (st.upd i hp (hagr.mono fun k hk => ⟨hk.1, fun hb => hk.2 (.inl hb)⟩) _ ⟨hown, fun k hk => hk.elim⟩ (fun k hk => ?_) (fun k hk => ?_) hsz)
  · rcases hk with hk | hk
    · rcases hfr k hk with h | h
      · exact .inl (.inl h)
      · exact .inr h
    · exact hk.elim
  · rcases hk with hk | hk
    · exact (hown.lt hk).2
    · exact hk.elim
end
end Go.VC
namespace Go.Proofs.YthomdogheamfpaaDoor
open Go.VC
/-! ### settled -/
/-- What has been gathered. -/
structure GthR (a : NfM) (L out : List Int) : Prop where
  nd : out.Nodup
  sub : ∀ q ∈ L, q ∈ out
  cl : ∀ q ∈ out, clS a (· ∈ L) q
theorem tIk_free : tIk.Free := tInt_free .i64
theorem tIk_ones : tIk.Ones := tInt_ones .i64
theorem dist_le {out : List Int} (hn : out.Nodup) (h : ∀ q ∈ out, 0 ≤ q ∧ q < 65536) : out.length ≤ 65536 := nodupI_len 65536 out hn h
theorem srtd_two {A B : List Int} {x a0 : Int} (h : ((A ++ [a0]) ++ B).Pairwise (· < ·)) (hB : ∀ b ∈ B, x < b) (hx : a0 < x) : ((A ++ [a0]) ++ x :: B).Pairwise (· < ·) := by
  obtain ⟨h1, h2, h3⟩ := List.pairwise_append.1 h
  obtain ⟨h4, h5, h6⟩ := List.pairwise_append.1 h1
  refine List.pairwise_append.2 ⟨h1, List.pairwise_cons.2 ⟨hB, h2⟩, fun p hp q hq => ?_⟩
  rcases List.mem_cons.1 hq with rfl | hq
  · rcases List.mem_append.1 hp with hp | hp
    · have := h6 p hp a0 (by simp); omega
    · rw [List.mem_singleton] at hp; subst hp; exact hx
  · exact h3 p hp q hq
end Go.Proofs.YthomdogheamfpaaDoor
/- The document's Reach and Accepts, nfa.Accepts: the walks. -/
set_option linter.unusedVariables false
set_option linter.unusedSimpArgs false
set_option maxRecDepth 100000
namespace Go.Proofs.YthomdogheamfpaaDoor
open Go.VC
theorem lstS_none {X : PS} (h : ∀ q, ¬ X q) : lstS X = [] := by
  unfold lstS
  rw [List.filter_eq_nil_iff]
  intro q _
  simp [h q]
theorem lstS_ext {X Y : PS} (h : ∀ q, X q ↔ Y q) : lstS X = lstS Y := by
  have : X = Y := funext fun q => propext (h q)
  rw [this]
/-- A list of states of the call's own. -/
abbrev OwnI (H H' : Heap) (r : Value) (xs : List Int) : Prop := Agr (Old H) H H' ∧ ∃ ra rc, r = .slice ra xs.length rc ∧ SlO tIk none_ H' H.size 3 (.slice ra xs.length rc) xs
theorem acc_mem4 {a : NfM} {s : List Nat} : decide (a.fin ∈ rchL a s) = accN a s := by
  have := accN_iff a s
  have h2 := rchL_mem a s a.fin
  cases h : accN a s with
  | true => exact decide_eq_true (h2.2 (this.1 h))
  | false => exact decide_eq_false fun hm => by rw [this.2 (h2.1 hm)] at h; cases h
theorem acc_has {a : NfM} {s : List Nat} (h : a.has a.fin = false) : accN a s = false := by
  cases h2 : accN a s with
  | false => rfl
  | true => have := rchS_has a s _ ((accN_iff a s).1 h2); rw [this] at h; cases h
/-! ### nfa.Accepts -/
theorem isNaN1_p (x : Int) (H : Heap) : Pure Tryd.prog 127 #[.int .i64 x] H (.bool false) := by
  refine FnOk.of_vc Tryd.func127 rfl (Tryd.call127 _) ?_
  have d : (x != x) = false := by simp
  (conv => whnf)
  exact ⟨by rw [d], Agr.refl _ _⟩
theorem isNaN2_p (x : Int) (H : Heap) : Pure Tryd.prog 115 #[.int .i64 x] H (.bool false) := by
  refine FnOk.of_vc Tryd.func115 rfl (Tryd.call115 _) ?_
  have d : (x != x) = false := by simp
  (conv => whnf)
  exact ⟨by rw [d], Agr.refl _ _⟩
theorem less_p (x y : Int) (H : Heap) : Pure Tryd.prog 114 #[.int .i64 x, .int .i64 y] H (.bool (decide (x < y))) := by
  refine FnOk.of_vc Tryd.func114 rfl (Tryd.call114 _) ?_
  (conv => whnf); refine pures (isNaN1_p x H) fun H1 ha1 => ?_
  (conv => whnf)
  exact ⟨rfl, ha1⟩
theorem srt_get {xs : List Int} (h : xs.Pairwise (· < ·)) {i j : Nat} {x y : Int} (hij : i < j) (hx : xs[i]? = some x) (hy : xs[j]? = some y) : x < y := by
  obtain ⟨h1, e1⟩ := List.getElem?_eq_some_iff.1 hx
  obtain ⟨h2, e2⟩ := List.getElem?_eq_some_iff.1 hy
  have := List.pairwise_iff_getElem.1 h i j h1 h2 hij
  rw [e1, e2] at this
  exact this
set_option maxHeartbeats 4000000 in
theorem bsearch_c {S : Nat → Prop} {H : Heap} {a : Option Addr} {c : Nat} {xs : List Int} {t : Int} (hS : ∀ k, S k → k < H.size) (h : SlD tIk S H a c xs) (hsrt : xs.Pairwise (· < ·)) (hlen : xs.length ≤ 65536) :
    FnOk Tryd.prog 87 #[.slice a xs.length c, .int .i64 t] H fun r H' => Agr (Old H) H H' ∧ ∃ i : Nat, r = .tuple #[.int .i64 (i : Int), .bool (decide (t ∈ xs))] := by
  refine FnOk.of_vc Tryd.func87 rfl (Tryd.call87 _) ?_
  (conv => whnf)
  refine VLoop.mk [7, 8] (fun x : Nat × Nat => match x with | (i, j) => [.int .i64 (i : Int), .int .i64 (j : Int)]) (fun x H2 => x.1 ≤ x.2 ∧ x.2 ≤ xs.length ∧ (∀ k y, k < x.1 → xs[k]? = some y → y < t) ∧ (∀ k y, x.2 ≤ k → xs[k]? = some y → t ≤ y) ∧ Agr (Old H) H H2) (fun x _ => x.2 - x.1) ?_ ?_
  · (conv => whnf)
    exact ⟨(0, xs.length), rfl, Nat.zero_le _, Nat.le_refl _, (fun k y h => by omega), (fun k y h1 h2 => by have := (List.getElem?_eq_some_iff.1 h2).1; omega), Agr.refl _ _⟩
  · rintro ⟨i, j⟩ H2 junk ⟨hij, hj, hlo, hhi, ha⟩
    simp only at hij hj hlo hhi ha
    have hd := h.frame (ha.mono hS)
    (conv => whnf); refine VIte.mk (fun hz => ?_) (fun hz => ?_) <;> simp only [decide_eq_true_eq, decide_eq_false_iff_not] at hz
    · obtain ⟨m, hm⟩ : ∃ m, m = (i + j) / 2 := ⟨_, rfl⟩
      have e1 : IntKind.wrap .i64 ((i : Int) + (j : Int)) = ((i + j : Nat) : Int) := by rw [w64 (by omega) (by omega)]; omega
      have e2 : IntKind.wrap .u64 (((i + j : Nat) : Int)) = ((i + j : Nat) : Int) := wrap_in (k := .u64) (inU64 (by omega))
      have e3 : IntKind.wrap .i64 (((i + j : Nat) / 2 ^ 1 : Nat) : Int) = (m : Int) := by rw [w64 (by omega) (by omega), hm]
      obtain ⟨y, hy⟩ := get_some (l := xs) (k := m) (by omega)
      (conv => whnf); rw [e1, e2]
      (conv => whnf); refine vshr (k := .u64) (b := 1) (by decide) ?_
      (conv => whnf); rw [e3]
      (conv => whnf); refine ixr (i := m) sl33 hd hy rfl ?_
      rintro b3 o3 c3 hS3 hc3 ⟨rfl, -⟩
      (conv => whnf); refine ld1 ct3 hc3.one trivial ?_
      (conv => whnf); refine pures (less_p y t H2) fun H3 ha3 => ?_
      have h3 := ha.trans (ha3.mono fun k hk => old_lt ha hk)
      by_cases hlt : y < t
      · have d1 : decide (y < t) = true := decide_eq_true hlt
        (conv => whnf); rw [d1]
        (conv => whnf); rw [w64 (x := (m : Int) + 1) (by omega) (by omega)]
        refine ⟨rfl, (m + 1, j), by simp, ⟨by simp only; omega, hj, fun k z hk hz => ?_, hhi, h3⟩, by simp only; omega⟩
        by_cases hkm : k = m
        · subst hkm; rw [hy] at hz; cases hz; exact hlt
        · have := srt_get hsrt (show k < m by omega) hz hy; omega
      · have d1 : decide (y < t) = false := decide_eq_false hlt
        (conv => whnf); rw [d1]
        (conv => whnf)
        refine ⟨rfl, (i, m), rfl, ⟨by simp only; omega, by simp only; omega, hlo, fun k z hk hz => ?_, h3⟩, by simp only; omega⟩
        by_cases hkm : k = m
        · subst hkm; rw [hy] at hz; cases hz; omega
        · have := srt_get hsrt (show m < k by omega) hy hz; omega
    · obtain rfl : i = j := by omega
      by_cases hin : i < xs.length
      · have d0 : decide ((i : Int) < (xs.length : Int)) = true := decide_eq_true (by omega)
        obtain ⟨y, hy⟩ := get_some (l := xs) (k := i) hin
        (conv => whnf); rw [d0]
        (conv => whnf); refine ixr (i := i) sl33 hd hy rfl ?_
        rintro b3 o3 c3 hS3 hc3 ⟨rfl, -⟩
        (conv => whnf); refine ld1 ct3 hc3.one trivial ?_
        by_cases he : y = t
        · have d1 : (y == t) = true := by rw [he]; simp
          (conv => whnf); rw [d1]
          (conv => whnf)
          exact ⟨ha, i, by rw [decide_eq_true (he ▸ List.mem_of_getElem? hy)]⟩
        · have d1 : (y == t) = false := beq_eq_false_iff_ne.2 he
          have hno : t ∉ xs := fun hm => by
            obtain ⟨k, hk⟩ := List.getElem?_of_mem hm
            rcases Nat.lt_trichotomy k i with h1 | h1 | h1
            · have := hlo k t h1 hk; omega
            · subst h1; rw [hy] at hk; cases hk; exact he rfl
            · have h5 := srt_get hsrt h1 hy hk
              have := hhi i y (Nat.le_refl _) hy
              omega
          (conv => whnf); rw [d1]
          (conv => whnf); refine ixr (i := i) sl33 hd hy rfl ?_
          rintro b4 o4 c4 hS4 hc4 ⟨rfl, -⟩
          (conv => whnf); refine ld1 ct3 hc4.one trivial ?_
          (conv => whnf); refine pures (isNaN2_p y H2) fun H3 ha3 => ?_
          (conv => whnf)
          exact ⟨ha.trans (ha3.mono fun k hk => old_lt ha hk), i, by rw [decide_eq_false hno]⟩
      · have d0 : decide ((i : Int) < (xs.length : Int)) = false := decide_eq_false (by omega)
        have hno : t ∉ xs := fun hm => by
          obtain ⟨k, hk⟩ := List.getElem?_of_mem hm
          have h2 := (List.getElem?_eq_some_iff.1 hk).1
          have := hlo k t (by omega) hk; omega
        (conv => whnf); rw [d0]
        (conv => whnf)
        exact ⟨ha, i, by rw [decide_eq_false hno]⟩
set_option maxHeartbeats 4000000 in
theorem accepts_n {S : Nat → Prop} {H : Heap} {v : Value} {a : NfM} {s : ByteArray} (hS : ∀ k, S k → k < H.size) (h : NfV S H v a) (hs : s.size ≤ maxLen) :
    Pure Tryd.prog 38 #[v, .string s] H (.bool (accN a (byN s))) := by
  have hr := h.1
  have hl := h.2.1
  refine FnOk.of_vc Tryd.func38 rfl (Tryd.call38 _) ?_
  (conv => whnf); refine nf_box h fun ea ec he h1 => ?_
  subst he
  intro p H1 hp hs1 hb1 ha1
  have st1 := (St.nil H).box hp hs1 hb1 ha1
  have hb := st1.blk 0 rfl
  have hpl := hb.lt
  (conv => whnf); refine VDraw.heldZ (Old H1) [] (sq [0,1,3,4] (.f 2 (.f 5 (sq [6,7,8,9] (.f 10 .e))))) rfl (by kernel_rfl) ?_
  (conv => whnf); refine nf_load hr hl hb ag58 hpl (h1.frame (st1.old.mono hS)) fun v2 hv2 => ?_
  (conv => whnf); refine fa fl58_2 ?_
  (conv => whnf); refine ld1 (v := .int .i64 a.fin) ct3 (by rw [hb.cell]; rfl) hpl ?_
  (conv => whnf); refine VCall.mk (reach_n (fun k hk => st1.up (hS k hk)) hv2 hs) ?_
  rintro _ H4 ⟨ha4, ra, rc, rfl, hown⟩
  obtain ⟨ra', rc', e4, st4⟩ := st1.got ha4 hown
  injection e4 with e41 e42 e43
  subst e41; subst e43
  refine ⟨ha4, ?_⟩
  (conv => whnf); refine VCall.mk (bsearch_c (S := Old H4) (t := a.fin) (fun k hk => hk) (st4.view 1 rfl) (lstS_srt _) (lstS_len _)) ?_
  rintro _ H5 ⟨ha5, i, rfl⟩
  have st5 := st4.call ha5
  have h15 : Agr (Old H1) H1 H5 := ha4.trans (ha5.mono fun k hk => old_lt ha4 hk)
  refine ⟨h15, ?_⟩
  (conv => whnf)
  refine ⟨h15, ?_⟩
  (conv => whnf)
  exact ⟨by rw [acc_mem4], st5.old⟩
end Go.Proofs.YthomdogheamfpaaDoor
