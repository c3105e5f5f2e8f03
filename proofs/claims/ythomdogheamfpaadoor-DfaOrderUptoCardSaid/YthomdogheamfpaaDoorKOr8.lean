/- The law DfaOrder returns true for every net, where what it reads is of bulk at most 1048576, and changes nothing: no other condition. -/
import Derived.Test.YthomdogheamfpaaDoorKOr7
import Derived.Test.YthomdogheamfpaaDoorKOr6
import Derived.Test.YthomdogheamfpaaDoorKOr3
import Derived.Test.YthomdogheamfpaaDoorRows
import Derived.Test.YthomdogheamfpaaDoorKOr4
import Derived.Lib.LaidTab
import Derived.Test.YthomdogheamfpaaDoorCards
import Derived.Test.YthomdogheamfpaaDoorTie
import Derived.Deep.DeepHandedRow
/- Making automata deterministic: the plain law: the walk over all bytes, and over one byte of each atom, find the same sets. -/
set_option linter.unusedVariables false
set_option linter.unusedSimpArgs false
set_option maxRecDepth 100000
namespace Go.Proofs.YthomdogheamfpaaDoor
open Go.VC
attribute [local irreducible] mRun gRun atRun
section
variable {K : Type} [DecidableEq K] {most : Nat} {step : K → Nat → K} {start : K} {P : K → Prop} {x : K}
theorem rowF_fst (s : Option (List K × List Nat)) (b : Nat) : (rowF most step x s b).map Prod.fst = (s.map Prod.fst).bind fun f => (atF most f (step x b)).map Prod.fst := by
  cases s with
  | none => rfl
  | some p =>
    simp only [rowF, Option.bind_some, Option.map_some]
    cases atF most p.1 (step x b) <;> rfl
theorem atF_old {f : List K} {k : K} {i : Nat} (hn : f.Nodup) (h : f[i]? = some k) : atF most f k = some (f, i) := by
  unfold atF
  have : f.findIdx? (· = k) = some i := by
    rw [List.findIdx?_eq_some_iff_getElem]
    obtain ⟨hi, e⟩ := List.getElem?_eq_some_iff.1 h
    refine ⟨hi, by simpa using e, fun j hj => ?_⟩
    have := (List.pairwise_iff_getElem.1 hn) j i (by omega) hi hj
    rw [e] at this
    simpa using this
  rw [this]
theorem atF_mem2 {F F' : List K} {k : K} {i : Nat} (h : atF most F k = some (F', i)) : ∀ y ∈ F', y ∈ F ∨ y = k := by
  intro y hx
  unfold atF at h
  split at h
  · injection h with h; injection h with h1 h2; subst h1; exact .inl hx
  · split at h
    · injection h with h; injection h with h1 h2; subst h1
      rcases List.mem_append.1 hx with hx | hx
      · exact .inl hx
      · rw [List.mem_singleton] at hx; exact .inr hx
    · cases h
theorem row_P (hs : ∀ b, P (step x b)) : ∀ (l : List Nat) (f f' : List K) (r r' : List Nat), l.foldl (rowF most step x) (some (f, r)) = some (f', r') → (∀ y ∈ f, P y) → ∀ y ∈ f', P y
  | [], f, f', r, r', h, hf => by
    simp only [List.foldl_nil, Option.some.injEq, Prod.mk.injEq] at h
    obtain ⟨rfl, -⟩ := h
    exact hf
  | b :: l, f, f', r, r', h, hf => by
    rw [List.foldl_cons] at h
    simp only [rowF, Option.bind_some] at h
    cases ha : atF most f (step x b) with
    | none => rw [ha] at h; rw [Option.map_none, rowF_none] at h; cases h
    | some p =>
      rw [ha] at h
      refine row_P hs l p.1 f' _ r' h fun y hy => ?_
      rcases atF_mem2 (i := p.2) ha y hy with h1 | rfl
      · exact hf y h1
      · exact hs b
theorem row_pre : ∀ (l : List Nat) (f f' : List K) (r r' : List Nat), l.foldl (rowF most step x) (some (f, r)) = some (f', r') → f.length ≤ most → f.Nodup → f'.length ≤ most ∧ f'.Nodup ∧ f <+: f' ∧ ∃ r2, r' = r ++ r2
  | [], f, f', r, r', h, h1, h2 => by
    simp only [List.foldl_nil, Option.some.injEq, Prod.mk.injEq] at h
    obtain ⟨rfl, rfl⟩ := h
    exact ⟨h1, h2, List.prefix_refl _, [], by simp⟩
  | b :: l, f, f', r, r', h, h1, h2 => by
    rw [List.foldl_cons] at h
    simp only [rowF, Option.bind_some] at h
    cases ha : atF most f (step x b) with
    | none => rw [ha] at h; rw [Option.map_none, rowF_none] at h; cases h
    | some p =>
      rw [ha] at h
      obtain ⟨-, g1, g2, g3⟩ := atF_some (i := p.2) ha h1 h2
      obtain ⟨k1, k2, k3, r2, k4⟩ := row_pre l p.1 f' _ r' h g1 g2
      exact ⟨k1, k2, g3.trans k3, p.2 :: r2, by rw [k4]; simp⟩
/-- What holds of all that has been found. -/
theorem rows_inv (hm : 1 ≤ most) (h0 : P start) (hs : ∀ y b, P y → P (step y b)) (bs : List Nat) : ∀ (n : Nat) (f : List K) (rows : List (List Nat)), rowsF most step bs start n = some (f, rows) → f.length ≤ most ∧ f.Nodup ∧ f[0]? = some start ∧ ∀ y ∈ f, P y
  | 0, f, rows, h => by
    simp only [rowsF, Option.some.injEq, Prod.mk.injEq] at h
    obtain ⟨rfl, -⟩ := h
    exact ⟨hm, by simp, rfl, fun y hy => by rw [List.mem_singleton] at hy; subst hy; exact h0⟩
  | n + 1, f, rows, h => by
    simp only [rowsF] at h
    cases hp : rowsF most step bs start n with
    | none => rw [hp] at h; cases h
    | some p =>
      obtain ⟨g1, g2, g3, g4⟩ := rows_inv hm h0 hs bs n p.1 p.2 hp
      rw [hp] at h
      simp only [Option.bind_some] at h
      cases hx : p.1[n]? with
      | none =>
        rw [hx] at h
        simp only [Option.some.injEq] at h
        subst h
        exact ⟨g1, g2, g3, g4⟩
      | some x =>
        rw [hx] at h
        simp only at h
        cases hr : bs.foldl (rowF most step x) (some (p.1, [])) with
        | none => rw [hr] at h; cases h
        | some r =>
          rw [hr] at h
          simp only [Option.map_some, Option.some.injEq, Prod.mk.injEq] at h
          obtain ⟨rfl, -⟩ := h
          obtain ⟨k1, k2, k3, -⟩ := row_pre bs p.1 r.1 [] r.2 hr g1 g2
          exact ⟨k1, k2, pre_get k3 g3, row_P (fun b => hs x b (g4 x (List.mem_of_getElem? hx))) bs p.1 r.1 [] r.2 hr g4⟩
/-- Each byte that is left out leads as one ahead of it. -/
def CovP (P : K → Prop) (step : K → Nat → K) (p : Nat → Bool) : Prop := ∀ b, b < 256 → p b = false → ∃ g, g < b ∧ p g = true ∧ ∀ x, P x → step x g = step x b
theorem row_canon {p : Nat → Bool} (hc : CovP P step p) (hx : P x) {f : List K} (h1 : f.length ≤ most) (h2 : f.Nodup) : ∀ m, m ≤ 256 →
    ((List.range m).foldl (rowF most step x) (some (f, []))).map Prod.fst = (((List.range m).filter p).foldl (rowF most step x) (some (f, []))).map Prod.fst := by
  intro m
  induction m with
  | zero => intro _; rfl
  | succ m ih =>
    intro hm
    have ih := ih (by omega)
    rw [List.range_succ, List.filter_append, List.foldl_append, List.foldl_append, List.foldl_cons, List.foldl_nil, rowF_fst, ih]
    cases hp : p m with
    | true =>
      rw [List.filter_cons_of_pos hp, List.filter_nil, List.foldl_cons, List.foldl_nil, rowF_fst]
    | false =>
      rw [List.filter_cons_of_neg (by rw [hp]; decide), List.filter_nil, List.foldl_nil]
      cases hA : (List.range m).foldl (rowF most step x) (some (f, [])) with
      | none => rw [← ih, hA]; rfl
      | some q =>
        obtain ⟨f', r'⟩ := q
        obtain ⟨k1, k2, k3, k4, k5⟩ := foldRow_pre h1 h2 hA
        obtain ⟨g, hg, hpg, hs⟩ := hc m (by omega) hp
        rw [List.length_range] at k4
        obtain ⟨t, ht⟩ := get_some (l := r') (k := g) (by omega)
        have h5 := k5 g g t (List.getElem?_range hg) ht
        rw [hs x hx] at h5
        rw [← ih, hA]
        simp only [Option.map_some, Option.bind_some, atF_old k2 h5]
theorem rows_canon {p : Nat → Bool} (hc : CovP P step p) (hm : 1 ≤ most) (h0 : P start) (hs : ∀ y b, P y → P (step y b)) : ∀ n, (rowsF most step (List.range 256) start n).map Prod.fst = (rowsF most step ((List.range 256).filter p) start n).map Prod.fst
  | 0 => rfl
  | n + 1 => by
    have ih := rows_canon hc hm h0 hs n
    simp only [rowsF]
    cases hA : rowsF most step (List.range 256) start n with
    | none =>
      rw [hA] at ih
      cases hB : rowsF most step ((List.range 256).filter p) start n with
      | none => rfl
      | some q => rw [hB] at ih; cases ih
    | some q =>
      rw [hA] at ih
      cases hB : rowsF most step ((List.range 256).filter p) start n with
      | none => rw [hB] at ih; cases ih
      | some q' =>
        rw [hB] at ih
        simp only [Option.map_some, Option.some.injEq] at ih
        obtain ⟨f, rows⟩ := q
        obtain ⟨f', rows'⟩ := q'
        simp only at ih
        subst ih
        obtain ⟨g1, g2, g3, g4⟩ := rows_inv hm h0 hs _ n f rows hA
        simp only [Option.bind_some]
        cases hx : f[n]? with
        | none => rfl
        | some x =>
          have hr := row_canon hc (g4 x (List.mem_of_getElem? hx)) g1 g2 256 (Nat.le_refl _)
          cases hA2 : (List.range 256).foldl (rowF most step x) (some (f, [])) with
          | none =>
            rw [hA2] at hr
            cases hB2 : ((List.range 256).filter p).foldl (rowF most step x) (some (f, [])) with
            | none => simp only [hA2, hB2]; rfl
            | some r => rw [hB2] at hr; cases hr
          | some r =>
            rw [hA2] at hr
            cases hB2 : ((List.range 256).filter p).foldl (rowF most step x) (some (f, [])) with
            | none => rw [hB2] at hr; cases hr
            | some r' =>
              rw [hB2] at hr
              simp only [hA2, hB2]
              simpa using hr
/-- All sets, in the order in which a walk over all bytes finds them. -/
def detW (most : Nat) (step : K → Nat → K) (start : K) : Option (List K) := (detF most step (List.range 256) start).map Prod.fst
theorem detW_of {p : Nat → Bool} (hc : CovP P step p) (hm : 1 ≤ most) (h0 : P start) (hs : ∀ y b, P y → P (step y b)) : (detF most step ((List.range 256).filter p) start).map Prod.fst = detW most step start := (rows_canon hc hm h0 hs most).symm
/-- A prefix of the walk has found a prefix. -/
theorem rows_pre (hm : 1 ≤ most) {bs : List Nat} : ∀ (k n : Nat) (f : List K) (rows : List (List Nat)), rowsF most step bs start (n + k) = some (f, rows) → ∃ f1 rows1, rowsF most step bs start n = some (f1, rows1) ∧ f1 <+: f
  | 0, n, f, rows, h => ⟨f, rows, h, List.prefix_refl _⟩
  | k + 1, n, f, rows, h => by
    rw [← Nat.add_assoc] at h
    simp only [rowsF] at h
    cases hp : rowsF most step bs start (n + k) with
    | none => rw [hp] at h; cases h
    | some p =>
      obtain ⟨f1, rows1, e1, e2⟩ := rows_pre hm k n p.1 p.2 hp
      obtain ⟨g1, g2, -⟩ := rows_inv (P := fun _ => True) hm trivial (fun _ _ _ => trivial) bs (n + k) p.1 p.2 hp
      rw [hp] at h
      simp only [Option.bind_some] at h
      cases hx : p.1[n + k]? with
      | none =>
        rw [hx] at h
        simp only [Option.some.injEq] at h
        subst h
        exact ⟨f1, rows1, e1, e2⟩
      | some x =>
        rw [hx] at h
        simp only at h
        cases hr : bs.foldl (rowF most step x) (some (p.1, [])) with
        | none => rw [hr] at h; cases h
        | some r =>
          rw [hr] at h
          simp only [Option.map_some, Option.some.injEq, Prod.mk.injEq] at h
          obtain ⟨rfl, -⟩ := h
          exact ⟨f1, rows1, e1, e2.trans (row_pre bs p.1 r.1 [] r.2 hr g1 g2).2.2.1⟩
theorem detF_at (hm : 1 ≤ most) {bs : List Nat} {F : List K} {rows : List (List Nat)} (h : detF most step bs start = some (F, rows)) : rowsF most step bs start F.length = some (F, rows) := by
  obtain ⟨g1, -⟩ := rows_inv (P := fun _ => True) hm trivial (fun _ _ _ => trivial) bs most F rows h
  obtain ⟨f1, rows1, e1, e2⟩ := rows_pre hm (most - F.length) F.length F rows (by rw [show F.length + (most - F.length) = most by omega]; exact h)
  have e3 := rowsF_stop e1 e2.length_le most g1
  have e4 : rowsF most step bs start most = some (F, rows) := h
  rw [e4] at e3
  rw [e1]
  exact e3.symm
/-- With room enough nothing changes. -/
theorem atF_most {m2 : Nat} {f f' : List K} {k : K} {i : Nat} (h : atF most f k = some (f', i)) (hl : f'.length ≤ m2) : atF m2 f k = some (f', i) := by
  unfold atF at h ⊢
  cases hf : f.findIdx? (· = k) with
  | some j => rw [hf] at h; exact h
  | none =>
    rw [hf] at h
    simp only at h ⊢
    split at h
    · injection h with h
      injection h with h1 h2
      subst h1
      simp only [List.length_append, List.length_cons, List.length_nil] at hl
      rw [if_pos (by omega), h2]
    · cases h
theorem row_most {m2 : Nat} : ∀ (l : List Nat) (f f' : List K) (r r' : List Nat), l.foldl (rowF most step x) (some (f, r)) = some (f', r') → f.length ≤ most → f.Nodup → f'.length ≤ m2 → l.foldl (rowF m2 step x) (some (f, r)) = some (f', r')
  | [], f, f', r, r', h, _, _, _ => h
  | b :: l, f, f', r, r', h, h1, h2, hl => by
    rw [List.foldl_cons] at h ⊢
    simp only [rowF, Option.bind_some] at h ⊢
    cases ha : atF most f (step x b) with
    | none => rw [ha] at h; rw [Option.map_none, rowF_none] at h; cases h
    | some p =>
      rw [ha] at h
      obtain ⟨-, g1, g2, g3⟩ := atF_some (i := p.2) ha h1 h2
      have k3 := (row_pre l p.1 f' _ r' h g1 g2).2.2.1
      rw [atF_most (i := p.2) ha (Nat.le_trans k3.length_le hl)]
      exact row_most l p.1 f' _ r' h g1 g2 hl
theorem rows_most {m2 : Nat} (hm : 1 ≤ most) {bs : List Nat} : ∀ (n : Nat) (f : List K) (rows : List (List Nat)), rowsF most step bs start n = some (f, rows) → f.length ≤ m2 → rowsF m2 step bs start n = some (f, rows)
  | 0, f, rows, h, _ => h
  | n + 1, f, rows, h, hl => by
    simp only [rowsF] at h ⊢
    cases hp : rowsF most step bs start n with
    | none => rw [hp] at h; cases h
    | some p =>
      obtain ⟨g1, g2, -⟩ := rows_inv (P := fun _ => True) hm trivial (fun _ _ _ => trivial) bs n p.1 p.2 hp
      rw [hp] at h
      simp only [Option.bind_some] at h
      cases hx : p.1[n]? with
      | none =>
        rw [hx] at h
        simp only [Option.some.injEq] at h
        subst h
        rw [rows_most hm n f rows hp hl]
        simp only [Option.bind_some]
        rw [hx]
      | some x =>
        rw [hx] at h
        simp only at h
        cases hr : bs.foldl (rowF most step x) (some (p.1, [])) with
        | none => rw [hr] at h; cases h
        | some r =>
          rw [hr] at h
          simp only [Option.map_some, Option.some.injEq, Prod.mk.injEq] at h
          obtain ⟨rfl, rfl⟩ := h
          have k3 := (row_pre bs p.1 r.1 [] r.2 hr g1 g2).2.2.1
          rw [rows_most hm n p.1 p.2 hp (Nat.le_trans k3.length_le hl)]
          simp only [Option.bind_some]
          rw [hx]
          simp only
          rw [row_most bs p.1 r.1 [] r.2 hr g1 g2 hl]
          rfl
theorem detF_most {m2 : Nat} (hm : 1 ≤ most) {bs : List Nat} {F : List K} {rows : List (List Nat)} (h : detF most step bs start = some (F, rows)) (hl : F.length ≤ m2) : detF m2 step bs start = some (F, rows) :=
  rowsF_stop (rows_most hm _ F rows (detF_at hm h) hl) (Nat.le_refl _) m2 hl
theorem detW_most {m2 : Nat} (hm : 1 ≤ most) {F : List K} (h : detW most step start = some F) (hl : F.length ≤ m2) : detW m2 step start = some F := by
  unfold detW at h ⊢
  cases hd : detF most step (List.range 256) start with
  | none => rw [hd] at h; cases h
  | some p =>
    rw [hd] at h
    simp only [Option.map_some, Option.some.injEq] at h
    subst h
    rw [detF_most hm (rows := p.2) hd hl]
    rfl
theorem detW_len (hm : 1 ≤ most) {F : List K} (h : detW most step start = some F) : 1 ≤ F.length ∧ F.length ≤ most ∧ F.Nodup ∧ F[0]? = some start := by
  unfold detW at h
  cases hd : detF most step (List.range 256) start with
  | none => rw [hd] at h; cases h
  | some p =>
    rw [hd] at h
    simp only [Option.map_some, Option.some.injEq] at h
    subst h
    obtain ⟨g1, g2, g3, -⟩ := rows_inv (P := fun _ => True) hm trivial (fun _ _ _ => trivial) (List.range 256) most p.1 p.2 hd
    exact ⟨(List.getElem?_eq_some_iff.1 g3).1, g1, g2, g3⟩
theorem detW_few {m2 : Nat} (hm : 1 ≤ most) (hm2 : 1 ≤ m2) {F : List K} (h : detW most step start = some F) (hl : m2 < F.length) : detW m2 step start = none := by
  cases h2 : detW m2 step start with
  | none => rfl
  | some F' =>
    have l1 := (detW_len hm h).2.1
    have l2 := (detW_len hm2 h2).2.1
    rw [detW_most hm2 h2 (by omega)] at h
    injection h with h
    subst h
    omega
end
/-! ### atoms as a table's cells -/
theorem Apart_.sym {x y : BitVec 256} (h : Apart_ x y) : Apart_ y x := fun c hc => by
  cases hx : x.getLsbD c with
  | false => rfl
  | true => rw [h c hx] at hc; cases hc
theorem apart_ne {l : List (BitVec 256)} (h : l.Pairwise Apart_) {x y : BitVec 256} (hx : x ∈ l) (hy : y ∈ l) (hne : x ≠ y) : Apart_ x y := by
  obtain ⟨i, hi, rfl⟩ := List.getElem_of_mem hx
  obtain ⟨j, hj, rfl⟩ := List.getElem_of_mem hy
  rcases Nat.lt_trichotomy i j with hlt | rfl | hlt
  · exact List.pairwise_iff_getElem.1 h i j hi hj hlt
  · exact absurd rfl hne
  · exact (List.pairwise_iff_getElem.1 h j i hj hi hlt).sym
theorem atoms_mem {sets : List (BitVec 256)} {x : BitVec 256} : x ∈ atomsM sets ↔ x ∈ blocksM sets := by
  unfold atomsM
  rw [List.mem_flatMap]
  constructor
  · rintro ⟨b, -, hx⟩
    exact (List.mem_filter.1 hx).1
  · exact fun h => ⟨(nextM x 0).1, List.mem_range.2 (nextM_lt x 0), List.mem_filter.2 ⟨h, by simp⟩⟩
theorem atoms_apart (sets : List (BitVec 256)) : (atomsM sets).Pairwise Apart_ := by
  have hb := blocks_apart sets
  unfold atomsM
  rw [List.pairwise_flatMap]
  refine ⟨fun b _ => hb.filter _, List.pairwise_lt_range.imp fun {b c} hbc x hx y hy => ?_⟩
  obtain ⟨h1, h2⟩ := List.mem_filter.1 hx
  obtain ⟨h3, h4⟩ := List.mem_filter.1 hy
  refine apart_ne hb h1 h3 fun e => ?_
  subst e
  have e1 : (nextM x 0).1 = b := by simpa using h2
  have e2 : (nextM x 0).1 = c := by simpa using h4
  omega
theorem atoms_cnt (sets : List (BitVec 256)) {b : Nat} (hb : b < 256) : cnt (atomsM sets) b = 1 := by
  unfold cnt
  obtain ⟨x, hx, hxb⟩ := (part_ok sets).all b hb
  obtain ⟨y, hy⟩ := one_of (l := (atomsM sets).filter fun x => x.getLsbD b) (b := b) ((atoms_apart sets).filter _) (fun z hz => (List.mem_filter.1 hz).2) (List.ne_nil_of_mem (List.mem_filter.2 ⟨atoms_mem.2 hx, hxb⟩))
  rw [hy]
  rfl
/-! ### both sides -/
def HasL (a : NfM) (l : List Int) : Prop := ∀ q ∈ l, a.has q = true
/-- The sets hold all that ways take. -/
def Takes (a : NfM) (sets : List (BitVec 256)) : Prop := ∀ e ∈ a.edges, e.sil = false → okE a e = true → e.set ∈ sets
theorem takes_A (a : NfM) : Takes a (setsA a) := fun e he hs hk => by
  unfold okE at hk
  rw [Bool.and_eq_true] at hk
  obtain ⟨row, h1, -, h3⟩ := takT_row hk.1
  exact List.mem_flatMap.2 ⟨row, List.mem_of_getElem? h1, List.mem_map.2 ⟨e, (h3 e).2 ⟨he, hs, rfl, hk.2⟩, rfl⟩⟩
theorem takes_D (a : NfM) : Takes a (setsD a) := fun e he hs _ => List.mem_map.2 ⟨e, List.mem_filter.2 ⟨he, by rw [hs]; rfl⟩, rfl⟩
theorem step_sep {a : NfM} {sets : List (BitVec 256)} (ht : Takes a sets) {g b : Nat} (hs : sigEq sets g b = true) {l : List Int} (hl : HasL a l) : stepA a l g = stepA a l b := by
  have key : ∀ g b : Nat, sigEq sets g b = true → ∀ q, hopS a (· ∈ l) g q → hopS a (· ∈ l) b q := fun g b hs q ⟨e, h1, h2, h3, h4, h5, h6⟩ =>
    ⟨e, h1, h2, by rw [← sigEq_iff.1 hs e.set (ht e h1 h2 (by unfold okE; rw [hl _ h4, h5]; rfl))]; exact h3, h4, h5, h6⟩
  have hs' : sigEq sets b g = true := sigEq_iff.2 fun c hc => (sigEq_iff.1 hs c hc).symm
  unfold stepA goS
  have e : hopS a (· ∈ l) g = hopS a (· ∈ l) b := funext fun q => propext ⟨key g b hs q, key b g hs' q⟩
  rw [e]
theorem covP_of {a : NfM} {sets : List (BitVec 256)} (ht : Takes a sets) : CovP (HasL a) (stepA a) (leastB sets) := fun b hb hp => by
  obtain ⟨g, g1, g2, g3⟩ := exists_least (cells := sets) (b := b) b (sigEq_refl sets b)
  have hne : g ≠ b := fun e => by rw [e, hp] at g3; cases g3
  exact ⟨g, by omega, g3, fun x hx => step_sep ht (sigEq_iff.2 fun c hc => (sigEq_iff.1 g2 c hc).symm) hx⟩
noncomputable abbrev begL (a : NfM) : List Int := lstS (begS a)
theorem begL_has (a : NfM) : HasL a (begL a) := fun q hq => begS_has a q ((lstS_mem (has_rng (begS_has a)) q).1 hq)
theorem stepL_has {a : NfM} (l : List Int) (b : Nat) (_ : HasL a l) : HasL a (stepA a l b) := stepA_rng
noncomputable def detN (a : NfM) (most : Nat) : Option (List (List Int)) := detW most (stepA a) (begL a)
theorem detA (a : NfM) {most : Nat} (hm : 1 ≤ most) : (detF most (stepA a) (repsM (setsA a)) (begL a)).map Prod.fst = detN a most := by
  rw [repsM_filter]
  exact detW_of (covP_of (takes_A a)) hm (begL_has a) stepL_has
theorem detD_ (a : NfM) {most : Nat} (hm : 1 ≤ most) : (detF most (stepA a) (repD a) (begL a)).map Prod.fst = detN a most := by
  unfold repD
  rw [atRun_filter]
  exact detW_of (covP_of (takes_D a)) hm (begL_has a) stepL_has
/-- Steps lead from set to set. -/
structure Leads5 (a : NfM) (F : List (List Int)) (st : Int → Nat → Int) (fi : Int → Bool) : Prop where
  st : ∀ (q b : Nat) (x : List Int), F[q]? = some x → b < 256 → ∃ t : Nat, st (q : Int) b = (t : Int) ∧ F[t]? = some (stepA a x b)
  fi : ∀ (q : Nat) (x : List Int), F[q]? = some x → fi (q : Int) = decide (a.fin ∈ x)
theorem det_rowsOk {a : NfM} {most : Nat} {bs : List Nat} {F : List (List Int)} {rows : List (List Nat)} (hm : 1 ≤ most) (h : detF most (stepA a) bs (begL a) = some (F, rows)) : RowsOk most (stepA a) bs (begL a) F.length F rows ∧ ∀ x ∈ F, HasL a x := by
  obtain ⟨-, -, -, g4⟩ := rows_inv (P := HasL a) hm (begL_has a) stepL_has bs most F rows h
  exact ⟨rowsF_ok hm F.length F rows (detF_at hm h) fun j hj => hj, g4⟩
theorem row_lt {a : NfM} {most : Nat} {bs : List Nat} {F : List (List Int)} {rows : List (List Nat)} (hk : RowsOk most (stepA a) bs (begL a) F.length F rows) {q : Nat} {row : List Nat} (hr : rows[q]? = some row) : row.length = bs.length ∧ ∀ t ∈ row, t < F.length := by
  have hcl := hk.cols row (List.mem_of_getElem? hr)
  refine ⟨hcl, fun t ht => ?_⟩
  obtain ⟨k, hkt⟩ := List.getElem?_of_mem ht
  have hkl := (List.getElem?_eq_some_iff.1 hkt).1
  obtain ⟨b, hb⟩ := get_some (l := bs) (k := k) (by omega)
  have hql := (List.getElem?_eq_some_iff.1 hr).1
  rw [hk.rl] at hql
  obtain ⟨x, hx⟩ := get_some (l := F) (k := q) hql
  exact (List.getElem?_eq_some_iff.1 (hk.ok q k row b t x hr hb hkt hx)).1
/-- The program's automaton. -/
theorem autoA {a : NfM} {most : Nat} {F : List (List Int)} {rows : List (List Nat)} (hm : 1 ≤ most) (hm2 : most ≤ 65536) (h : detF most (stepA a) (repsM (setsA a)) (begL a) = some (F, rows)) :
    soundB (atomsM (setsA a)) (rows.map rowI) F.length = true ∧ Leads5 a F (stepM (some (madeM (atomsM (setsA a)) (rows.map rowI) (F.map fun l => decide (a.fin ∈ l))))) (finM (some (madeM (atomsM (setsA a)) (rows.map rowI) (F.map fun l => decide (a.fin ∈ l))))) ∧ stN (some (madeM (atomsM (setsA a)) (rows.map rowI) (F.map fun l => decide (a.fin ∈ l)))) = F.length := by
  obtain ⟨hk, hP⟩ := det_rowsOk hm h
  have h0 := (List.getElem?_eq_some_iff.1 hk.zero).1
  have hlen := hk.len
  have hrl : (rows.map rowI).length = F.length := by rw [List.length_map, hk.rl]
  have hbl : (repsM (setsA a)).length = (atomsM (setsA a)).length := List.length_map _
  have hs : soundB (atomsM (setsA a)) (rows.map rowI) F.length = true := by
    rw [soundB_iff]
    refine ⟨⟨by omega, by omega, hrl⟩, fun b hb => atoms_cnt _ hb, fun r hr => ?_⟩
    obtain ⟨row, hrow, rfl⟩ := List.mem_map.1 hr
    obtain ⟨q, hq⟩ := List.getElem?_of_mem hrow
    obtain ⟨h1, h2⟩ := row_lt hk hq
    unfold rowOk
    rw [Bool.and_eq_true, beq_iff_eq, List.all_eq_true]
    refine ⟨by unfold rowI; rw [List.length_map, h1, hbl], fun t ht => ?_⟩
    obtain ⟨u, hu, rfl⟩ := List.mem_map.1 ht
    have := h2 u hu
    simp only [Bool.and_eq_true, decide_eq_true_eq]
    omega
  have hfl : (F.map fun l => decide (a.fin ∈ l)).length = F.length := List.length_map _
  refine ⟨hs, ⟨fun q b x hx hb => ?_, fun q x hx => ?_⟩, by simp only [stN, madeM, List.length_map]; exact hk.rl⟩
  · obtain ⟨row, hrow⟩ := get_some (l := rows) (k := q) (by rw [hk.rl]; exact (List.getElem?_eq_some_iff.1 hx).1)
    obtain ⟨h1, h2⟩ := row_lt hk hrow
    obtain ⟨c1, c2⟩ := soundB_cells hs hb
    obtain ⟨c, hc⟩ := get_some c1
    have hcb := c2 c hc
    obtain ⟨t, ht⟩ := get_some (l := row) (k := cellOf (atomsM (setsA a)) b) (by omega)
    have hbs : (repsM (setsA a))[cellOf (atomsM (setsA a)) b]? = some (nextM c 0).1 := by unfold repsM; rw [List.getElem?_map, hc]; rfl
    have hok := hk.ok q _ row _ t x hrow hbs ht hx
    have hcm := atoms_mem.1 (List.mem_of_getElem? hc)
    have hp := part_ok (setsA a)
    have hsg : sigEq (setsA a) (nextM c 0).1 b = true := sigEq_iff.2 fun s hs => hp.same c hcm _ _ (least_of (hp.ne c hcm)).1 hcb s hs
    refine ⟨t, ?_, by rw [hok, step_sep (takes_A a) hsg (hP x (List.mem_of_getElem? hx))]⟩
    rw [madeM_step (row := rowI row) (by rw [hfl]; exact hs) (by rw [List.getElem?_map, hrow]; rfl) hb]
    unfold rowI
    rw [List.getD_eq_getElem?_getD, List.getElem?_map, ht]
    rfl
  · simp [finM, madeM, hx]
/-- The document's. -/
theorem autoD {a : NfM} {most : Nat} {F : List (List Int)} {rows : List (List Nat)} (hm : 1 ≤ most) (hm2 : most ≤ 65536) (h : detF most (stepA a) (repD a) (begL a) = some (F, rows)) {D : DM} (hD : D = ⟨asI (atRun (setsD a) 256).2, asI (repD a), rows.map rowI, F.map fun l => decide (a.fin ∈ l)⟩) :
    D.Ok ∧ Leads5 a F (stepD D) (finD D) ∧ D.next.length = F.length := by
  subst hD
  obtain ⟨hk, hP⟩ := det_rowsOk hm h
  have h0 := (List.getElem?_eq_some_iff.1 hk.zero).1
  have hlen := hk.len
  have hat := atRun_ok (setsD a) 256
  have hrl : (rows.map rowI).length = F.length := by rw [List.length_map, hk.rl]
  refine ⟨⟨by simp only; omega, by simp only; omega, by simp only [List.length_map]; exact hk.rl.symm, by simp only; rw [asI_len, hat.plen], fun r hr => ?_⟩, ⟨fun q b x hx hb => ?_, fun q x hx => ?_⟩, hrl⟩
  · simp only at hr ⊢
    obtain ⟨row, hrow, rfl⟩ := List.mem_map.1 hr
    obtain ⟨q, hq⟩ := List.getElem?_of_mem hrow
    obtain ⟨h1, h2⟩ := row_lt hk hq
    have hfl : (repD a).length ≤ 256 := hat.flen
    have hil : (rowI row).length = row.length := by unfold rowI; rw [List.length_map]
    refine ⟨by omega, fun c hc => ?_, fun t ht => ?_⟩
    · obtain ⟨u, hu, rfl⟩ := List.mem_map.1 hc
      have : u < (repD a).length := hat.lt u hu
      omega
    · obtain ⟨u, hu, rfl⟩ := List.mem_map.1 ht
      have := h2 u hu
      omega
  · obtain ⟨row, hrow⟩ := get_some (l := rows) (k := q) (by rw [hk.rl]; exact (List.getElem?_eq_some_iff.1 hx).1)
    obtain ⟨h1, h2⟩ := row_lt hk hrow
    obtain ⟨p, hp⟩ := get_some (l := (atRun (setsD a) 256).2) (k := b) (by rw [hat.plen]; exact hb)
    have hpl : p < (repD a).length := hat.lt p (List.mem_of_getElem? hp)
    obtain ⟨g, hg⟩ := get_some hpl
    obtain ⟨t, ht⟩ := get_some (l := row) (k := p) (by omega)
    have hok := hk.ok q p row g t x hrow hg ht hx
    have hsg : sigEq (setsD a) g b = true := sigEq_iff.2 fun s hs => (sigEq_iff.1 (hat.sig b p g hp hg).1 s hs).symm
    refine ⟨t, ?_, by rw [hok, step_sep (takes_D a) hsg (hP x (List.mem_of_getElem? hx))]⟩
    exact stepD_at (row := rowI row) (c := p) (by simp only; rw [List.getElem?_map, hrow]; rfl) (asI_get hp) (by unfold rowI; rw [List.getElem?_map, ht]; rfl)
  · simp [finD, hx]
theorem leads_uniq {a : NfM} {F : List (List Int)} (hn : F.Nodup) {s1 s2 : Int → Nat → Int} {f1 f2 : Int → Bool} (h1 : Leads5 a F s1 f1) (h2 : Leads5 a F s2 f2) : ∀ (q b : Nat), q < F.length → b < 256 → s1 (q : Int) b = s2 (q : Int) b := fun q b hq hb => by
  obtain ⟨x, hx⟩ := get_some hq
  obtain ⟨t, e1, k1⟩ := h1.st q b x hx hb
  obtain ⟨u, e2, k2⟩ := h2.st q b x hx hb
  have : t = u := by
    obtain ⟨ht, e3⟩ := List.getElem?_eq_some_iff.1 k1
    obtain ⟨hu, e4⟩ := List.getElem?_eq_some_iff.1 k2
    rcases Nat.lt_trichotomy t u with h | h | h
    · exact absurd (e3.trans e4.symm) (List.pairwise_iff_getElem.1 hn t u ht hu h)
    · exact h
    · exact absurd (e4.trans e3.symm) (List.pairwise_iff_getElem.1 hn u t hu ht h)
  rw [e1, e2, this]
theorem leads_fin {a : NfM} {F : List (List Int)} {s1 s2 : Int → Nat → Int} {f1 f2 : Int → Bool} (h1 : Leads5 a F s1 f1) (h2 : Leads5 a F s2 f2) : ∀ (q : Nat), q < F.length → f1 (q : Int) = f2 (q : Int) := fun q hq => by
  obtain ⟨x, hx⟩ := get_some hq
  rw [h1.fi q x hx, h2.fi q x hx]
end Go.Proofs.YthomdogheamfpaaDoor
/- dfa.Determinize with a budget that may not be: the walk. -/
set_option linter.unusedVariables false
set_option linter.unusedSimpArgs false
set_option maxRecDepth 100000
namespace Go.Proofs.YthomdogheamfpaaDoor
open Go.VC
theorem determinizeBad_p {S : Nat → Prop} {H : Heap} {v : Value} {a : NfM} {b : Int} (h : NfV S H v a) (hb : b < 1 ∨ 4096 < b) :
    Pure Tryd.prog 32 #[v, .int .i64 b] H (.tuple #[.pointer none, .int .i64 2]) := by
  refine FnOk.of_vc Tryd.func32 rfl (Tryd.call32 _) ?_
  (conv => whnf); refine nf_box h fun ea ec he0 h1 => ?_
  subst he0
  intro p H1 hp hs1 hb1 ha1
  have st1 := (St.nil H).box hp hs1 hb1 ha1
  by_cases hl : b < 1
  · have d1 : decide (b < (1 : Int)) = true := decide_eq_true hl
    (conv => whnf); rw [d1]
    (conv => whnf)
    exact ⟨rfl, st1.old⟩
  · have d1 : decide (b < (1 : Int)) = false := decide_eq_false hl
    have d2 : decide ((4096 : Int) < b) = true := decide_eq_true (by omega)
    (conv => whnf); rw [d1]
    (conv => whnf); rw [d2]
    (conv => whnf)
    exact ⟨rfl, st1.old⟩
end Go.Proofs.YthomdogheamfpaaDoor
/- Law 5: nets as automata: the walks of machine and doc. -/
set_option linter.unusedVariables false
set_option linter.unusedSimpArgs false
set_option maxRecDepth 100000
namespace Go.Proofs.YthomdogheamfpaaDoor
open Go.VC
theorem way_z : (Tryd.prog.info? 72).bind (·.zero) = some (.agg #[.int .i64 0, .int .i64 0, .bool false, .int .u64 0, .int .u64 0, .int .u64 0, .int .u64 0]) := rfl
set_option maxHeartbeats 4000000 in
theorem machine05_c {S : Nat → Prop} {H : Heap} {v : Value} {a : NfM} (hS : ∀ k, S k → k < H.size) (h : NfV S H v a) :
    FnOk Tryd.prog 31 #[v] H fun v' H' => Agr (Old H) H H' ∧ ∃ ea ec, v' = .agg (nfL a (.slice ea a.edges.length ec)).toArray ∧ SlO tEd none_ H' H.size 75 (.slice ea a.edges.length ec) a.edges := by
  have hl := h.2.1
  refine FnOk.of_vc Tryd.func31 rfl (Tryd.call31 _) ?_
  (conv => whnf); refine nf_box h fun ea ec he h1 => ?_
  subst he
  intro p H1 hp hs1 hb1 ha1
  have st1 := (St.nil H).box hp hs1 hb1 ha1
  (conv => whnf); refine valloc _ [.int .i64 0, .int .i64 0, .int .i64 0, .slice none 0 0] nfa_z rfl ?_
  intro r H2 hr hs2 hb2 ha2
  have st2 := st1.box hr hs2 hb2 ha2
  (conv => whnf); refine fa fl55_0 ?_
  (conv => whnf); refine ld1 (v := .int .i64 a.st) ct3 (by rw [(st2.blk 0 rfl).cell]; rfl) trivial ?_
  (conv => whnf); refine fa fl55_1 ?_
  (conv => whnf); refine ld1 (v := .int .i64 a.start) ct3 (by rw [(st2.blk 0 rfl).cell]; rfl) trivial ?_
  (conv => whnf); refine fa fl55_2 ?_
  (conv => whnf); refine ld1 (v := .int .i64 a.fin) ct3 (by rw [(st2.blk 0 rfl).cell]; rfl) trivial ?_
  (conv => whnf); refine vbuildS Tryd.underlying58 rfl _ nfa_z (nfL a (.slice none 0 0)) rfl ?_
  (conv => whnf); refine valloc _ [.int .i64 0, .int .i64 0, .int .i64 0, .slice none 0 0] nfa_z rfl ?_
  intro q H3 hq hs3 hb3 ha3
  have st3 := st2.box hq hs3 hb3 ha3
  (conv => whnf); refine stNB (cs := nfL a (.slice none 0 0)) st3 2 rfl rfl (Nat.le_refl _) rfl fun H4 st4 => ?_
  rw [splice_all (show (nfL a (.slice none 0 0)).length = 4 from rfl)] at st4
  have st5 := st4.nils tEd 75
  (conv => whnf)
  refine VLoop.mk [4] (fun i : Nat => [.int .i64 (i : Int)]) (fun i H5 => i ≤ a.edges.length ∧ ∃ a' c', St H H5 [pB 55 p (nfL a (.slice ea a.edges.length ec)), pB 58 r [.int .i64 0, .int .i64 0, .int .i64 0, .slice none 0 0], pB 58 q (nfL a (.slice a' i c')), pS tEd 75 a' i c' (a.edges.take i)]) (fun i _ => a.edges.length - i) ?_ ?_
  · (conv => whnf)
    exact ⟨0, rfl, Nat.zero_le _, none, 0, st5⟩
  · rintro i H5 junk ⟨hi, a', c', st⟩
    (conv => whnf); refine fa fl55_3 ?_
    (conv => whnf); refine ld1 (v := .slice ea a.edges.length ec) ct53 (by rw [(st.blk 0 rfl).cell]; rfl) trivial ?_
    (conv => whnf); refine VIte.mk (fun hz => ?_) (fun hz => ?_) <;> simp only [decide_eq_true_eq, decide_eq_false_iff_not] at hz
    · obtain ⟨e, he⟩ := get_some (l := a.edges) (k := i) (by omega)
      (conv => whnf); refine fa fl55_3 ?_
      (conv => whnf); refine ld1 (v := .slice ea a.edges.length ec) ct53 (by rw [(st.blk 0 rfl).cell]; rfl) trivial ?_
      (conv => whnf); refine ixr (i := i) sl53 (h1.frame (st.old.mono hS)) he rfl ?_
      rintro b6 o6 c6 hS6 hc6 ⟨rfl, hok⟩
      (conv => whnf); refine ldN (cs := edL e) ag72 hc6 trivial ?_
      (conv => whnf); refine valloc _ [.int .i64 0, .int .i64 0, .bool false, .int .u64 0, .int .u64 0, .int .u64 0, .int .u64 0] way_z rfl ?_
      intro x H6 hx hs6 hb6 ha6
      have st6 := st.box hx hs6 hb6 ha6
      (conv => whnf); refine stNB (cs := edL e) st6 4 rfl rfl (Nat.le_refl _) rfl fun H7 st7 => ?_
      rw [splice_all (show (edL e).length = 7 from rfl)] at st7
      have hbx := st7.blk 4 rfl
      (conv => whnf); refine fa fl58_3 ?_
      (conv => whnf); refine ld1 (v := .slice a' i c') ct56 (by rw [(st7.blk 2 rfl).cell]; rfl) trivial ?_
      (conv => whnf); refine fa fl72_0 ?_
      (conv => whnf); refine ld1 (v := .int .i64 e.fr) ct3 (by rw [hbx.cell]; rfl) trivial ?_
      (conv => whnf); refine fa fl72_1 ?_
      (conv => whnf); refine ld1 (v := .int .i64 e.to) ct3 (by rw [hbx.cell]; rfl) trivial ?_
      (conv => whnf); refine fa fl72_2 ?_
      (conv => whnf); refine ld1 (v := .bool e.sil) ct4 (by rw [hbx.cell]; rfl) trivial ?_
      (conv => whnf); refine fa fl72_3 ?_
      (conv => whnf); refine ldN (cs := setL e.set) ag70 (hbx.cells fun j v hv => edL_set e j v hv) trivial ?_
      (conv => whnf); refine edge_build e ?_
      (conv => whnf); refine vbuild1 sl56 (edL e) rfl rfl (by decide) (by decide) ?_
      intro y H8 hy hs8 hb8 ha8
      have st8 := st7.skip hy ha8
      have htl : (a.edges.take i).length = i := by rw [List.length_take]; omega
      (conv => whnf); refine appO (ys := [e]) st8 3 sl56 rfl (hb8.cells (o := 0) (cs := edL e) fun j v hv => by rw [Nat.zero_add]; exact hv) (Ty.reps_one ⟨rfl, hok⟩) rfl (fun u hu => List.all_eq_true.1 (ed_ones e) u hu) (by rw [htl]; simp; omega) (by decide) fun a9 c9 H9 st9 _ => ?_
      rw [htl] at st9 ⊢
      (conv => whnf); refine fa fl58_3 ?_
      (conv => whnf); refine st1B st9 2 ct56 rfl (show 3 < 4 by decide) rfl fun H10 st10 => ?_
      (conv => whnf); rw [w64 (x := (i : Int) + 1) (by omega) (by omega)]
      have ht : a.edges.take i ++ [e] = a.edges.take (i + 1) := (take_succ_snoc he).symm
      rw [ht] at st10
      exact ⟨rfl, i + 1, by simp, ⟨by omega, a9, c9, st10.pick [0, 1, 2, 3] (by decide)⟩, by omega⟩
    · obtain rfl : i = a.edges.length := by omega
      rw [List.take_length] at st
      (conv => whnf); refine ldN (cs := nfL a (.slice a' a.edges.length c')) ag58 ((st.blk 2 rfl).cells fun j v hv => by rw [Nat.zero_add]; exact hv) trivial ?_
      (conv => whnf); refine stNB (cs := nfL a (.slice a' a.edges.length c')) st 1 rfl rfl (Nat.le_refl _) rfl fun H7 st7 => ?_
      rw [splice_all (show (nfL a (.slice a' a.edges.length c')).length = 4 from rfl)] at st7
      (conv => whnf); refine ldN (cs := nfL a (.slice a' a.edges.length c')) ag58 ((st7.blk 1 rfl).cells fun j v hv => by rw [Nat.zero_add]; exact hv) trivial ?_
      exact ⟨st7.old, a', c', rfl, St.own st7 3 rfl⟩
set_option maxHeartbeats 4000000 in
theorem doc05_c {S : Nat → Prop} {H : Heap} {v : Value} {a : NfM} (hS : ∀ k, S k → k < H.size) (h : NfV S H v a) :
    FnOk Tryd.prog 34 #[v] H fun v' H' => Agr (Old H) H H' ∧ ∃ ea ec, v' = .agg (nfL a (.slice ea a.edges.length ec)).toArray ∧ SlO tEdD none_ H' H.size 143 (.slice ea a.edges.length ec) a.edges := by
  have hl := h.2.1
  refine FnOk.of_vc Tryd.func34 rfl (Tryd.call34 _) ?_
  (conv => whnf); refine nf_box h fun ea ec he h1 => ?_
  subst he
  intro p H1 hp hs1 hb1 ha1
  have st1 := (St.nil H).box hp hs1 hb1 ha1
  (conv => whnf); refine valloc _ [.int .i64 0, .int .i64 0, .int .i64 0, .slice none 0 0] nfd_z rfl ?_
  intro r H2 hr hs2 hb2 ha2
  have st2 := st1.box hr hs2 hb2 ha2
  (conv => whnf); refine fa fl55_0 ?_
  (conv => whnf); refine ld1 (v := .int .i64 a.st) ct3 (by rw [(st2.blk 0 rfl).cell]; rfl) trivial ?_
  (conv => whnf); refine fa fl55_1 ?_
  (conv => whnf); refine ld1 (v := .int .i64 a.start) ct3 (by rw [(st2.blk 0 rfl).cell]; rfl) trivial ?_
  (conv => whnf); refine fa fl55_2 ?_
  (conv => whnf); refine ld1 (v := .int .i64 a.fin) ct3 (by rw [(st2.blk 0 rfl).cell]; rfl) trivial ?_
  (conv => whnf); refine vbuildS Tryd.underlying67 rfl _ nfd_z (nfL a (.slice none 0 0)) rfl ?_
  (conv => whnf); refine valloc _ [.int .i64 0, .int .i64 0, .int .i64 0, .slice none 0 0] nfd_z rfl ?_
  intro q H3 hq hs3 hb3 ha3
  have st3 := st2.box hq hs3 hb3 ha3
  (conv => whnf); refine stNB (cs := nfL a (.slice none 0 0)) st3 2 rfl rfl (Nat.le_refl _) rfl fun H4 st4 => ?_
  rw [splice_all (show (nfL a (.slice none 0 0)).length = 4 from rfl)] at st4
  have st5 := st4.nils tEdD 143
  (conv => whnf)
  refine VLoop.mk [4] (fun i : Nat => [.int .i64 (i : Int)]) (fun i H5 => i ≤ a.edges.length ∧ ∃ a' c', St H H5 [pB 55 p (nfL a (.slice ea a.edges.length ec)), pB 67 r [.int .i64 0, .int .i64 0, .int .i64 0, .slice none 0 0], pB 67 q (nfL a (.slice a' i c')), pS tEdD 143 a' i c' (a.edges.take i)]) (fun i _ => a.edges.length - i) ?_ ?_
  · (conv => whnf)
    exact ⟨0, rfl, Nat.zero_le _, none, 0, st5⟩
  · rintro i H5 junk ⟨hi, a', c', st⟩
    (conv => whnf); refine fa fl55_3 ?_
    (conv => whnf); refine ld1 (v := .slice ea a.edges.length ec) ct53 (by rw [(st.blk 0 rfl).cell]; rfl) trivial ?_
    (conv => whnf); refine VIte.mk (fun hz => ?_) (fun hz => ?_) <;> simp only [decide_eq_true_eq, decide_eq_false_iff_not] at hz
    · obtain ⟨e, he⟩ := get_some (l := a.edges) (k := i) (by omega)
      (conv => whnf); refine fa fl55_3 ?_
      (conv => whnf); refine ld1 (v := .slice ea a.edges.length ec) ct53 (by rw [(st.blk 0 rfl).cell]; rfl) trivial ?_
      (conv => whnf); refine ixr (i := i) sl53 (h1.frame (st.old.mono hS)) he rfl ?_
      rintro b6 o6 c6 hS6 hc6 ⟨rfl, hok⟩
      (conv => whnf); refine ldN (cs := edL e) ag72 hc6 trivial ?_
      (conv => whnf); refine valloc _ [.int .i64 0, .int .i64 0, .bool false, .int .u64 0, .int .u64 0, .int .u64 0, .int .u64 0] way_z rfl ?_
      intro x H6 hx hs6 hb6 ha6
      have st6 := st.box hx hs6 hb6 ha6
      (conv => whnf); refine stNB (cs := edL e) st6 4 rfl rfl (Nat.le_refl _) rfl fun H7 st7 => ?_
      rw [splice_all (show (edL e).length = 7 from rfl)] at st7
      have hbx := st7.blk 4 rfl
      have htl : (a.edges.take i).length = i := by rw [List.length_take]; omega
      (conv => whnf); refine VDraw.heldZ (Old H7) [13, 14, 15] (sq [0,1,2,3,4,5,6,7,8,9] (.f 10 (sq [11] (.f 12 (.f 13 (.f 14 (.f 15 .e))))))) rfl (by kernel_rfl) ?_
      (conv => whnf); refine fa fl67_3 ?_
      (conv => whnf); refine ld1 (v := .slice a' i c') ct65 (by rw [(st7.blk 2 rfl).cell]; rfl) (st7.in_ 2 rfl rfl).2 ?_
      (conv => whnf); refine fa fl72_0 ?_
      (conv => whnf); refine ld1 (v := .int .i64 e.fr) ct3 (by rw [hbx.cell]; rfl) (st7.in_ 4 rfl rfl).2 ?_
      (conv => whnf); refine fa fl72_1 ?_
      (conv => whnf); refine ld1 (v := .int .i64 e.to) ct3 (by rw [hbx.cell]; rfl) (st7.in_ 4 rfl rfl).2 ?_
      (conv => whnf); refine fa fl72_2 ?_
      (conv => whnf); refine ld1 (v := .bool e.sil) ct4 (by rw [hbx.cell]; rfl) (st7.in_ 4 rfl rfl).2 ?_
      (conv => whnf); refine fa fl72_3 ?_
      (conv => whnf); refine ldN (cs := setL e.set) ag70 (hbx.cells fun j v hv => edL_set e j v hv) (st7.in_ 4 rfl rfl).2 ?_
      (conv => whnf); refine pures (from_p e.set H7) fun H8 ha8 => ?_
      have st8 := st7.call ha8
      refine ⟨ha8, ?_⟩
      (conv => whnf); refine edgeD_build e ?_
      (conv => whnf); refine vbuild1 sl65 (edDL e) rfl (edDL_len e) (by decide) (by decide) ?_
      intro y H9 hy hs9 hb9 ha9
      have st9 := st8.skip hy ha9
      refine ⟨ha8.trans (ha9.mono fun k hk => by have := old_lt ha8 hk; omega), ?_⟩
      (conv => whnf); refine appO (ys := [e]) st9 3 sl65 rfl (hb9.cells (o := 0) (cs := edDL e) fun j v hv => by rw [Nat.zero_add]; exact hv) (Ty.reps_one ⟨rfl, hok⟩) rfl (fun u hu => List.all_eq_true.1 (edD_ones e) u hu) (by rw [htl]; simp; omega) (by decide) fun a9 c9 H10 st10 _ => ?_
      rw [htl] at st10 ⊢
      (conv => whnf); refine fa fl67_3 ?_
      (conv => whnf); refine st1B st10 2 ct65 rfl (show 3 < 4 by decide) rfl fun H11 st10 => ?_
      (conv => whnf); rw [w64 (x := (i : Int) + 1) (by omega) (by omega)]
      have ht : a.edges.take i ++ [e] = a.edges.take (i + 1) := (take_succ_snoc he).symm
      rw [ht] at st10
      exact ⟨rfl, i + 1, by simp, ⟨by omega, a9, c9, st10.pick [0, 1, 2, 3] (by decide)⟩, by omega⟩
    · obtain rfl : i = a.edges.length := by omega
      rw [List.take_length] at st
      (conv => whnf); refine ldN (cs := nfL a (.slice a' a.edges.length c')) ag67 ((st.blk 2 rfl).cells fun j v hv => by rw [Nat.zero_add]; exact hv) trivial ?_
      (conv => whnf); refine stNB (cs := nfL a (.slice a' a.edges.length c')) st 1 rfl rfl (Nat.le_refl _) rfl fun H7 st7 => ?_
      rw [splice_all (show (nfL a (.slice a' a.edges.length c')).length = 4 from rfl)] at st7
      (conv => whnf); refine ldN (cs := nfL a (.slice a' a.edges.length c')) ag67 ((st7.blk 1 rfl).cells fun j v hv => by rw [Nat.zero_add]; exact hv) trivial ?_
      exact ⟨st7.old, a', c', rfl, St.own st7 3 rfl⟩
end Go.Proofs.YthomdogheamfpaaDoor
/- Determinize of the program and of the document, for any budget: what the calls give. -/
set_option linter.unusedVariables false
set_option linter.unusedSimpArgs false
set_option maxRecDepth 100000
namespace Go.Proofs.YthomdogheamfpaaDoor
open Go.VC
attribute [local irreducible] mRun gRun atRun
/-- The error's number, or the sets. -/
noncomputable def detB (a : NfM) (b : Int) : Except Int (List (List Int)) := if b < 1 ∨ 4096 < b then .error 2 else match detN a b.toNat with
  | none => .error 40
  | some F => .ok F
theorem detB_bad {a : NfM} {b : Int} (h : b < 1 ∨ 4096 < b) : detB a b = .error 2 := by unfold detB; rw [if_pos h]
theorem detB_in {a : NfM} {b : Nat} (h1 : 1 ≤ b) (h2 : b ≤ 4096) : detB a (b : Int) = match detN a b with
  | none => .error 40
  | some F => .ok F := by
  unfold detB
  rw [if_neg (by omega), Int.toNat_natCast]
theorem detB_err {a : NfM} {b e : Int} (h : detB a b = .error e) : e ≠ 0 ∧ 0 ≤ e ∧ e ≤ 40 := by
  unfold detB at h
  split at h
  · injection h with h; omega
  · split at h
    · injection h with h; omega
    · cases h
theorem detB_ok {a : NfM} {b : Int} {F : List (List Int)} (h : detB a b = .ok F) : ∃ m : Nat, b = (m : Int) ∧ 1 ≤ m ∧ m ≤ 4096 ∧ detN a m = some F := by
  unfold detB at h
  split at h
  · cases h
  · rename_i hb
    refine ⟨b.toNat, by omega, by omega, by omega, ?_⟩
    split at h
    · cases h
    · rename_i F' hF
      injection h with h
      rw [hF, h]
def ProgOk (a : NfM) (F : List (List Int)) (H H' : Heap) (v : Value) : Prop := ∃ (o : AM), AutoV (fun k => H.size ≤ k ∧ k < H'.size) H' v (some o) ∧ Leads5 a F (stepM (some o)) (finM (some o)) ∧ stN (some o) = F.length
theorem detP_c {S : Nat → Prop} {H : Heap} {v : Value} {a : NfM} {b : Int} (hS : ∀ k, S k → k < H.size) (h : NfV S H v a) (hpow : PowH Tryd.prog H) :
    FnOk Tryd.prog 32 #[v, .int .i64 b] H fun r H' => Agr (Old H) H H' ∧ match detB a b with
      | .error e => r = .tuple #[.pointer none, .int .i64 e]
      | .ok F => ∃ v, r = .tuple #[v, .int .i64 0] ∧ ProgOk a F H H' v := by
  by_cases hb : b < 1 ∨ 4096 < b
  · rw [detB_bad hb]
    exact (determinizeBad_p h hb).mono fun r H' ⟨h1, h2⟩ => ⟨h2, h1⟩
  · obtain ⟨m, rfl⟩ := Int.eq_ofNat_of_zero_le (show 0 ≤ b by omega)
    rw [detB_in (by omega) (by omega)]
    refine (determinize_c hS h hpow (budget := m) (by omega) (by omega)).mono fun r H' ⟨h1, h2⟩ => ⟨h1, ?_⟩
    have hA := detA a (most := m) (by omega)
    cases hd : detF m (stepA a) (repsM (setsA a)) (begL a) with
    | none =>
      rw [hd] at h2 hA
      rw [← hA]
      exact h2
    | some q =>
      obtain ⟨F, rows⟩ := q
      rw [hd] at h2 hA
      rw [← hA]
      obtain ⟨v', rfl, hv⟩ := h2
      obtain ⟨k1, k2, k3⟩ := autoA (by omega) (by omega) hd
      rw [k1, if_pos rfl] at hv
      exact ⟨v', rfl, _, hv, k2, k3⟩
def DocOk (a : NfM) (F : List (List Int)) (H H' : Heap) (v : Value) : Prop := ∃ D : DM, DfaV (Fresh H H') H' v D ∧ D.Ok ∧ Leads5 a F (stepD D) (finD D) ∧ D.next.length = F.length
theorem detQ_c {S : Nat → Prop} {H : Heap} {v : Value} {a : NfM} {b : Int} (hS : ∀ k, S k → k < H.size) (h : NdV S H v a) :
    FnOk Tryd.prog 33 #[v, .int .i64 b] H fun r H' => Agr (Old H) H H' ∧ ∃ l : List Value, l.length = 259 ∧ l.all (·.oneCell') = true ∧ match detB a b with
      | .error e => r = .tuple #[.agg l.toArray, .int .i64 e]
      | .ok F => r = .tuple #[.agg l.toArray, .int .i64 0] ∧ DocOk a F H H' (.agg l.toArray) := by
  by_cases hb : b < 1 ∨ 4096 < b
  · rw [detB_bad hb]
    exact (detBadD_p h hb).mono fun r H' ⟨h1, l, h2, h3, h4⟩ => ⟨h1, l, h3, h4, h2⟩
  · obtain ⟨m, rfl⟩ := Int.eq_ofNat_of_zero_le (show 0 ≤ b by omega)
    rw [detB_in (by omega) (by omega)]
    refine (detD_c hS h (budget := m) (by omega) (by omega)).mono fun r H' ⟨h1, h2⟩ => ⟨h1, ?_⟩
    have hA := detD_ a (most := m) (by omega)
    cases hd : detF m (stepA a) (repD a) (begL a) with
    | none =>
      rw [hd] at h2 hA
      rw [← hA]
      obtain ⟨l, h3, h4, h5⟩ := h2
      exact ⟨l, h4, h5, h3⟩
    | some q =>
      obtain ⟨F, rows⟩ := q
      rw [hd] at h2 hA
      rw [← hA]
      obtain ⟨w, rfl, hv⟩ := h2
      obtain ⟨k1, k2, k3⟩ := autoD (by omega) (by omega) hd rfl
      have hv0 := hv
      obtain ⟨hl, ra, rc, na, nc, fa, fc, rfl, -, -, -⟩ := hv0
      exact ⟨_, dfaL_len hl, dfaL_ones rfl rfl rfl, rfl, _, hv, k1, k2, k3⟩
/-- The two alike. -/
theorem both5 {a : NfM} {F : List (List Int)} (hn : F.Nodup) {o : AM} {D : DM} (h1 : Leads5 a F (stepM (some o)) (finM (some o))) (h2 : Leads5 a F (stepD D) (finD D)) (n1 : stN (some o) = F.length) (n2 : D.next.length = F.length) (hfl : D.final.length = D.next.length) (hof : o.final.length = F.length) :
    (∀ (q : Int) (b : Nat), b < 256 → stepM (some o) q b = stepD D q b) ∧ ∀ q : Int, finM (some o) q = finD D q := by
  constructor
  · intro q b hb
    by_cases hq : q < 0 ∨ (F.length : Int) ≤ q
    · unfold stepM stepD
      rw [if_pos (by rw [n1]; exact hq), if_pos (by rw [n2]; exact hq)]
    · obtain ⟨m, rfl⟩ := Int.eq_ofNat_of_zero_le (show 0 ≤ q by omega)
      exact leads_uniq hn h1 h2 m b (by omega) hb
  · intro q
    by_cases hq : q < 0 ∨ (F.length : Int) ≤ q
    · have e1 : (decide (0 ≤ q) && (o.final[q.toNat]?).getD false) = false := by
        by_cases h0 : 0 ≤ q
        · rw [List.getElem?_eq_none (by omega)]; simp
        · rw [decide_eq_false h0]; rfl
      have e2 : (decide (0 ≤ q) && (D.final[q.toNat]?).getD false) = false := by
        by_cases h0 : 0 ≤ q
        · rw [List.getElem?_eq_none (by omega)]; simp
        · rw [decide_eq_false h0]; rfl
      show finM (some o) q = (decide (0 ≤ q) && (D.final[q.toNat]?).getD false)
      rw [e2]
      exact e1
    · obtain ⟨m, rfl⟩ := Int.eq_ofNat_of_zero_le (show 0 ≤ q by omega)
      exact leads_fin h1 h2 m (by omega)
theorem detN_len {a : NfM} {m : Nat} {F : List (List Int)} (hm : 1 ≤ m) (h : detN a m = some F) : 1 ≤ F.length ∧ F.length ≤ m ∧ F.Nodup ∧ F[0]? = some (begL a) := detW_len hm h
end Go.Proofs.YthomdogheamfpaaDoor
/- The law DfaOrder: its walk. -/
set_option linter.unusedVariables false
set_option linter.unusedSimpArgs false
set_option maxRecDepth 100000
namespace Go.Proofs.YthomdogheamfpaaDoor
open Go.VC
attribute [local irreducible] mRun gRun atRun
theorem nodup_at {K : Type} {F : List K} (hn : F.Nodup) {i j : Nat} {x : K} (hi : F[i]? = some x) (hj : F[j]? = some x) : i = j := by
  obtain ⟨h1, e1⟩ := List.getElem?_eq_some_iff.1 hi
  obtain ⟨h2, e2⟩ := List.getElem?_eq_some_iff.1 hj
  rcases Nat.lt_trichotomy i j with h | h | h
  · exact absurd (e1.trans e2.symm) (List.pairwise_iff_getElem.1 hn i j h1 h2 h)
  · exact h
  · exact absurd (e2.trans e1.symm) (List.pairwise_iff_getElem.1 hn j i h2 h1 h)
/-- One step of the walk over all bytes. -/
theorem order_step {a : NfM} {F f : List (List Int)} {x : List Int} {f' : List (List Int)} {row : List Nat} {f1 : List (List Int)} {row1 : List Nat} {b : Nat} (hb : b < 256) (hn : F.Nodup) (hl : f.length ≤ 4096) (hnf : f.Nodup) (ht : (List.range 256).foldl (rowF 4096 (stepA a) x) (some (f, [])) = some (f1, row1)) (h1 : f1 <+: F)
    (h : (List.range b).foldl (rowF 4096 (stepA a) x) (some (f, [])) = some (f', row)) {t : Nat} (hF : F[t]? = some (stepA a x b)) :
    ∃ f2 row2, (List.range (b + 1)).foldl (rowF 4096 (stepA a) x) (some (f, [])) = some (f2, row2) ∧ f2 <+: F ∧ t ≤ f'.length ∧ f2.length = if t = f'.length then f'.length + 1 else f'.length := by
  obtain ⟨g1, g2, -, -⟩ := row_pre _ f f' [] row h hl hnf
  have e1 : (List.range (b + 1)).foldl (rowF 4096 (stepA a) x) (some (f, [])) = (atF 4096 f' (stepA a x b)).map fun r => (r.1, row ++ [r.2]) := by
    rw [List.range_succ, List.foldl_append, h]
    rfl
  have e2 : (List.range 256) = List.range (b + 1) ++ ((List.range 256).drop (b + 1)) := by
    conv => lhs; rw [← List.take_append_drop (b + 1) (List.range 256)]
    rw [List.take_range, Nat.min_eq_left (by omega)]
  rw [e2, List.foldl_append, e1] at ht
  cases ha : atF 4096 f' (stepA a x b) with
  | none => rw [ha, Option.map_none, rowF_none] at ht; cases ht
  | some p =>
    obtain ⟨f2, i⟩ := p
    rw [ha] at ht e1
    obtain ⟨k1, k2, k3, k4⟩ := atF_some ha g1 g2
    have k5 := (row_pre _ f2 f1 _ row1 ht k2 k3).2.2.1
    have hti : t = i := nodup_at hn hF (pre_get (k5.trans h1) k1)
    subst hti
    refine ⟨f2, _, e1, k5.trans h1, ?_⟩
    unfold atF at ha
    cases hf : f'.findIdx? (· = stepA a x b) with
    | some j =>
      rw [hf] at ha
      injection ha with ha
      injection ha with h2 h3
      subst h2; subst h3
      have := (List.findIdx?_eq_some_iff_getElem.1 hf).1
      exact ⟨by omega, by rw [if_neg (by omega)]⟩
    | none =>
      rw [hf] at ha
      simp only at ha
      split at ha
      · injection ha with ha
        injection ha with h2 h3
        subst h2; subst h3
        exact ⟨Nat.le_refl _, by rw [if_pos rfl]; simp⟩
      · cases ha
set_option maxHeartbeats 16000000 in
theorem dfaOrder_p (v : Value) (a : NfM) (S : Nat → Prop) (H : Heap) (hS : ∀ k, S k → k < H.size) (h : NfV S H v a) (hpow : PowH Tryd.prog H) :
    Pure Tryd.prog 11 #[v] H (.bool true) := by
  have hr := h.1
  have hl := h.2.1
  refine FnOk.of_vc Tryd.func11 rfl (Tryd.call11 _) ?_
  (conv => whnf); refine nf_box h fun ea ec he h1 => ?_
  subst he
  intro p H1 hp hs1 hb1 ha1
  have st1 := (St.nil H).box hp hs1 hb1 ha1
  (conv => whnf); refine pures (speaks_p H1) fun H2 ha2 => ?_
  have st2 := st1.call ha2
  (conv => whnf); refine nf_load hr hl (st2.blk 0 rfl) ag55 trivial (h1.frame (st2.old.mono hS)) fun v2 hv2 => ?_
  (conv => whnf); refine VCall.mk (machine05_c (fun k hk => st2.up (hS k hk)) hv2) ?_
  rintro _ H3 ⟨ha3, a3, c3, rfl, hw3⟩
  obtain ⟨a3', c3', e3, st3⟩ := st2.got ha3 hw3
  injection e3 with e31 e32 e33
  subst e31; subst e33
  (conv => whnf); refine VCall.mk (detP_c (b := 4096) (S := Old H3) (fun k hk => hk) ⟨hr, hl, a3, c3, rfl, st3.view 1 rfl⟩ (hpow.agr st3.old)) ?_
  rintro r4 H4 ⟨ha4, hr4⟩
  have st4 := st3.call ha4
  cases hd : detB a 4096 with
  | error e =>
    rw [hd] at hr4
    simp only at hr4
    subst hr4
    have hee := detB_err hd
    have d1 : (e != 0) = true := by simpa using hee.1
    (conv => whnf); rw [d1]
    (conv => whnf); refine nf_load hr hl (st4.blk 0 rfl) ag55 trivial (h1.frame (st4.old.mono hS)) fun v5 hv5 => ?_
    (conv => whnf); refine VCall.mk (doc05_c (fun k hk => st4.up (hS k hk)) hv5) ?_
    rintro _ H6 ⟨ha6, a6, c6, rfl, hw6⟩
    obtain ⟨a6', c6', e6, st6⟩ := st4.got ha6 hw6
    injection e6 with e61 e62 e63
    subst e61; subst e63
    (conv => whnf); refine VCall.mk (detQ_c (b := 4096) (S := Old H6) (fun k hk => hk) ⟨hr, hl, a6, c6, rfl, st6.view 2 rfl⟩) ?_
    rintro r7 H7 ⟨ha7, l, hl7, ho7, hr7⟩
    rw [hd] at hr7
    simp only at hr7
    subst hr7
    have st7 := st6.call ha7
    (conv => whnf); refine valloc _ zD rfl (by kernel_rfl) ?_
    intro p8 H8 hp8 hs8 hb8 ha8
    have st8 := st7.box hp8 hs8 hb8 ha8
    (conv => whnf); refine stNB (cs := l) st8 3 (by rw [hl7]; rfl) rfl (by rw [hl7]; decide) ho7 fun H9 st9 => ?_
    (conv => whnf); refine peqN ptrA ?_
    have d2 : (e == e) = true := by simp
    (conv => whnf); rw [d2]
    (conv => whnf)
    exact ⟨rfl, st9.old⟩
  | ok F =>
    rw [hd] at hr4
    obtain ⟨v5, rfl, o, hv5, hL, hn5⟩ := hr4
    obtain ⟨m, hm0, hm1, hm2, hdet⟩ := detB_ok hd
    obtain rfl : m = 4096 := by omega
    obtain ⟨hF1, hF2, hFn, hF0⟩ := detN_len (by decide) hdet
    have hdet2 := hdet
    unfold detN detW at hdet2
    cases hdf : detF 4096 (stepA a) (List.range 256) (begL a) with
    | none => rw [hdf] at hdet2; cases hdet2
    | some q =>
    obtain ⟨G, rowsT⟩ := q
    rw [hdf] at hdet2
    simp only [Option.map_some, Option.some.injEq] at hdet2
    rw [hdet2] at hdf
    have hrowsT : rowsF 4096 (stepA a) (List.range 256) (begL a) 4096 = some (F, rowsT) := hdf
    have hF : ∀ {H' : Heap}, Agr (Old H4) H4 H' → AutoV (fun k => H3.size ≤ k ∧ k < H4.size) H' v5 (some o) := fun h => hv5.frame (h.mono fun k hk => hk.2)
    have up : ∀ {H' : Heap}, Agr (Old H4) H4 H' → ∀ k, (H3.size ≤ k ∧ k < H4.size) → k < H'.size := fun h k hk => old_lt h hk.2
    have tr : ∀ {H2 H' : Heap}, Agr (Old H4) H4 H2 → Agr (Old H2) H2 H' → Agr (Old H4) H4 H' := fun h k => h.trans (k.mono fun j hj => old_lt h hj)
    (conv => whnf)
    refine VLoop.mk [7, 8] (fun x : Nat × Nat => match x with | (kn, q) => [.int .i64 (kn : Int), .int .i64 (q : Int)]) (fun x H5 => match x with | (kn, q) => ∃ f rows, rowsF 4096 (stepA a) (List.range 256) (begL a) q = some (f, rows) ∧ kn = f.length ∧ f <+: F ∧ q ≤ f.length ∧ Agr (Old H4) H4 H5) (fun x _ => 4096 - x.2) ?_ ?_
    · (conv => whnf)
      refine ⟨(1, 0), rfl, [begL a], [], rfl, rfl, ?_, Nat.zero_le _, Agr.refl _ _⟩
      obtain ⟨f1, rows1, e1, e2⟩ := rows_pre (most := 4096) (by decide) 4096 0 F rowsT (by rw [Nat.zero_add]; exact hrowsT)
      simp only [rowsF, Option.some.injEq, Prod.mk.injEq] at e1
      rw [e1.1]
      exact e2
    · rintro ⟨kn, q⟩ H5 junk5 ⟨f, rows, hrun, rfl, hpre, hq, ha5⟩
      have hple := hpre.length_le
      obtain ⟨i1, i2, -, -⟩ := rows_inv (P := fun _ => True) (by decide) trivial (fun _ _ _ => trivial) _ q f rows hrun
      by_cases hqk : q < f.length
      · have d1 : decide ((q : Int) < (f.length : Int)) = true := decide_eq_true (by omega)
        have d2 : decide ((q : Int) < 4096) = true := decide_eq_true (by omega)
        obtain ⟨x, hx⟩ := get_some hqk
        have hxF := pre_get hpre hx
        obtain ⟨f1, rows1, hrun1, hpre1⟩ := rows_pre (most := 4096) (by decide) (4096 - (q + 1)) (q + 1) F rowsT (by rw [show q + 1 + (4096 - (q + 1)) = 4096 by omega]; exact hrowsT)
        have hrun1' := hrun1
        simp only [rowsF] at hrun1
        rw [hrun] at hrun1
        simp only [Option.bind_some] at hrun1
        rw [hx] at hrun1
        simp only at hrun1
        cases hfl : (List.range 256).foldl (rowF 4096 (stepA a) x) (some (f, [])) with
        | none => rw [hfl] at hrun1; cases hrun1
        | some z =>
        obtain ⟨f1', row1⟩ := z
        rw [hfl] at hrun1
        simp only [Option.map_some, Option.some.injEq, Prod.mk.injEq] at hrun1
        obtain ⟨rfl, rfl⟩ := hrun1
        (conv => whnf); rw [d1]
        (conv => whnf); rw [d2]
        (conv => whnf)
        refine VLoop.mk [7, 9] (fun x : Nat × Nat => match x with | (kn, b) => [.int .i64 (kn : Int), .int .i64 (b : Int)]) (fun y H6 => match y with | (kn, b) => b ≤ 256 ∧ (∃ f' row, (List.range b).foldl (rowF 4096 (stepA a) x) (some (f, [])) = some (f', row) ∧ kn = f'.length ∧ f' <+: F) ∧ Agr (Old H4) H4 H6) (fun y _ => 256 - y.2) ?_ ?_
        · (conv => whnf)
          exact ⟨(f.length, 0), rfl, by decide, ⟨f, [], rfl, rfl, hpre⟩, ha5⟩
        · rintro ⟨kn, b⟩ H6 junk6 ⟨hb, ⟨f', row, hfold, rfl, hpre'⟩, ha6⟩
          have hple' := hpre'.length_le
          (conv => whnf); refine VIte.mk (fun hz => ?_) (fun hz => ?_) <;> simp only [decide_eq_true_eq, decide_eq_false_iff_not] at hz
          · have hb8 : b < 256 := by omega
            obtain ⟨t, ht, hFt⟩ := hL.st q b x hxF hb8
            obtain ⟨f2, row2, s1, s2, s3, s4⟩ := order_step hb8 hFn i1 i2 hfl hpre1 hfold hFt
            (conv => whnf); refine VSeq.run ?_
            (conv => whnf); rw [wrap_in (k := .u8) (inU8 (x := b) hb8)]
            (conv => whnf); refine pures (step_p (up ha6) (hF ha6) hb8) fun H7 ha7 => ?_
            rw [ht]
            have d3 : decide ((t : Int) < 0) = false := decide_eq_false (by omega)
            have d4 : decide ((f'.length : Int) < (t : Int)) = false := decide_eq_false (by omega)
            (conv => whnf); rw [d3]
            (conv => whnf); rw [d4]
            by_cases htk : t = f'.length
            · have d5 : ((t : Int) == (f'.length : Int)) = true := by rw [htk]; simp
              rw [if_pos htk] at s4
              (conv => whnf); rw [d5]
              (conv => whnf); rw [w64 (x := (f'.length : Int) + 1) (by omega) (by omega)]
              (conv => whnf); rw [w64 (x := (b : Int) + 1) (by omega) (by omega)]
              exact ⟨rfl, (f'.length + 1, b + 1), by simp, ⟨by omega, ⟨f2, row2, s1, s4.symm, s2⟩, tr ha6 ha7⟩, by simp only; omega⟩
            · have d5 : ((t : Int) == (f'.length : Int)) = false := beq_eq_false_iff_ne.2 (by omega)
              rw [if_neg htk] at s4
              (conv => whnf); rw [d5]
              (conv => whnf); rw [w64 (x := (b : Int) + 1) (by omega) (by omega)]
              exact ⟨rfl, (f'.length, b + 1), by simp, ⟨by omega, ⟨f2, row2, s1, s4.symm, s2⟩, tr ha6 ha7⟩, by simp only; omega⟩
          · obtain rfl : b = 256 := by omega
            rw [hfl] at hfold
            injection hfold with hfold
            injection hfold with e1 e2
            subst e1
            have hqf : q + 1 ≤ f1'.length := by
              have := (row_pre _ f f1' [] row1 hfl i1 i2).2.2.1.length_le
              omega
            (conv => whnf); rw [w64 (x := (q : Int) + 1) (by omega) (by omega)]
            exact ⟨rfl, (f1'.length, q + 1), by simp, ⟨f1', _, hrun1', rfl, hpre1, hqf, ha6⟩, by simp only; omega⟩
      · have d1 : decide ((q : Int) < (f.length : Int)) = false := decide_eq_false (by omega)
        have hst := rowsF_stop hrun (by omega) 4096 (by omega)
        rw [hrowsT] at hst
        injection hst with hst
        injection hst with e1 e2
        subst e1
        (conv => whnf); rw [d1]
        (conv => whnf); refine pures (states_p (hF ha5)) fun H7 ha7 => ?_
        rw [hn5]
        have d5 : ((F.length : Int) == (F.length : Int)) = true := by simp
        (conv => whnf); rw [d5]
        exact ⟨rfl, st4.old.trans ((tr ha5 ha7).mono fun k hk => st4.up hk)⟩
end Go.Proofs.YthomdogheamfpaaDoor
/- The library's table of powers, out of a row's list. -/
set_option linter.unusedVariables false
set_option maxRecDepth 100000
namespace Go.Proofs.YthomdogheamfpaaDoor
open Go.VC Go.Lib
theorem pow_g : Tryd.prog.globalNamed powN = some 1 := by kernel_rfl
theorem pow_gt : (Tryd.prog.globals[1]?).map (·.type) = some 225 := by kernel_rfl
theorem pow_c : Tryd.prog.cellsOf 225 = 20 := by kernel_rfl
theorem pow_c1 : Tryd.prog.cellsOf 69 = 1 := by kernel_rfl
theorem pow_data : (Rows.laid_internal_strconv_uint64pow10 : DataW Unit) = tabData .u64 pow10Tab := by kernel_rfl
theorem pow_of_laid {W : World} (h : laidMetH Tryd.prog Rows.dfaOrderUptoRow.laid W) : PowH Tryd.prog W.heap := by
  have hW : TabIs Tryd.prog W powN .u64 pow10Tab := by
    obtain ⟨ps, ⟨g0, t0, cs0, f0, p0, q0, hg0, ht0, hv0, hd0, ⟨g1, t1, cs1, f1, p1, q1, hg1, ht1, hv1, hd1, ⟨g2, t2, cs2, f2, p2, q2, hg2, ht2, hv2, hd2, -, -⟩, -⟩, -⟩, -⟩ := h
    obtain rfl := Option.some.inj (pow_g.symm.trans hg2)
    obtain rfl := Option.some.inj (pow_gt.symm.trans ht2)
    rw [pow_data] at hd2
    unfold TabIs
    rw [hv2, ← cells_of_tab Tryd.underlying225 Tryd.underlying69 pow_c1 pow_c hd2]
  intro w hw
  exact var_agr hW fun k _ => by rw [hw]
end Go.Proofs.YthomdogheamfpaaDoor
/- A world for the witness: the tables of the library hold what their initialisers lay. -/
set_option linter.unusedVariables false
set_option maxRecDepth 100000
namespace Go.Proofs.YthomdogheamfpaaDoor
open Go.VC Go.Lib
def tab32 : List Int := [0, 1, 28, 2, 29, 14, 24, 3, 30, 22, 20, 15, 25, 17, 4, 8, 31, 27, 13, 23, 21, 19, 16, 7, 26, 12, 18, 6, 11, 5, 10, 9]
def tab32V : Array Value := (tab32.map (Value.int .u8)).toArray
def tab64 : List Int := [0, 1, 56, 2, 57, 49, 28, 3, 61, 58, 42, 50, 38, 29, 17, 4, 62, 47, 59, 36, 45, 43, 51, 22, 53, 39, 33, 30, 24, 18, 12, 5, 63, 55, 48, 27, 60, 41, 37, 16, 46, 35, 44, 21, 52, 32, 23, 11, 54, 26, 40, 15, 34, 20, 31, 10, 25, 14, 19, 9, 13, 8, 7, 6]
def tab64V : Array Value := (tab64.map (Value.int .u8)).toArray
def tabP10 : List Int := [1, 10, 100, 1000, 10000, 100000, 1000000, 10000000, 100000000, 1000000000, 10000000000, 100000000000, 1000000000000, 10000000000000, 100000000000000, 1000000000000000, 10000000000000000, 100000000000000000, 1000000000000000000, 10000000000000000000]
def tabP10V : Array Value := (tabP10.map (Value.int .u64)).toArray
def putTab (vs : Array Value) : Obj → Obj
  | .cells _ t frozen => .cells vs t frozen
  | o => o
noncomputable def laidW (os : Os) : World :=
  { World.holding Tryd.prog os ⟨#[], #[], []⟩ with heap := (((World.holding Tryd.prog os ⟨#[], #[], []⟩).heap.modify 3 (putTab tab32V)).modify 4 (putTab tab64V)).modify 1 (putTab tabP10V) }
end Go.Proofs.YthomdogheamfpaaDoor
set_option linter.unusedVariables false
set_option linter.unusedSimpArgs false
namespace Go.Proofs.YthomdogheamfpaaDoor
open Go.ChangeShapes Go.WideShapes Go.ChangeAt Go.RowKit
open Go.ChangeMaps (open_string)
open Go.VC

theorem dfaOrder_met (os : Os) : laidMet Tryd.prog Rows.dfaOrderUptoRow.laid ((laidW os).forCall (fun _ _ => 0) ⟨#[], #[.agg #[.int .i64 0, .int .i64 0, .int .i64 0, .slice none 0 0]], []⟩).memory :=
  laidMet_of_run' 100 (by kernel_rfl) (by kernel_rfl)
theorem dfaOrder_reads (os : Os) {H : Type} (enc : TypeId × Value → H) : ∃ places, DataW.whole enc Tryd.prog ((laidW os).forCall (fun _ _ => 0) ⟨#[], #[.agg #[.int .i64 0, .int .i64 0, .int .i64 0, .slice none 0 0]], []⟩).memory Tryd.f11.params.toList (Rows.OpenSpec.upto Rows.dfaOrderSpec).bare.plain.vars false (#[.agg #[.int .i64 0, .int .i64 0, .int .i64 0, .slice none 0 0]] : Array Value).toList 8 = some ([.agg [.lit (.int .i64 0), .lit (.int .i64 0), .lit (.int .i64 0), .nil]], [], places) :=
  ⟨[], by kernel_rfl⟩
set_option maxRecDepth 100000 in
theorem dfaOrder_lifted (os : Os) (started : os.Started) (H : Type) (enc : TypeId × Value → H) (F : Stop.Interp) :
    ReturnsInHanded {} Tryd.checked os 11 .any ((Rows.OpenSpec.upto Rows.dfaOrderSpec).preRow enc Tryd.prog Tryd.f11 Rows.dfaOrderUptoRow.domain false Rows.dfaOrderUptoRow.laid) (((Rows.OpenSpec.upto Rows.dfaOrderSpec).at F).post enc Tryd.prog Tryd.f11 false true false false) := by
  obtain ⟨places, hx⟩ := dfaOrder_reads os enc
  refine returnsInHanded_of_row (C := Tryd.checked) (s := Rows.OpenSpec.upto Rows.dfaOrderSpec) own_ started (by kernel_rfl) Tryd.func11
    (witness_row_at (enc := enc) (C := Tryd.checked) false (laidW os) #[.agg #[.int .i64 0, .int .i64 0, .int .i64 0, .slice none 0 0]] rfl (by kernel_rfl) (by kernel_rfl) (by kernel_rfl)
      (OpenSpec.preRow_of_cond 8 hx (by kernel_rfl) (fun k hk => by cases hk; kernel_rfl) (by kernel_rfl) (dfaOrder_met os))) ?_
  intro W base args ds gs before hval0 hW _ hcond _ hL _ _
  have hk := hcond _ rfl
  have hval : ∀ (j : Nat) t v, Tryd.f11.params[j]? = some t → args[j]? = some v → Value.okWide Tryd.prog W .any base t v := hval0
  have hW' := hW
  obtain ⟨p, q, hA0, hV, rfl, hfz, hnd⟩ := hW
  have hA : DataW.TrodAll enc Tryd.prog W 0 (fun _ => true) true [55] args.toList ds p := hA0
  obtain ⟨v0, vs0, d0, ds0, p0, q0, e0, rfl, rfl, h0, r0⟩ := trodAll_cons hA
  obtain ⟨rfl, rfl, rfl⟩ := trodAll_nil r0
  obtain rfl : args = #[v0] := by cases args; simp_all
  obtain ⟨rfl, rfl⟩ := trodVars_none hV
  have hb := small_of hk
  simp only [List.append_nil, Rows.uptoBulkAll, Rows.uptoBulk, Array.length_toList] at hb
  obtain ⟨a0, hnet0, hz0⟩ := open_net5 (hval 0 _ v0 rfl rfl) h0 (by omega)
  refine ((dfaOrder_p v0 a0 (InW W) W.heap (fun k hk => hk) hnet0 (pow_of_laid hL)) W rfl).2.mono fun e W' ⟨v, he, henv, hv, hag⟩ => ?_
  subst he; subst hv
  exact ⟨_, rfl, post_true hW' rfl ⟨rfl, rfl, rfl⟩ laid_ (by kernel_rfl) rfl Tryd.underlying4 henv hag⟩

theorem dfaOrder_said : Rows.DfaOrderUptoSaid :=
  OpenClaim.holds_of_cond 11 Tryd.f11 rfl rfl rfl rfl rfl rfl rfl ⟨rfl, rfl, rfl, rfl, rfl⟩ rfl rfl rfl rfl rfl (by kernel_rfl) Tryd.func11 (by kernel_rfl)
    (of_decide_eq_true (by kernel_rfl)) (by unfold Func.isWrapper; first | (rw [if_pos (by decide +kernel)]; kernel_rfl) | (rw [if_neg (by decide +kernel)]; exact ⟨rfl, rfl⟩))
    (fun os started H enc _ F => by rw [OpenClaim.pre_eq_preRow]; exact dfaOrder_lifted os started H enc F)

theorem dfaOrder_plain (f : FuncId) (fn : Func) (hf : Tryd.pinned.checked.prog.funcNamed "loupe/loupelaw05.DfaOrder" = some f) (hfn : Tryd.pinned.checked.prog.funcs[f]? = some fn) :
    false = Tryd.pinned.checked.prog.looks [] ∧ ∀ (j : Nat) t, fn.params[j]? = some t → Tryd.pinned.checked.prog.wantsStandIn t = false := by
  obtain rfl : f = 11 := Option.some.inj ((show Tryd.prog.funcNamed "loupe/loupelaw05.DfaOrder" = some 11 by kernel_rfl).symm.trans hf) |>.symm
  obtain rfl : fn = Tryd.f11 := (Option.some.inj (Tryd.func11.symm.trans hfn)).symm
  refine ⟨by kernel_rfl, fun j t ht => ?_⟩
  have ht : (#[55] : Array TypeId)[j]? = some t := ht
  have hm := Array.mem_of_getElem? ht
  simp only [List.mem_toArray, List.mem_cons, List.not_mem_nil, or_false] at hm
  subst hm
  exact (show Tryd.prog.wantsStandIn 55 = false by kernel_rfl)
theorem dfaOrder_holds : Rows.DfaOrderUptoCardSaid :=
  Claim7.holds_tied_plain_at .later [] _ _ _ _ dfaOrder_said (fun _ h => by cases h) (by kernel_rfl) (fun _ h => by cases h) dfaOrderUpto_row_tie rfl ⟨rfl, rfl⟩ (by kernel_rfl) rfl dfaOrder_plain (by kernel_rfl)

#print axioms dfaOrder_holds
end Go.Proofs.YthomdogheamfpaaDoor
