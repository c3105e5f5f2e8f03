/- Parts of the proof: PMin1, PMin2, PMin3, PMin4, PMin5, PMin6, PMin7, PMin8, PCan7, PSame7, PCan8, PCan9, PMet1, PBfsG, PAut09, PSpk, PMet2, PTab1, PDec, PMin9 -/
import Derived.Test.YthomdogheamfpaaDoorKN4
import Derived.Test.YthomdogheamfpaaDoorKN2
import Derived.Test.YthomdogheamfpaaDoorKN3
/- Least automata: the plain law: rounds of telling apart; classes in the order in which they're found. -/
set_option linter.unusedVariables false
set_option linter.unusedSimpArgs false
set_option maxRecDepth 100000
namespace Go.Proofs.YthomdogheamfpaaDoor
open Go.VC
/-! ### lists without doubles -/
theorem snocInd {α : Type} {P : List α → Prop} (h0 : P []) (hs : ∀ (l : List α) (x : α), P l → P (l ++ [x])) (l : List α) : P l := by
  have key : ∀ m : List α, P m.reverse := fun m => by
    induction m with
    | nil => exact h0
    | cons x m ih => rw [List.reverse_cons]; exact hs _ x ih
  have := key l.reverse
  rwa [List.reverse_reverse] at this
section
variable {K : Type} [DecidableEq K]
def dd (l : List K) : List K := l.foldl (fun f k => if k ∈ f then f else f ++ [k]) []
theorem dd_snoc (l : List K) (k : K) : dd (l ++ [k]) = if k ∈ dd l then dd l else dd l ++ [k] := by
  unfold dd
  rw [List.foldl_append]
  rfl
theorem dd_nd (l : List K) : (dd l).Nodup := by
  induction l using snocInd with
  | h0 => exact List.nodup_nil
  | hs l k ih =>
    rw [dd_snoc]
    split
    · exact ih
    · rename_i h
      exact List.nodup_append.2 ⟨ih, by simp, fun x hx y hy e => by rw [List.mem_singleton] at hy; subst hy; subst e; exact h hx⟩
theorem dd_mem (l : List K) (k : K) : k ∈ dd l ↔ k ∈ l := by
  induction l using snocInd with
  | h0 => exact Iff.rfl
  | hs l x ih =>
    rw [dd_snoc, List.mem_append, List.mem_singleton, ← ih]
    split
    · rename_i h
      constructor
      · exact .inl
      · rintro (h1 | rfl)
        · exact h1
        · exact h
    · rw [List.mem_append, List.mem_singleton]
theorem dd_pre (l m : List K) : dd l <+: dd (l ++ m) := by
  induction m using snocInd with
  | h0 => rw [List.append_nil]; exact List.prefix_refl _
  | hs m k ih =>
    rw [← List.append_assoc, dd_snoc]
    split
    · exact ih
    · exact ih.trans (List.prefix_append _ _)
theorem dd_len (l : List K) : (dd l).length ≤ l.length := by
  induction l using snocInd with
  | h0 => exact Nat.le_refl _
  | hs l k ih =>
    rw [dd_snoc, List.length_append, List.length_singleton]
    split
    · omega
    · rw [List.length_append, List.length_singleton]; omega
/-- The place of a thing among those found. -/
def ixF (f : List K) (k : K) : Nat := f.findIdx (· = k)
theorem ixF_lt {f : List K} {k : K} (h : k ∈ f) : ixF f k < f.length := by
  unfold ixF
  exact List.findIdx_lt_length_of_exists ⟨k, h, by simp⟩
theorem ixF_get {f : List K} {k : K} (h : k ∈ f) : f[ixF f k]? = some k := by
  have hlt := ixF_lt h
  rw [List.getElem?_eq_getElem hlt]
  have : decide (f[ixF f k] = k) = true := List.findIdx_getElem (p := fun x => decide (x = k)) (xs := f) (w := hlt)
  rw [of_decide_eq_true this]
theorem ixF_inj {f : List K} {k m : K} (hk : k ∈ f) (hm : m ∈ f) (h : ixF f k = ixF f m) : k = m := by
  have h1 := ixF_get hk
  have h2 := ixF_get hm
  rw [h, h2] at h1
  exact (Option.some.inj h1).symm
theorem ixF_pre {f g : List K} {k : K} (h : f <+: g) (hk : k ∈ f) : ixF g k = ixF f k := by
  obtain ⟨t, rfl⟩ := h
  unfold ixF
  rw [List.findIdx_append]
  have := ixF_lt hk
  unfold ixF at this
  rw [if_pos this]
theorem ixF_at {f : List K} (hn : f.Nodup) {i : Nat} {k : K} (h : f[i]? = some k) : ixF f k = i := by
  have hm := List.mem_of_getElem? h
  have h1 := ixF_get hm
  obtain ⟨a1, e1⟩ := List.getElem?_eq_some_iff.1 h
  obtain ⟨a2, e2⟩ := List.getElem?_eq_some_iff.1 h1
  rcases Nat.lt_trichotomy (ixF f k) i with h | h | h
  · exact absurd (e2.trans e1.symm) (List.pairwise_iff_getElem.1 hn _ _ a2 a1 h)
  · exact h
  · exact absurd (e1.trans e2.symm) (List.pairwise_iff_getElem.1 hn _ _ a1 a2 h)
theorem ixF_new {f : List K} {k : K} (h : k ∉ f) : ixF (f ++ [k]) k = f.length := by
  unfold ixF
  have e1 : f.findIdx (fun x => decide (x = k)) = f.length := List.findIdx_eq_length_of_false fun x hx => decide_eq_false fun e => h (by rw [← e]; exact hx)
  rw [List.findIdx_append, e1]
  simp
end
/-! ### rounds -/
/-- An automaton, plain. -/
structure PA where
  n : Nat
  st : Nat → Nat → Nat
  fi : Nat → Bool
structure PA.Ok (M : PA) : Prop where
  pos : 0 < M.n
  cl : ∀ q b, q < M.n → b < 256 → M.st q b < M.n
def PA.run (M : PA) (q : Nat) (w : List Nat) : Nat := w.foldl M.st q
def bytes5 (w : List Nat) : Prop := ∀ b ∈ w, b < 256
/-- No word tells them apart. -/
def PA.Eqv (M : PA) (p q : Nat) : Prop := ∀ w, bytes5 w → M.fi (M.run p w) = M.fi (M.run q w)
theorem PA.Eqv.fi {M : PA} {p q : Nat} (h : M.Eqv p q) : M.fi p = M.fi q := h [] (fun b hb => by cases hb)
theorem PA.Eqv.st {M : PA} {p q b : Nat} (h : M.Eqv p q) (hb : b < 256) : M.Eqv (M.st p b) (M.st q b) := fun w hw => h (b :: w) fun x hx => by
  rcases List.mem_cons.1 hx with rfl | hx
  · exact hb
  · exact hw x hx
/-- Some bytes that stand for all. -/
structure Reps (M : PA) (by_ : List Nat) : Prop where
  lt : ∀ b ∈ by_, b < 256
  cov : ∀ b, b < 256 → ∃ g ∈ by_, g ≤ b ∧ ∀ q, q < M.n → M.st q g = M.st q b
/-- A list of states that steps don't leave. -/
structure Closed (M : PA) (l : List Nat) : Prop where
  lt : ∀ q ∈ l, q < M.n
  st : ∀ q ∈ l, ∀ b, b < 256 → M.st q b ∈ l
section
variable {M : PA} {by_ l : List Nat} {P : Nat → Nat}
def keyR (M : PA) (by_ : List Nat) (P : Nat → Nat) (q : Nat) : List Nat := P q :: by_.map fun b => P (M.st q b)
def found (M : PA) (by_ l : List Nat) (P : Nat → Nat) : List (List Nat) := dd (l.map (keyR M by_ P))
def refine_ (M : PA) (by_ l : List Nat) (P : Nat → Nat) (q : Nat) : Nat := ixF (found M by_ l P) (keyR M by_ P q)
theorem refine_iff {p q : Nat} (hp : p ∈ l) (hq : q ∈ l) : refine_ M by_ l P p = refine_ M by_ l P q ↔ P p = P q ∧ ∀ b ∈ by_, P (M.st p b) = P (M.st q b) := by
  have m1 : keyR M by_ P p ∈ found M by_ l P := (dd_mem _ _).2 (List.mem_map.2 ⟨p, hp, rfl⟩)
  have m2 : keyR M by_ P q ∈ found M by_ l P := (dd_mem _ _).2 (List.mem_map.2 ⟨q, hq, rfl⟩)
  constructor
  · intro h
    have e := ixF_inj m1 m2 h
    unfold keyR at e
    simp only [List.cons.injEq] at e
    exact ⟨e.1, fun b hb => by
      have := List.map_inj_left.1 e.2 b hb
      exact this⟩
  · rintro ⟨h1, h2⟩
    have e : keyR M by_ P p = keyR M by_ P q := by
      unfold keyR
      rw [h1, List.map_congr_left h2]
    unfold refine_
    rw [e]
theorem refine_lt {q : Nat} (hq : q ∈ l) : refine_ M by_ l P q < (found M by_ l P).length := ixF_lt ((dd_mem _ _).2 (List.mem_map.2 ⟨q, hq, rfl⟩))
/-- How many classes there are. -/
def cls (l : List Nat) (P : Nat → Nat) : Nat := (dd (l.map P)).length
theorem sub_len {K : Type} [DecidableEq K] {a b : List K} (ha : a.Nodup) (h : ∀ x ∈ a, x ∈ b) : a.length ≤ b.length := by
  induction a generalizing b with
  | nil => exact Nat.zero_le _
  | cons x a ih =>
    obtain ⟨h1, h2⟩ := List.nodup_cons.1 ha
    have hx := h x (by simp)
    have := ih (b := b.erase x) h2 fun y hy => (List.mem_erase_of_ne (fun e => h1 (by rw [← e]; exact hy))).2 (h y (List.mem_cons_of_mem _ hy))
    rw [List.length_erase_of_mem hx] at this
    have := List.length_pos_of_mem hx
    simp only [List.length_cons]; omega
theorem refine_cls : cls l (refine_ M by_ l P) = (found M by_ l P).length := by
  unfold cls
  have h1 : ∀ x, x ∈ dd (l.map (refine_ M by_ l P)) ↔ x ∈ List.range (found M by_ l P).length := fun x => by
    rw [dd_mem, List.mem_map, List.mem_range]
    constructor
    · rintro ⟨q, hq, rfl⟩; exact refine_lt hq
    · intro hx
      obtain ⟨k, hk⟩ := get_some hx
      obtain ⟨q, hq, e⟩ := List.mem_map.1 ((dd_mem _ _).1 (List.mem_of_getElem? hk))
      refine ⟨q, hq, ?_⟩
      unfold refine_
      rw [e]
      exact ixF_at (dd_nd _) hk
  have a := sub_len (dd_nd (l.map (refine_ M by_ l P))) fun x hx => (h1 x).1 hx
  have b := sub_len (a := List.range (found M by_ l P).length) List.nodup_range fun x hx => (h1 x).2 hx
  rw [List.length_range] at a b
  omega
/-- If the rounds make no more classes, they are the same classes. -/
theorem refine_same (h : (found M by_ l P).length ≤ cls l P) : ∀ p ∈ l, ∀ q ∈ l, P p = P q → refine_ M by_ l P p = refine_ M by_ l P q := by
  intro p hp q hq hpq
  -- the first parts of the keys found make all classes
  have hh : ∀ k ∈ found M by_ l P, ∃ x ∈ l, k = keyR M by_ P x := fun k hk => by
    obtain ⟨x, hx, e⟩ := List.mem_map.1 ((dd_mem _ _).1 hk)
    exact ⟨x, hx, e.symm⟩
  have hnd : ((found M by_ l P).map fun k => k.headD 0).Nodup := by
    apply Classical.byContradiction
    intro hno
    have hsub : ∀ x ∈ dd (l.map P), x ∈ dd ((found M by_ l P).map fun k => k.headD 0) := fun x hx => by
      obtain ⟨y, hy, rfl⟩ := List.mem_map.1 ((dd_mem _ _).1 hx)
      rw [dd_mem, List.mem_map]
      exact ⟨keyR M by_ P y, (dd_mem _ _).2 (List.mem_map.2 ⟨y, hy, rfl⟩), rfl⟩
    have h1 := sub_len (dd_nd _) hsub
    have h2 : (dd ((found M by_ l P).map fun k => k.headD 0)).length < ((found M by_ l P).map fun k => k.headD 0).length := by
      have key : ∀ m : List Nat, ¬ m.Nodup → (dd m).length < m.length := by
        intro m
        induction m using snocInd with
        | h0 => intro h; exact absurd List.nodup_nil h
        | hs m k ih =>
          intro h
          rw [dd_snoc, List.length_append, List.length_singleton]
          have := dd_len m
          split
          · omega
          · rename_i hk
            rw [List.length_append, List.length_singleton]
            have : ¬ m.Nodup := fun hm => h (List.nodup_append.2 ⟨hm, by simp, fun x hx y hy e => by rw [List.mem_singleton] at hy; subst hy; subst e; exact hk ((dd_mem _ _).2 hx)⟩)
            have := ih this
            omega
      exact key _ hno
    rw [List.length_map] at h2
    unfold cls at h
    omega
  have m1 : keyR M by_ P p ∈ found M by_ l P := (dd_mem _ _).2 (List.mem_map.2 ⟨p, hp, rfl⟩)
  have m2 : keyR M by_ P q ∈ found M by_ l P := (dd_mem _ _).2 (List.mem_map.2 ⟨q, hq, rfl⟩)
  have g1 := ixF_get m1
  have g2 := ixF_get m2
  have e1 : ((found M by_ l P).map fun k => k.headD 0)[ixF (found M by_ l P) (keyR M by_ P p)]? = some (P p) := by rw [List.getElem?_map, g1]; rfl
  have e2 : ((found M by_ l P).map fun k => k.headD 0)[ixF (found M by_ l P) (keyR M by_ P q)]? = some (P q) := by rw [List.getElem?_map, g2]; rfl
  rw [← hpq] at e2
  obtain ⟨a1, c1⟩ := List.getElem?_eq_some_iff.1 e1
  obtain ⟨a2, c2⟩ := List.getElem?_eq_some_iff.1 e2
  unfold refine_
  rcases Nat.lt_trichotomy (ixF (found M by_ l P) (keyR M by_ P p)) (ixF (found M by_ l P) (keyR M by_ P q)) with h | h | h
  · exact absurd (c1.trans c2.symm) (List.pairwise_iff_getElem.1 hnd _ _ a1 a2 h)
  · exact h
  · exact absurd (c2.trans c1.symm) (List.pairwise_iff_getElem.1 hnd _ _ a2 a1 h)
/-- What holds all along. -/
structure RndI (M : PA) (l : List Nat) (P : Nat → Nat) : Prop where
  eqv : ∀ p ∈ l, ∀ q ∈ l, M.Eqv p q → P p = P q
  fi : ∀ p ∈ l, ∀ q ∈ l, P p = P q → M.fi p = M.fi q
theorem RndI.next (hr : Reps M by_) (hc : Closed M l) (h : RndI M l P) : RndI M l (refine_ M by_ l P) :=
  ⟨fun p hp q hq he => (refine_iff hp hq).2 ⟨h.eqv p hp q hq he, fun b hb => h.eqv _ (hc.st p hp b (hr.lt b hb)) _ (hc.st q hq b (hr.lt b hb)) (he.st (hr.lt b hb))⟩, fun p hp q hq he => h.fi p hp q hq ((refine_iff hp hq).1 he).1⟩
/-- The classes are those that no word tells apart. -/
def IsCls (M : PA) (l : List Nat) (P : Nat → Nat) : Prop := ∀ p ∈ l, ∀ q ∈ l, P p = P q ↔ M.Eqv p q
theorem RndI.done (hr : Reps M by_) (hc : Closed M l) (h : RndI M l P) (hs : ∀ p ∈ l, ∀ q ∈ l, P p = P q → refine_ M by_ l P p = refine_ M by_ l P q) : IsCls M l (refine_ M by_ l P) := by
  have hst : ∀ p ∈ l, ∀ q ∈ l, P p = P q → ∀ b, b < 256 → P (M.st p b) = P (M.st q b) := fun p hp q hq he b hb => by
    obtain ⟨g, hg, -, e⟩ := hr.cov b hb
    rw [← e p (hc.lt p hp), ← e q (hc.lt q hq)]
    exact ((refine_iff hp hq).1 (hs p hp q hq he)).2 g hg
  have key : ∀ (w : List Nat) (p q : Nat), p ∈ l → q ∈ l → P p = P q → bytes5 w → M.fi (M.run p w) = M.fi (M.run q w) := by
    intro w
    induction w with
    | nil => exact fun p q hp hq he _ => h.fi p hp q hq he
    | cons b w ih =>
      intro p q hp hq he hw
      have hb := hw b (by simp)
      exact ih (M.st p b) (M.st q b) (hc.st p hp b hb) (hc.st q hq b hb) (hst p hp q hq he b hb) fun x hx => hw x (List.mem_cons_of_mem _ hx)
  intro p hp q hq
  constructor
  · exact fun he w hw => key w p q hp hq ((refine_iff hp hq).1 he).1 hw
  · exact (h.next hr hc).eqv p hp q hq
end
end Go.Proofs.YthomdogheamfpaaDoor
/- Least automata: the plain law: classes stand in the order in which their states are found. -/
set_option linter.unusedVariables false
set_option linter.unusedSimpArgs false
set_option maxRecDepth 100000
namespace Go.Proofs.YthomdogheamfpaaDoor
open Go.VC
theorem nodup_lt {f : List Nat} {n : Nat} (hn : f.Nodup) (h : ∀ q ∈ f, q < n) : f.length ≤ n := by
  have := sub_len (b := List.range n) hn fun q hq => List.mem_range.2 (h q hq)
  rwa [List.length_range] at this
section
variable {M : PA} {P : Nat → Nat} {most : Nat}
/-- Steps of classes. -/
def cst (M : PA) (P : Nat → Nat) (k b : Nat) : Nat := match (List.range M.n).find? (fun q => P q = k) with
  | some q => P (M.st q b)
  | none => 0
abbrev allS (M : PA) : List Nat := List.range M.n
theorem closed_all (h : M.Ok) : Closed M (allS M) := ⟨fun q hq => List.mem_range.1 hq, fun q hq b hb => List.mem_range.2 (h.cl q b (List.mem_range.1 hq) hb)⟩
theorem cst_of (hM : M.Ok) (hP : IsCls M (allS M) P) {q b : Nat} (hq : q < M.n) (hb : b < 256) : cst M P (P q) b = P (M.st q b) := by
  unfold cst
  cases h : (List.range M.n).find? (fun x => P x = P q) with
  | none =>
    have := List.find?_eq_none.1 h q (List.mem_range.2 hq)
    simp at this
  | some y =>
    have h1 : P y = P q := by simpa using List.find?_some h
    have h2 := List.mem_range.1 (List.mem_of_find?_eq_some h)
    have h3 := (hP y (List.mem_range.2 h2) q (List.mem_range.2 hq)).1 h1
    exact (hP _ (List.mem_range.2 (hM.cl y b h2 hb)) _ (List.mem_range.2 (hM.cl q b hq hb))).2 (h3.st hb)
end
end Go.Proofs.YthomdogheamfpaaDoor
/- minim.reps, minim.blocks: the walks. -/
set_option linter.unusedVariables false
set_option linter.unusedSimpArgs false
set_option maxRecDepth 100000
namespace Go.VC
/-- How many keys a map has. -/
theorem mlenE {α : Type} {Ok : α → Prop} {enc : α → Value} {P : Program} {t kt et vt : TypeId} {z : Value} {S : Nat → Prop} {H : Heap} {b : Nat} {m : α → Option Value} {l : List α} (ht : MapTW P t kt et z) (h : MapW Ok enc H b m) (hb : S b) (hn : l.Nodup) (hl : ∀ a, (m a).isSome = true ↔ a ∈ l) (hi : ∀ a b : α, enc a = enc b → a = b) {K : Value → Prop}
    (k : K (.int .i64 (l.length : Int))) : VDet P (Builtin.len_ #[t] vt [.map (some b)].toArray) S H K := by
  obtain ⟨⟨es, clock, h1, h2, h3, h4⟩, hok⟩ := h
  have pre : ∀ k, k ≤ es.size → ∃ l : List α, l.length = k ∧ ∀ (j : Nat) (a : α), l[j]? = some a → ∃ x, es[j]? = some x ∧ x.key = enc a ∧ m a = some x.val := by
    intro k
    induction k with
    | zero => exact fun _ => ⟨[], rfl, fun j a h => by simp at h⟩
    | succ k ih =>
      intro hk
      obtain ⟨l, hl, hg⟩ := ih (by omega)
      have hx : es[k]? = some es[k] := Array.getElem?_eq_getElem (by omega)
      obtain ⟨a, e1, e2⟩ := h3 k _ hx
      refine ⟨l ++ [a], by simp [hl], fun j a' hj => ?_⟩
      by_cases hjk : j < k
      · rw [List.getElem?_append_left (by omega)] at hj
        exact hg j a' hj
      · have hjl := (List.getElem?_eq_some_iff.1 hj).1
        simp only [List.length_append, List.length_cons, List.length_nil] at hjl
        obtain rfl : j = k := by omega
        rw [List.getElem?_append_right (by omega), hl, Nat.sub_self] at hj
        simp only [List.getElem?_cons_zero, Option.some.injEq] at hj
        subst hj
        exact ⟨_, hx, e1, e2⟩
  obtain ⟨l2, hl2, hg⟩ := pre es.size (Nat.le_refl _)
  have hnd : l2.Nodup := by
    unfold List.Nodup
    rw [List.pairwise_iff_getElem]
    intro i j hi hj hij e
    obtain ⟨x, hx, hkx, -⟩ := hg i _ (List.getElem?_eq_getElem hi)
    obtain ⟨y, hy, hky, -⟩ := hg j _ (List.getElem?_eq_getElem hj)
    rw [e] at hkx
    have := stamped_key h2 hx hy (hkx.trans hky.symm)
    omega
  have hmem : ∀ a, a ∈ l2 ↔ a ∈ l := fun a => by
    rw [← hl]
    constructor
    · intro ha
      obtain ⟨j, hj⟩ := List.getElem?_of_mem ha
      obtain ⟨x, -, -, e⟩ := hg j a hj
      rw [e]; rfl
    · intro ha
      obtain ⟨v, hv⟩ := Option.isSome_iff_exists.1 ha
      obtain ⟨i, x, hx, hk, -⟩ := h4 a v hv
      have hil : i < l2.length := by rw [hl2]; exact (Array.getElem?_eq_some_iff.1 hx).1
      obtain ⟨y, hy, hky, -⟩ := hg i _ (List.getElem?_eq_getElem hil)
      rw [hx] at hy
      injection hy with hy
      subst hy
      have := hi _ _ (hk.symm.trans hky)
      rw [this]
      exact List.getElem_mem hil
  have hlen : l2.length = l.length := List.Perm.length_eq (by
    classical
    exact (List.perm_ext_iff_of_nodup hnd hn).2 hmem)
  refine VDet.mk _ (fun w hw => ?_) (show K (.int .i64 (es.size : Int)) by rw [← hl2, hlen]; exact k)
  have hb' := (hw b hb).trans h1
  simp [Builtin.len_, run_underlying ht.under, Go.MapKept.run_getObj_map hb', goInt]
end Go.VC
namespace Go.Proofs.YthomdogheamfpaaDoor
open Go.VC
attribute [local irreducible] mRun gRun atRun
/-! ### reps -/
abbrev bsI (cs : List (BitVec 256)) : List Int := (bsOf cs).map fun (x : Nat) => (x : Int)
set_option maxHeartbeats 4000000 in
theorem reps7_c {S : Nat → Prop} {H : Heap} {ca : Option Addr} {cc : Nat} {cs : List (BitVec 256)} (hS : ∀ k, S k → k < H.size) (hcs : SlD tSet S H ca cc cs) (hcl : cs.length ≤ 256) :
    FnOk Tryd.prog 41 #[.slice ca cs.length cc] H fun r H' => Agr (Old H) H H' ∧ ∃ ra rc, r = .slice ra cs.length rc ∧ SlO tU8 none_ H' H.size tByt (.slice ra cs.length rc) (bsI cs) := by
  refine FnOk.of_vc Tryd.func41 rfl (Tryd.call41 _) ?_
  (conv => whnf); refine vmake1 sl85 rfl (by omega) (by omega) (by omega) (by omega) ?_
  intro rb H1 hrb hs1 hb1 ha1
  rw [Int.toNat_natCast] at hb1
  rw [Int.toNat_natCast, show (0 : Int).toNat = 0 from rfl]
  have st1 := (St.nil H).newCap (T := tU8) (cap := cs.length) hrb hs1 hb1 ha1 (by simp [tInt]) (by unfold maxLen; omega)
  (conv => whnf)
  refine VLoop.mk [3, 13] (fun x : Nat × Option Addr × Nat => match x with | (i, a, c) => [.slice a i c, .int .i64 (i : Int)])
    (fun x H2 => match x with | (i, a, c) => i ≤ cs.length ∧ St H H2 [pS tU8 tByt a i c (bsI (cs.take i))]) (fun x _ => cs.length - x.1) ?_ ?_
  · (conv => whnf)
    exact ⟨(0, some ⟨rb, 0, none⟩, cs.length), rfl, Nat.zero_le _, st1⟩
  · rintro ⟨i, a, c⟩ H2 junk2 ⟨hi, st2⟩
    (conv => whnf); refine VIte.mk (fun hz => ?_) (fun hz => ?_) <;> simp only [decide_eq_true_eq, decide_eq_false_iff_not] at hz
    · obtain ⟨x, hx⟩ := get_some (l := cs) (k := i) (by omega)
      have hblt := nextM_lt x 0
      (conv => whnf); refine ixr (i := i) sl83 (hcs.frame (st2.old.mono hS)) hx rfl ?_
      rintro b8 o8 cs8 hS8 hc8 rfl
      (conv => whnf); refine ldN (cs := setL x) ag73 hc8 trivial ?_
      (conv => whnf); refine valloc (setV 0) (setL 0) rfl rfl ?_
      intro sx H8 hsx hs8 hb8 ha8
      have st8 := st2.box hsx hs8 hb8 ha8
      (conv => whnf); refine stNB (cs := setL x) st8 1 rfl rfl (Nat.le_refl _) rfl fun H9 st9 => ?_
      rw [splice_all (show (setL x).length = (setL 0).length from rfl)] at st9
      (conv => whnf); refine ldN (cs := setL x) ag73 ((st9.blk 1 rfl).cells fun j v hv => by rw [Nat.zero_add]; exact hv) trivial ?_
      (conv => whnf); refine pures (next_p x 0 (by decide) H9) fun H10 ha10 => ?_
      have st10 := st9.call ha10
      (conv => whnf); refine vbuild1 sl85 [.int .u8 ((nextM x 0).1 : Int)] rfl rfl (by decide) (by decide) ?_
      intro q11 H11 hq11 hs11 hb11 ha11
      have hil : (bsI (cs.take i)).length = i := by simp only [bsI, bsOf, List.length_map, List.length_take]; omega
      (conv => whnf); refine app1 (x := ((nextM x 0).1 : Int)) (st10.skip hq11 ha11) 0 sl85 rfl hb11 ⟨rfl, inU8 hblt⟩ rfl (by omega) (by decide) fun a12 c12 H12 st12 _ => ?_
      have e1 : bsI (cs.take i) ++ [((nextM x 0).1 : Int)] = bsI (cs.take (i + 1)) := by rw [take_succ_snoc hx]; simp [bsI, bsOf]
      rw [e1, hil] at st12
      rw [hil]
      (conv => whnf); rw [w64 (x := (i : Int) + 1) (by omega) (by omega)]
      exact ⟨rfl, (i + 1, a12, c12), by simp, ⟨by omega, st12.pick [0] (by decide)⟩, by simp only; omega⟩
    · obtain rfl : i = cs.length := by omega
      rw [List.take_length] at st2
      (conv => whnf)
      exact ⟨st2.old, a, c, rfl, St.own st2 0 rfl⟩
/-! ### names of keys -/
def digM (x : Nat) : List Nat := digN (x : Int)
def kN (k : List Nat) : List Nat := match k with
  | [] => []
  | x :: xs => digM x ++ xs.flatMap fun y => 32 :: digM y
def rS (s : List Nat × Nat) (b : Nat) : List Nat × Nat := if b = 32 then (s.1 ++ [s.2], 0) else (s.1, 10 * s.2 + (b - 48))
theorem rS_digs : ∀ (p : List Nat) (acc : List Nat) (n : Nat), (∀ b ∈ p, 48 ≤ b ∧ b ≤ 57) → p.foldl rS (acc, n) = (acc, valN n p)
  | [], _, _, _ => rfl
  | b :: p, acc, n, h => by
    have hb := h b (List.mem_cons_self ..)
    rw [List.foldl_cons, show rS (acc, n) b = (acc, 10 * n + (b - 48)) by unfold rS; rw [if_neg (by omega)], rS_digs p acc _ fun x hx => h x (List.mem_cons_of_mem _ hx)]
    rfl
theorem digM_rng (x : Nat) : ∀ b ∈ digM x, 48 ≤ b ∧ b ≤ 57 := dig_rng (q := (x : Int)) (by omega)
theorem dig_valM (x : Nat) : valN 0 (digM x) = x := by
  have := dig_val (q := (x : Int)) (by omega)
  unfold digM
  omega
theorem rS_tail : ∀ (xs : List Nat) (acc : List Nat) (n : Nat), (xs.flatMap fun y => 32 :: digM y).foldl rS (acc, n) = ((acc ++ [n] ++ xs).dropLast, (n :: xs).getLast (by simp))
  | [], acc, n => by simp
  | x :: xs, acc, n => by
    rw [List.flatMap_cons, List.foldl_append, List.foldl_cons, show rS (acc, n) 32 = (acc ++ [n], 0) by unfold rS; rw [if_pos rfl], rS_digs (digM x) _ _ (digM_rng x), dig_valM, rS_tail xs]
    simp
theorem kN_read (x : Nat) (xs : List Nat) : (kN (x :: xs)).foldl rS ([], 0) = ((x :: xs).dropLast, (x :: xs).getLast (by simp)) := by
  show (digM x ++ xs.flatMap fun y => 32 :: digM y).foldl rS ([], 0) = _
  rw [List.foldl_append, rS_digs (digM x) _ _ (digM_rng x), dig_valM, rS_tail]
  simp
theorem kN_inj {k m : List Nat} (hk : k ≠ []) (hm : m ≠ []) (h : kN k = kN m) : k = m := by
  cases k with
  | nil => exact absurd rfl hk
  | cons x xs =>
    cases m with
    | nil => exact absurd rfl hm
    | cons y ys =>
      have h1 := kN_read x xs
      rw [h, kN_read y ys] at h1
      injection h1 with e1 e2
      rw [← List.dropLast_concat_getLast (l := x :: xs) (by simp), ← List.dropLast_concat_getLast (l := y :: ys) (by simp), e1, e2]
theorem kN_lt (k : List Nat) : ∀ b ∈ kN k, b < 256 := by
  have hd : ∀ x : Nat, ∀ b ∈ digM x, b < 256 := fun x b hb => by have := dig_rng (q := (x : Int)) (by omega) b hb; omega
  intro b hb
  cases k with
  | nil => cases hb
  | cons x xs =>
    rcases List.mem_append.1 hb with hb | hb
    · exact hd x b hb
    · obtain ⟨y, -, hb⟩ := List.mem_flatMap.1 hb
      rcases List.mem_cons.1 hb with rfl | hb
      · decide
      · exact hd y b hb
theorem kN_snoc (x : Nat) (xs : List Nat) (y : Nat) : kN (x :: (xs ++ [y])) = kN (x :: xs) ++ [32] ++ digM y := by
  show digM x ++ (xs ++ [y]).flatMap _ = _
  rw [List.flatMap_append]
  show _ = (digM x ++ xs.flatMap _) ++ [32] ++ digM y
  simp
theorem digM_len {x : Nat} (h : x < 65536) : (digM x).length ≤ 5 := dig_len (by omega)
theorem kN_len (x : Nat) : ∀ xs : List Nat, (∀ y ∈ x :: xs, y < 65536) → (kN (x :: xs)).length ≤ 5 + 6 * xs.length := by
  intro xs
  induction xs using snocInd with
  | h0 => intro h; have := digM_len (h x (by simp)); simp [kN]; omega
  | hs xs y ih =>
    intro h
    have h1 := ih fun z hz => h z (by
      rcases List.mem_cons.1 hz with rfl | hz
      · simp
      · simp [hz])
    have h2 := digM_len (h y (by simp))
    rw [kN_snoc]
    simp only [List.length_append, List.length_cons, List.length_nil]; omega
theorem kN_ne (x : Nat) (xs : List Nat) : kN (x :: xs) ≠ [] := by
  have : digM x ≠ [] := by
    unfold digM
    rw [dig_nat (by omega), Go.Lib.decDigits]
    split <;> simp
  intro h
  exact this (List.append_eq_nil_iff.1 h).1
def kB (k : List Nat) : ByteArray := ⟨((kN k).map UInt8.ofNat).toArray⟩
theorem kB_inj {k m : List Nat} (hk : k ≠ []) (hm : m ≠ []) (h : kB k = kB m) : k = m := by
  have := congrArg byN h
  unfold kB at this
  rw [byN_of5 (kN_lt k), byN_of5 (kN_lt m)] at this
  exact kN_inj hk hm this
/-- What the map of names holds. -/
def enM (F : List (List Nat)) (s : ByteArray) : Option Value := (F.findIdx? fun k => decide (kB k = s)).map fun (i : Nat) => .int .i64 (i : Int)
def NE (F : List (List Nat)) : Prop := ∀ k ∈ F, k ≠ []
theorem en_find {F : List (List Nat)} (hF : NE F) {k : List Nat} (hk : k ≠ []) : (F.findIdx? fun l => decide (kB l = kB k)) = F.findIdx? (· = k) := by
  induction F with
  | nil => rfl
  | cons l F ih =>
    have h1 : decide (kB l = kB k) = decide (l = k) := decide_eq_decide.2 ⟨fun h => kB_inj (hF l (by simp)) hk h, fun h => by rw [h]⟩
    rw [List.findIdx?_cons, List.findIdx?_cons, h1, ih fun m hm => hF m (List.mem_cons_of_mem _ hm)]
theorem enM_get {F : List (List Nat)} (hF : NE F) {k : List Nat} (hk : k ≠ []) : enM F (kB k) = (F.findIdx? (· = k)).map fun (i : Nat) => .int .i64 (i : Int) := by
  unfold enM
  rw [en_find hF hk]
theorem enM_put {F : List (List Nat)} {k : List Nat} (hno : (F.findIdx? fun l => decide (kB l = kB k)) = none) : put (enM F) (kB k) (some (.int .i64 (F.length : Int))) = enM (F ++ [k]) := by
  funext s
  unfold put enM
  rw [List.findIdx?_append]
  by_cases hs : s = kB k
  · subst hs
    rw [if_pos rfl, hno]
    simp [List.findIdx?_cons]
  · rw [if_neg hs]
    cases h : F.findIdx? fun l => decide (kB l = s) with
    | some i => simp
    | none =>
      have : kB k ≠ s := fun e => hs e.symm
      simp [List.findIdx?_cons, this]
theorem enM_some {F : List (List Nat)} {s : ByteArray} : (enM F s).isSome = true ↔ s ∈ F.map kB := by
  unfold enM
  rw [Option.isSome_map, List.findIdx?_isSome, List.any_eq_true, List.mem_map]
  constructor
  · rintro ⟨k, hk, h⟩; exact ⟨k, hk, of_decide_eq_true h⟩
  · rintro ⟨k, hk, rfl⟩; exact ⟨k, hk, decide_eq_true rfl⟩
theorem enM_nd {F : List (List Nat)} (hF : NE F) (hn : F.Nodup) : (F.map kB).Nodup := by
  unfold List.Nodup at hn ⊢
  rw [List.pairwise_map]
  exact hn.imp_of_mem fun ha hb h e => h (kB_inj (hF _ ha) (hF _ hb) e)
theorem findIdx_ix {F : List (List Nat)} {k : List Nat} (h : k ∈ F) : F.findIdx? (· = k) = some (ixF F k) := by
  rw [List.findIdx?_eq_some_iff_getElem]
  have hlt := ixF_lt h
  have hg := (List.getElem?_eq_some_iff.1 (ixF_get h)).2
  refine ⟨hlt, decide_eq_true hg, fun j hj => ?_⟩
  have := List.not_of_lt_findIdx (p := fun x => decide (x = k)) (xs := F) (show j < F.findIdx (fun x => decide (x = k)) from hj)
  simpa using this
theorem findIdx_nix {F : List (List Nat)} {k : List Nat} (h : k ∉ F) : F.findIdx? (· = k) = none := by
  rw [List.findIdx?_eq_none_iff]
  intro x hx
  exact decide_eq_false fun e => h (by rw [← e]; exact hx)
end Go.Proofs.YthomdogheamfpaaDoor
/- minim.blocks: the walk. -/
set_option linter.unusedVariables false
set_option linter.unusedSimpArgs false
set_option maxRecDepth 100000
namespace Go.Proofs.YthomdogheamfpaaDoor
open Go.VC
attribute [local irreducible] mRun gRun atRun
/-- The program's automaton, plain. -/
def paO (o : Option AM) : PA := ⟨stN o, fun q b => (stepM o (q : Int) b).toNat, fun q => finM o (q : Int)⟩
theorem paO_ok {o : Option AM} (h : StepOk o) : (paO o).Ok := ⟨h.n1, fun q b hq hb => by
  have := h.step (q : Int) b ⟨by omega, by have : q < stN o := hq; omega⟩ hb
  have h1 := this.1
  have h2 := this.2
  show (stepM o (q : Int) b).toNat < stN o
  omega⟩
theorem paO_st {o : Option AM} (h : StepOk o) {q b : Nat} (hq : q < stN o) (hb : b < 256) : stepM o (q : Int) b = ((paO o).st q b : Int) := by
  have := h.step (q : Int) b ⟨by omega, by omega⟩ hb
  have h1 := this.1
  show stepM o (q : Int) b = ((stepM o (q : Int) b).toNat : Int)
  omega
/-- The values of a function at the states, as far as they are known. -/
def tbl (f : Nat → Nat) (k n : Nat) : List Int := (List.range n).map fun p => if p < k then (f p : Int) else 0
theorem tbl_len (f : Nat → Nat) (k n : Nat) : (tbl f k n).length = n := by simp [tbl]
theorem tbl_get {f : Nat → Nat} {k n p : Nat} (h : p < n) : (tbl f k n)[p]? = some (if p < k then (f p : Int) else 0) := by
  unfold tbl
  rw [List.getElem?_map, List.getElem?_range h]
  rfl
theorem tbl_set {f : Nat → Nat} {k n : Nat} (h : k < n) : (tbl f k n).set k (f k : Int) = tbl f (k + 1) n := by
  apply List.ext_getElem?
  intro j
  by_cases hj : j < n
  · rw [tbl_get hj, List.getElem?_set, tbl_len]
    by_cases hk : k = j
    · subst hk; rw [if_pos rfl, if_pos hj, if_pos (by omega)]
    · rw [if_neg hk, tbl_get hj]
      by_cases h1 : j < k
      · rw [if_pos h1, if_pos (by omega)]
      · rw [if_neg h1, if_neg (by omega)]
  · rw [List.getElem?_eq_none (by rw [List.length_set, tbl_len]; omega), List.getElem?_eq_none (by rw [tbl_len]; omega)]
theorem tbl_zero (f : Nat → Nat) (n : Nat) : tbl f 0 n = List.replicate n 0 := by
  unfold tbl
  simp [List.map_const']
theorem tbl_skip {f : Nat → Nat} {k n : Nat} (h : f k = 0) : tbl f k n = tbl f (k + 1) n := by
  unfold tbl
  refine List.map_congr_left fun p hp => ?_
  by_cases h1 : p < k
  · rw [if_pos h1, if_pos (by omega)]
  · rw [if_neg h1]
    by_cases h2 : p = k
    · subst h2; rw [if_pos (by omega), h]; rfl
    · rw [if_neg (by omega)]
theorem zeros_reps {H : Heap} (n : Nat) : tIk.reps none_ H (List.replicate n (Value.int .i64 0)) (List.replicate n (0 : Int)) := by
  have := reps_replicate (T := tIk) (S := none_) (H := H) (c := [Value.int .i64 0]) (v := (0 : Int)) ⟨rfl, kint ⟨by decide, by decide⟩⟩ n
  simpa using this
theorem const_found {M : PA} {by_ l : List Nat} {P : Nat → Nat} (hb : ∀ b ∈ by_, b < 256) (hc : Closed M l) (h : ∀ p ∈ l, ∀ q ∈ l, P p = P q) : ∀ p ∈ l, ∀ q ∈ l, refine_ M by_ l P p = refine_ M by_ l P q := fun p hp q hq =>
  (refine_iff hp hq).2 ⟨h p hp q hq, fun b hbb => h _ (hc.st p hp b (hb b hbb)) _ (hc.st q hq b (hb b hbb))⟩
/-- Keys of the first states. -/
def fnd (M : PA) (by_ : List Nat) (P : Nat → Nat) (q : Nat) : List (List Nat) := dd ((List.range q).map (keyR M by_ P))
theorem fnd_succ (M : PA) (by_ : List Nat) (P : Nat → Nat) (q : Nat) : fnd M by_ P (q + 1) = if keyR M by_ P q ∈ fnd M by_ P q then fnd M by_ P q else fnd M by_ P q ++ [keyR M by_ P q] := by
  unfold fnd
  rw [List.range_succ, List.map_append, List.map_cons, List.map_nil, dd_snoc]
  by_cases h : keyR M by_ P q ∈ dd ((List.range q).map (keyR M by_ P))
  · rw [if_pos h, if_pos h]
  · rw [if_neg h, if_neg h]
theorem fnd_pre (M : PA) (by_ : List Nat) (P : Nat → Nat) {q n : Nat} (h : q ≤ n) : fnd M by_ P q <+: fnd M by_ P n := by
  unfold fnd
  have e : List.range n = List.range q ++ (List.range n).drop q := by
    conv => lhs; rw [← List.take_append_drop q (List.range n)]
    rw [List.take_range, Nat.min_eq_left h]
  rw [e, List.map_append]
  exact dd_pre _ _
theorem fnd_ne (M : PA) (by_ : List Nat) (P : Nat → Nat) (q : Nat) : NE (fnd M by_ P q) := fun k hk => by
  obtain ⟨x, -, rfl⟩ := List.mem_map.1 ((dd_mem _ _).1 hk)
  exact List.cons_ne_nil _ _
theorem fnd_len (M : PA) (by_ : List Nat) (P : Nat → Nat) (q : Nat) : (fnd M by_ P q).length ≤ q := by
  have := dd_len ((List.range q).map (keyR M by_ P))
  rw [List.length_map, List.length_range] at this
  exact this
theorem refine_fnd {M : PA} {by_ : List Nat} {P : Nat → Nat} {q : Nat} (hq : q < M.n) : refine_ M by_ (allS M) P q = ixF (fnd M by_ P (q + 1)) (keyR M by_ P q) :=
  ixF_pre (fnd_pre M by_ P (show q + 1 ≤ M.n by omega)) (by
    unfold fnd
    exact (dd_mem _ _).2 (List.mem_map.2 ⟨q, List.mem_range.2 (by omega), rfl⟩))
/-- How far the name of a state's key is written. -/
def keyJ (M : PA) (by_ : List Nat) (P : Nat → Nat) (q j : Nat) : List Nat := P q :: (by_.take j).map fun b => P (M.st q b)
theorem nmI_ln (k : List Nat) : ((kN k).map fun (x : Nat) => (x : Int)).length = (kN k).length := List.length_map _
theorem digL_M (x : Nat) : digL (x : Int) = (digM x).map fun (y : Nat) => (y : Int) := digL_N (x : Int)
theorem nm_str {P : Program} {s d : TypeId} {H0 H : Heap} {a : Option Addr} {n c : Nat} {k : List Nat} {K : Value → Heap → Prop} (u : St H0 H [pS tU8 tByt a n c (k.map fun (y : Nat) => (y : Int))]) (hk : k ≠ []) (hs : P.underlying s = some (.slice tByt)) (he : P.underlying tByt = some (.int .u8)) (hd : P.underlying d = some .string)
    (h : K (.string ⟨(k.map UInt8.ofNat).toArray⟩) H) : VEff P (convert s d (.slice a n c)) H K := by
  have hnl := u.len 0 rfl
  rw [List.length_map] at hnl
  obtain ⟨cs, ⟨-, hcs⟩, hrp⟩ := u.at_ 0 rfl |>.1
  obtain ⟨rfl, -⟩ := reps_u8 hrp
  rcases hcs with ⟨h1, h2⟩ | ⟨b, c', l', h1, -, hb, -, -, -, htk⟩
  · rw [List.length_map] at h2
    exact absurd (List.eq_nil_of_length_eq_zero h2) hk
  · injection h1 with h1 h2 h3
    subst h1
    refine vb2s k (e := tByt) hs he hd (fun j x hx => ?_) hnl h
    have hcj : ((k.map fun (y : Nat) => (y : Int)).map (Value.int .u8))[j]? = some (.int .u8 (x : Int)) := by
      rw [List.getElem?_map, List.getElem?_map, hx]; rfl
    rw [← htk, List.getElem?_take] at hcj
    split at hcj
    · rw [Nat.zero_add, hb.cell]; exact hcj
    · cases hcj
structure BlkI (M : PA) (P : Nat → Nat) (cnt : Nat) : Prop where
  rnd : RndI M (allS M) P
  lt : ∀ q, q < M.n → P q < 65536
  cnt : cls (allS M) P = cnt ∨ ∀ p ∈ allS M, ∀ q ∈ allS M, P p = P q
set_option maxHeartbeats 32000000 in
theorem blocks_c {S : Nat → Prop} {H : Heap} {v : Value} {o : Option AM} {ba : Option Addr} {bc : Nat} {by_ : List Nat} (hS : ∀ k, S k → k < H.size) (hv : AutoV S H v o) (hby : SlD tU8 S H ba bc (by_.map fun (x : Nat) => (x : Int))) (hreps : Reps (paO o) by_) (hbl : by_.length ≤ 256) (hpow : PowH Tryd.prog H) :
    FnOk Tryd.prog 42 #[v, .slice ba by_.length bc] H fun r H' => Agr (Old H) H H' ∧ ∃ P ra rc, IsCls (paO o) (allS (paO o)) P ∧ (∀ q, q < stN o → P q < stN o) ∧ r = .slice ra (stN o) rc ∧ SlO tIk none_ H' H.size 3 (.slice ra (stN o) rc) (tbl P (stN o) (stN o)) := by
  have hst := hv.steps
  have hn1 := hst.n1
  have hn2 := hst.n2
  have hM := paO_ok hst
  have hcl := closed_all hM
  have hbI : (by_.map fun (x : Nat) => (x : Int)).length = by_.length := List.length_map _
  obtain ⟨n, hn⟩ : ∃ n, n = stN o := ⟨_, rfl⟩
  have hMn : (paO o).n = n := hn.symm
  obtain ⟨M, hMe⟩ : ∃ M, M = paO o := ⟨_, rfl⟩
  have hVA : ∀ {G : Heap}, Agr (Old H) H G → AutoV S G v o := fun h => hv.frame (h.mono hS)
  have up : ∀ {G : Heap}, Agr (Old H) H G → ∀ k, S k → k < G.size := fun h k hk => old_lt h (hS k hk)
  refine FnOk.of_vc Tryd.func42 rfl (Tryd.call42 _) ?_
  (conv => whnf); refine pures (states_p hv) fun H1 ha1 => ?_
  rw [← hn] at hn1 hn2 ⊢
  rw [← hMe] at hM hcl hMn hreps ⊢
  have st1 : St H H1 [] := (St.nil H).call ha1
  (conv => whnf); refine vmake1 sl33 rfl (by omega) (by omega) (by omega) (by omega) ?_
  intro pb H2 hpb hs2 hb2 ha2
  rw [Int.toNat_natCast] at hb2 ⊢
  have st2 : St H H2 [pS tIk 3 (some ⟨pb, 0, none⟩) n n (List.replicate n 0)] := st1.new (T := tIk) (n := n) (xs := List.replicate n (0 : Int)) hpb hs2 (by simpa using hb2) ha2 (zeros_reps n) (by simp) (by unfold maxLen; omega)
  let P0 : Nat → Nat := fun q => if M.fi q then 1 else 0
  have hP0 : ∀ q, P0 q = if M.fi q then 1 else 0 := fun _ => rfl
  rw [← tbl_zero P0 n] at st2
  (conv => whnf)
  refine VLoop.mk [7, 22] (fun x : Nat × Nat => match x with | (q, c) => [.int .i64 (c : Int), .int .i64 (q : Int)])
    (fun x H3 => match x with | (q, c) => q ≤ n ∧ (c = if (∃ p, p < q ∧ M.fi p = true) then 2 else 1) ∧ St H H3 [pS tIk 3 (some ⟨pb, 0, none⟩) n n (tbl P0 q n)]) (fun x _ => n - x.1) ?_ ?_
  · (conv => whnf)
    exact ⟨(0, 1), rfl, Nat.zero_le _, by rw [if_neg (fun ⟨p, h, _⟩ => by omega)], st2⟩
  · rintro ⟨q, c⟩ H3 junk3 ⟨hq, hc, st3⟩
    (conv => whnf); refine VIte.mk (fun hz => ?_) (fun hz => ?_) <;> simp only [decide_eq_true_eq, decide_eq_false_iff_not] at hz
    · have hqn : q < n := by omega
      (conv => whnf); refine VSeq.run ?_
      (conv => whnf); refine pures (final_p (hVA st3.old)) fun H4 ha4 => ?_
      have st4 := st3.call ha4
      have hfi : finM o (q : Int) = M.fi q := by rw [hMe]; rfl
      rw [hfi]
      cases hf : M.fi q with
      | true =>
        have e0 : P0 q = 1 := by rw [hP0, hf]; rfl
        (conv => whnf); refine ix sl33 (by omega) (by omega) ?_
        (conv => whnf); refine st1O (j := q) (x := (P0 q : Int)) st4 0 ct3 rfl rfl (by omega) (by rw [tbl_len]; omega) rfl (fun H' _ => by rw [e0]; exact ⟨rfl, kint ⟨by decide, by decide⟩⟩) fun H5 st5 => ?_
        rw [tbl_set hqn] at st5
        (conv => whnf); rw [w64 (x := (q : Int) + 1) (by omega) (by omega)]
        exact ⟨rfl, (q + 1, 2), by simp, ⟨by omega, by rw [if_pos ⟨q, by omega, hf⟩], st5⟩, by simp only; omega⟩
      | false =>
        have e0 : P0 q = 0 := by rw [hP0, hf]; rfl
        rw [tbl_skip e0] at st4
        (conv => whnf); rw [w64 (x := (q : Int) + 1) (by omega) (by omega)]
        refine ⟨rfl, (q + 1, c), by simp, ⟨by omega, ?_, st4⟩, by simp only; omega⟩
        rw [hc]
        by_cases h1 : ∃ p, p < q ∧ M.fi p = true
        · rw [if_pos h1, if_pos (by obtain ⟨p, h2, h3⟩ := h1; exact ⟨p, by omega, h3⟩)]
        · rw [if_neg h1, if_neg fun ⟨p, h2, h3⟩ => by
            by_cases hpq : p = q
            · subst hpq; rw [hf] at h3; cases h3
            · exact h1 ⟨p, by omega, h3⟩]
    · obtain rfl : q = n := by omega
      have hI0 : BlkI M P0 c := by
        refine ⟨⟨fun p hp r hr he => by rw [hP0, hP0, he.fi], fun p hp r hr he => ?_⟩, fun r hr => by rw [hP0]; split <;> decide, ?_⟩
        · rw [hP0, hP0] at he
          cases h1 : M.fi p <;> cases h2 : M.fi r <;> rw [h1, h2] at he <;> first | rfl | (exact absurd he (by decide))
        · by_cases hall : ∀ p ∈ allS M, ∀ r ∈ allS M, P0 p = P0 r
          · exact .inr hall
          · left
            have h1 : ∃ p, p < q ∧ M.fi p = true := by
              apply Classical.byContradiction
              intro hno
              refine hall fun p hp r hr => ?_
              have e : ∀ x ∈ allS M, P0 x = 0 := fun x hx => by
                rw [hP0]
                cases hx2 : M.fi x with
                | false => rfl
                | true => exact absurd ⟨x, by rw [← hMn]; exact List.mem_range.1 hx, hx2⟩ hno
              rw [e p hp, e r hr]
            have h2 : ∃ p, p < q ∧ M.fi p = false := by
              apply Classical.byContradiction
              intro hno
              refine hall fun p hp r hr => ?_
              have e : ∀ x ∈ allS M, P0 x = 1 := fun x hx => by
                rw [hP0]
                cases hx2 : M.fi x with
                | true => rfl
                | false => exact absurd ⟨x, by rw [← hMn]; exact List.mem_range.1 hx, hx2⟩ hno
              rw [e p hp, e r hr]
            rw [hc, if_pos h1]
            obtain ⟨p1, k1, k2⟩ := h1
            obtain ⟨p2, k3, k4⟩ := h2
            unfold cls
            have l1 := sub_len (a := [0, 1]) (b := dd ((allS M).map P0)) (by decide) fun x hx => by
              rw [dd_mem, List.mem_map]
              simp only [List.mem_cons, List.not_mem_nil, or_false] at hx
              rcases hx with rfl | rfl
              · exact ⟨p2, List.mem_range.2 (by omega), by rw [hP0, k4]; rfl⟩
              · exact ⟨p1, List.mem_range.2 (by omega), by rw [hP0, k2]; rfl⟩
            have l2 := sub_len (a := dd ((allS M).map P0)) (b := [0, 1]) (dd_nd _) fun x hx => by
              rw [dd_mem, List.mem_map] at hx
              obtain ⟨y, -, rfl⟩ := hx
              rw [hP0]
              split <;> simp
            simp only [List.length_cons, List.length_nil] at l1 l2
            omega
      have hc2 : c ≤ q + 2 := by rw [hc]; split <;> omega
      clear hc st2 st1 hb2 ha2 hs2
      clear_value P0
      have hSI : ∀ a b : ByteArray, Value.string a = Value.string b → a = b := fun a b h => by injection h
      (conv => whnf)
      refine VLoop.mk [6, 7] (fun x : (Nat → Nat) × Nat × Option Addr × Nat => match x with | (P, cnt, xa, xc) => [.slice xa q xc, .int .i64 (cnt : Int)])
        (fun x H4 => match x with | (P, cnt, xa, xc) => BlkI M P cnt ∧ cnt ≤ q + 2 ∧ St H H4 [pS tIk 3 xa q xc (tbl P q q)]) (fun x _ => q + 2 - x.2.1) ?_ ?_
      · (conv => whnf)
        exact ⟨(P0, c, some ⟨pb, 0, none⟩, q), rfl, hI0, hc2, st3⟩
      · clear hI0 hc2 st3 hP0 hz
        rintro ⟨P, cnt, xa, xc⟩ H4 junk4 ⟨hI, hcn, st4⟩
        obtain ⟨R, hR⟩ : ∃ R, R = refine_ M by_ (allS M) P := ⟨_, rfl⟩
        (conv => whnf); refine mmakeW (Ok := anyK) (enc := Value.string) fun mb H5 hb5 hs5 hm5 ha5 => ?_
        have st5 := st4.mapNewW hb5 hs5 hm5 ha5
        (conv => whnf); refine vmake1 sl33 rfl (by omega) (by omega) (by omega) (by omega) ?_
        intro nb H6 hnb hs6 hb6 ha6
        rw [Int.toNat_natCast] at hb6 ⊢
        have st6 := st5.new (T := tIk) (n := q) (xs := List.replicate q (0 : Int)) hnb hs6 (by simpa using hb6) ha6 (zeros_reps q) (by simp) (by unfold maxLen; omega)
        rw [← tbl_zero R q] at st6
        (conv => whnf)
        refine VLoop.mk [36] (fun i : Nat => [.int .i64 (i : Int)]) (fun i H7 => i ≤ q ∧ St H H7 [pS tIk 3 xa q xc (tbl P q q), pMW anyK Value.string mb (enM (fnd M by_ P i)), pS tIk 3 (some ⟨nb, 0, none⟩) q q (tbl R i q)]) (fun i _ => q - i) ?_ ?_
        · (conv => whnf)
          exact ⟨0, rfl, Nat.zero_le _, st6⟩
        · clear st6 st5 hb6 ha6 hs6 hm5 ha5 hs5 hb5
          rintro i H7 junk7 ⟨hi, st7⟩
          (conv => whnf); refine VIte.mk (fun hz => ?_) (fun hz => ?_) <;> simp only [decide_eq_true_eq, decide_eq_false_iff_not] at hz
          · have hiq : i < q := by omega
            have hPi := hI.lt i (by omega)
            have hgi : (tbl P q q)[i]? = some (P i : Int) := by rw [tbl_get hiq, if_pos hiq]
            have hRi : R i = ixF (fnd M by_ P (i + 1)) (keyR M by_ P i) := by rw [hR]; exact refine_fnd (by omega)
            have hstl : ∀ b ∈ by_, M.st i b < q := fun b hb => by rw [← hMn]; exact hM.cl i b (by omega) (hreps.lt b hb)
            have hkl : ∀ j, ∀ y ∈ keyJ M by_ P i j, y < 65536 := fun j y hy => by
              rcases List.mem_cons.1 hy with rfl | hy
              · exact hPi
              · obtain ⟨b, hb, rfl⟩ := List.mem_map.1 hy
                exact hI.lt _ (by have := hstl b (List.mem_of_mem_take hb); omega)
            have hkn : ∀ j, (kN (keyJ M by_ P i j)).length ≤ 1600 := fun j => by
              have h1 := kN_len (P i) ((by_.take j).map fun b => P (M.st i b)) (hkl j)
              have h2 : ((by_.take j).map fun b => P (M.st i b)).length ≤ 256 := by rw [List.length_map, List.length_take]; omega
              unfold keyJ
              omega
            (conv => whnf); refine ixO (j := i) sl33 st7 0 rfl hgi rfl ?_
            rintro b8 o8 c8 hS8 hc8 ⟨rfl, -⟩
            (conv => whnf); refine ld1 ct3 hc8.one trivial ?_
            have u7 : St H7 H7 [pS tU8 tByt none 0 0 []] := (St.nil H7).nils tU8 tByt
            have hpow7 := hpow.agr st7.old
            (conv => whnf); refine appI appInt_ u7 hpow7 (by omega) (by omega) (by simp) fun a9 c9 H9 u9 => ?_
            have e0 : digM (P i) = kN (keyJ M by_ P i 0) := by simp [keyJ, kN]
            rw [List.nil_append, digL_M, e0, nmI_ln] at u9
            rw [List.nil_append, digL_M, e0, nmI_ln]
            (conv => whnf)
            refine VLoop.mk [12, 46] (fun x : Nat × Option Addr × Nat => match x with | (j, a5, c5) => [.slice a5 (kN (keyJ M by_ P i j)).length c5, .int .i64 (j : Int)])
              (fun x H8 => match x with | (j, a5, c5) => j ≤ by_.length ∧ St H7 H8 [pS tU8 tByt a5 (kN (keyJ M by_ P i j)).length c5 ((kN (keyJ M by_ P i j)).map fun (y : Nat) => (y : Int))]) (fun x _ => by_.length - x.1) ?_ ?_
            · (conv => whnf)
              exact ⟨(0, a9, c9), rfl, Nat.zero_le _, u9⟩
            · clear u9
              rintro ⟨j, a5, c5⟩ H10 junk10 ⟨hj, u10⟩
              have hln := hkn j
              have h010 : Agr (Old H) H H10 := st7.old.trans (u10.old.mono fun k hk => st7.up hk)
              (conv => whnf); refine VIte.mk (fun hz2 => ?_) (fun hz2 => ?_) <;> simp only [decide_eq_true_eq, decide_eq_false_iff_not] at hz2
              · obtain ⟨b, hb⟩ := get_some (l := by_) (k := j) (by omega)
                have hbm := List.mem_of_getElem? hb
                have hb8 := hreps.lt b hbm
                have hsl := hstl b hbm
                have hPs := hI.lt (M.st i b) (by omega)
                have hkj : keyJ M by_ P i (j + 1) = P i :: (((by_.take j).map fun b => P (M.st i b)) ++ [P (M.st i b)]) := by
                  unfold keyJ
                  rw [take_succ_snoc hb, List.map_append]
                  rfl
                (conv => whnf); refine ixrn (i := j) (x := (b : Int)) sl85 (hby.frame (h010.mono hS)) hbI.symm (by rw [List.getElem?_map, hb]; rfl) rfl ?_
                rintro b11 o11 c11 hS11 hc11 ⟨rfl, -⟩
                (conv => whnf); refine ld1 ct5 hc11.one trivial ?_
                (conv => whnf); refine vbuild1 sl85 [.int .u8 32] rfl rfl (by decide) (by decide) ?_
                intro q12 H12 hq12 hs12 hb12 ha12
                (conv => whnf); refine app1 (x := (32 : Int)) (u10.skip hq12 ha12) 0 sl85 rfl hb12 ⟨rfl, inU8 (x := 32) (by decide)⟩ rfl (by rw [nmI_ln]; omega) (by decide) fun a13 c13 H13 u13 _ => ?_
                have e1 : ((kN (keyJ M by_ P i j)).map fun (y : Nat) => (y : Int)) ++ [32] = (kN (keyJ M by_ P i j) ++ [32]).map fun (y : Nat) => (y : Int) := by rw [List.map_append]; rfl
                have e2 : ((kN (keyJ M by_ P i j)).map fun (y : Nat) => (y : Int)).length + 1 = (kN (keyJ M by_ P i j) ++ [32]).length := by rw [nmI_ln]; simp
                rw [e1, e2] at u13
                rw [e2]
                have h013 : Agr (Old H) H H13 := st7.old.trans (u13.old.mono fun k hk => st7.up hk)
                (conv => whnf); refine pures (step_p (up h013) (hVA h013) hb8) fun H14 ha14 => ?_
                have u14 := u13.call ha14
                have e3 : stepM o (i : Int) b = (M.st i b : Int) := by rw [hMe]; exact paO_st hst (by omega) hb8
                rw [e3]
                have st14 := st7.call u14.old
                (conv => whnf); refine ixO (j := M.st i b) sl33 st14 0 rfl (by rw [tbl_get hsl, if_pos hsl]) rfl ?_
                rintro b15 o15 c15 hS15 hc15 ⟨rfl, -⟩
                (conv => whnf); refine ld1 ct3 hc15.one trivial ?_
                (conv => whnf); refine appI appInt_ u14 hpow7 (by omega) (by omega) (by rw [List.length_map, List.length_append]; simp only [List.length_cons, List.length_nil]; omega) fun a16 c16 H16 u16 => ?_
                have e4 : ((kN (keyJ M by_ P i j) ++ [32]).map fun (y : Nat) => (y : Int)) ++ digL (P (M.st i b) : Int) = (kN (keyJ M by_ P i (j + 1))).map fun (y : Nat) => (y : Int) := by
                  rw [digL_M, ← List.map_append, hkj, kN_snoc]
                  rfl
                rw [e4, nmI_ln] at u16
                rw [e4, nmI_ln]
                (conv => whnf); rw [w64 (x := (j : Int) + 1) (by omega) (by omega)]
                exact ⟨rfl, (j + 1, a16, c16), by simp, ⟨by omega, u16⟩, by simp only; omega⟩
              · obtain rfl : j = by_.length := by omega
                have hkey : keyJ M by_ P i by_.length = keyR M by_ P i := by unfold keyJ keyR; rw [List.take_length]
                rw [hkey] at u10 ⊢
                have hkne : kN (keyR M by_ P i) ≠ [] := kN_ne _ _
                have st10 := st7.cat u10
                have hkk : keyR M by_ P i ≠ [] := List.cons_ne_nil _ _
                have hmem1 : keyR M by_ P i ∈ fnd M by_ P (i + 1) := by unfold fnd; exact (dd_mem _ _).2 (List.mem_map.2 ⟨i, List.mem_range.2 (by omega), rfl⟩)
                have hRlt := ixF_lt hmem1
                have hfl := fnd_len M by_ P (i + 1)
                (conv => whnf); refine nm_str u10 hkne rfl rfl rfl ?_
                have hsB : (⟨((kN (keyR M by_ P i)).map UInt8.ofNat).toArray⟩ : ByteArray) = kB (keyR M by_ P i) := rfl
                rw [hsB]
                generalize hkB : kB (keyR M by_ P i) = kb at *
                have hst9 : St H H10 [pS tIk 3 xa q xc (tbl P q q), pMW anyK Value.string mb (enM (fnd M by_ P i)), pS tIk 3 (some ⟨nb, 0, none⟩) q q (tbl R i q), pS tU8 tByt a5 (kN (keyR M by_ P i)).length c5 ((kN (keyR M by_ P i)).map fun (y : Nat) => (y : Int))] := st10
                have hget := enM_get (fnd_ne M by_ P i) hkk
                rw [hkB] at hget
                (conv => whnf); refine mlookOkW (a := kb) mapSI keySW trivial (hst9.mapW 1 rfl) trivial ?_
                rw [hget]
                by_cases hm : keyR M by_ P i ∈ fnd M by_ P i
                · rw [findIdx_ix hm]
                  have hfe : fnd M by_ P (i + 1) = fnd M by_ P i := by rw [fnd_succ, if_pos hm]
                  have hRv : R i = ixF (fnd M by_ P i) (keyR M by_ P i) := by rw [hRi, hfe]
                  have hRq : R i < 65536 := by rw [hRi]; omega
                  rw [← hRv]
                  (conv => whnf); refine VSeq.run ?_
                  (conv => whnf); refine ix sl33 (by omega) (by omega) ?_
                  (conv => whnf); refine st1O (j := i) (x := (R i : Int)) hst9 2 ct3 rfl rfl (by omega) (by rw [tbl_len]; omega) rfl (fun H' _ => ⟨rfl, kint ⟨by omega, by omega⟩⟩) fun H11 st11 => ?_
                  rw [tbl_set hiq] at st11
                  (conv => whnf); rw [w64 (x := (i : Int) + 1) (by omega) (by omega)]
                  refine ⟨rfl, i + 1, by simp, ⟨by omega, ?_⟩, by omega⟩
                  rw [hfe]
                  exact st11.pick [0, 1, 2] (by decide)
                · rw [findIdx_nix hm]
                  have hfe : fnd M by_ P (i + 1) = fnd M by_ P i ++ [keyR M by_ P i] := by rw [fnd_succ, if_neg hm]
                  have hRv : R i = (fnd M by_ P i).length := by rw [hRi, hfe]; exact ixF_new hm
                  have hRq : R i < 65536 := by have := fnd_len M by_ P i; rw [hRv]; omega
                  have hpt := enM_put (F := fnd M by_ P i) (k := keyR M by_ P i) (by rw [en_find (fnd_ne M by_ P i) hkk]; exact findIdx_nix hm)
                  rw [hkB] at hpt
                  (conv => whnf); refine VSeq.run ?_
                  (conv => whnf); refine mlenE (S := fun _ => True) (l := (fnd M by_ P i).map kB) mapSI (hst9.mapW 1 rfl) trivial (enM_nd (fnd_ne M by_ P i) (dd_nd _)) (fun s => enM_some) hSI ?_
                  rw [List.length_map]
                  (conv => whnf); refine nm_str u10 hkne rfl rfl rfl ?_
                  rw [hsB]
                  (conv => whnf); refine mputPW (a := kb) hst9 1 mapSI keySW trivial rfl hpt fun H11 st11 => ?_
                  rw [← hRv]
                  (conv => whnf); refine ix sl33 (by omega) (by omega) ?_
                  (conv => whnf); refine st1O (j := i) (x := (R i : Int)) st11 2 ct3 rfl rfl (by omega) (by rw [tbl_len]; omega) rfl (fun H' _ => ⟨rfl, kint ⟨by omega, by omega⟩⟩) fun H12 st12 => ?_
                  rw [tbl_set hiq] at st12
                  (conv => whnf); rw [w64 (x := (i : Int) + 1) (by omega) (by omega)]
                  refine ⟨rfl, i + 1, by simp, ⟨by omega, ?_⟩, by omega⟩
                  rw [hfe]
                  exact st12.pick [0, 1, 2] (by decide)
          · obtain rfl : i = q := by omega
            have hfnd : found M by_ (allS M) P = fnd M by_ P i := by unfold found fnd; rw [← hMn]
            have hfl := fnd_len M by_ P i
            have hRlt : ∀ x, x < i → R x < (fnd M by_ P i).length := fun x hx => by
              rw [hR, ← hfnd]
              exact refine_lt (List.mem_range.2 (by omega))
            have hnext := hI.rnd.next hreps hcl
            rw [← hR] at hnext
            have hcls : cls (allS M) R = (fnd M by_ P i).length := by rw [hR, refine_cls, hfnd]
            (conv => whnf); refine mlenE (S := fun _ => True) (l := (fnd M by_ P i).map kB) mapSI (st7.mapW 1 rfl) trivial (enM_nd (fnd_ne M by_ P i) (dd_nd _)) (fun s => enM_some) hSI ?_
            rw [List.length_map]
            by_cases hdone : (fnd M by_ P i).length ≤ cnt
            · have d1 : decide (((fnd M by_ P i).length : Int) ≤ (cnt : Int)) = true := decide_eq_true (by omega)
              (conv => whnf); rw [d1]
              (conv => whnf)
              refine ⟨st7.old, R, some ⟨nb, 0, none⟩, i, ?_, fun x hx => ?_, rfl, St.own st7 2 rfl⟩
              · rw [hR]
                refine hI.rnd.done hreps hcl ?_
                rcases hI.cnt with h | h
                · exact refine_same (by rw [hfnd, h]; exact hdone)
                · exact fun p hp r hr _ => const_found hreps.lt hcl h p hp r hr
              · have := hRlt x hx; omega
            · have d1 : decide (((fnd M by_ P i).length : Int) ≤ (cnt : Int)) = false := decide_eq_false (by omega)
              (conv => whnf); rw [d1]
              (conv => whnf); refine mlenE (S := fun _ => True) (l := (fnd M by_ P i).map kB) mapSI (st7.mapW 1 rfl) trivial (enM_nd (fnd_ne M by_ P i) (dd_nd _)) (fun s => enM_some) hSI ?_
              rw [List.length_map]
              (conv => whnf)
              exact ⟨rfl, (R, (fnd M by_ P i).length, some ⟨nb, 0, none⟩, i), rfl, ⟨⟨hnext, fun x hx => by have := hRlt x (by omega); omega, .inl hcls⟩, by omega, st7.pick [2] (by decide)⟩, by simp only; omega⟩
end Go.Proofs.YthomdogheamfpaaDoor
/- minim.Canon: the walk. -/
set_option linter.unusedVariables false
set_option linter.unusedSimpArgs false
set_option maxRecDepth 100000
namespace Go.Proofs.YthomdogheamfpaaDoor
open Go.VC
attribute [local irreducible] mRun gRun atRun
theorem filter_one5 {α : Type} {p : α → Bool} : ∀ (l : List α) (k : Nat) (x : α), l[k]? = some x → p x = true → (∀ (k' : Nat) (y : α), l[k']? = some y → p y = true → k' = k) → (l.filter p).length = 1
  | [], k, x, h, _, _ => by simp at h
  | a :: l, 0, x, h, hp, hu => by
    simp only [List.getElem?_cons_zero, Option.some.injEq] at h
    subst h
    have : l.filter p = [] := by
      rw [List.filter_eq_nil_iff]
      intro y hy hpy
      obtain ⟨j, hj⟩ := List.getElem?_of_mem hy
      have := hu (j + 1) y (by rw [List.getElem?_cons_succ]; exact hj) hpy
      omega
    rw [List.filter_cons_of_pos hp, this]; rfl
  | a :: l, k + 1, x, h, hp, hu => by
    rw [List.getElem?_cons_succ] at h
    have ha : p a = false := by
      cases hpa : p a with
      | false => rfl
      | true => have := hu 0 a rfl hpa; omega
    rw [List.filter_cons_of_neg (by rw [ha]; decide)]
    exact filter_one5 l k x h hp fun k' y hy hpy => by
      have := hu (k' + 1) y (by rw [List.getElem?_cons_succ]; exact hy) hpy
      omega
theorem cellsOk_cnt {o : Option AM} {ls : List Nat} (h : CellsOk o ls) {b : Nat} (hb : b < 256) : cnt (cellsM o) b = 1 := by
  obtain ⟨k, c, h1, h2, h3⟩ := h.part b hb
  exact filter_one5 _ k c h1 h2 h3
theorem cellsOk_len {o : Option AM} {ls : List Nat} (h : CellsOk o ls) : (cellsM o).length ≤ 256 := by
  rw [← h.len]
  refine nodup_lt (n := 256) (h.up.imp fun h => by omega) fun q hq => ?_
  obtain ⟨k, hk⟩ := List.getElem?_of_mem hq
  obtain ⟨c, hc⟩ := get_some (l := cellsM o) (k := k) (by rw [← h.len]; exact (List.getElem?_eq_some_iff.1 hk).1)
  obtain ⟨l, h1, h2, -⟩ := h.least k c hc
  rw [hk] at h1
  injection h1 with h1
  omega
theorem cellsOk_reps {o : Option AM} {ls : List Nat} (h : CellsOk o ls) : Reps (paO o) (bsOf (cellsM o)) := by
  refine ⟨fun b hb => ?_, fun b hb => ?_⟩
  · obtain ⟨c, -, rfl⟩ := List.mem_map.1 hb
    exact nextM_lt c 0
  · obtain ⟨k, c, h1, h2, -⟩ := h.part b hb
    obtain ⟨l, h3, h4, h5, -⟩ := h.least k c h1
    obtain ⟨h6, h7⟩ := h.keeps k c l b h1 h3 hb h2
    refine ⟨l, ?_, h6, fun q hq => ?_⟩
    · rw [← h5]; exact List.mem_of_getElem? (bsOf_get h1)
    · show (stepM o (q : Int) l).toNat = (stepM o (q : Int) b).toNat
      rw [h7 (q : Int) (by omega) (by have : q < stN o := hq; omega)]
/-- The bytes of the cells, rising. -/
theorem cellsOk_filter {o : Option AM} {ls : List Nat} (h : CellsOk o ls) : ∃ p : Nat → Bool, bsOf (cellsM o) = (List.range 256).filter p ∧ ∀ b, p b = true ↔ b ∈ bsOf (cellsM o) := by
  have hb : bsOf (cellsM o) = ls := by
    apply List.ext_getElem?
    intro k
    by_cases hk : k < (cellsM o).length
    · obtain ⟨c, hc⟩ := get_some hk
      obtain ⟨l, h1, h2, h3, -⟩ := h.least k c hc
      rw [bsOf_get hc, h3, h1]
    · rw [List.getElem?_eq_none (by unfold bsOf; rw [List.length_map]; omega), List.getElem?_eq_none (by rw [h.len]; omega)]
  rw [hb]
  refine ⟨fun b => decide (b ∈ ls), ?_, fun b => by rw [decide_eq_true_eq]⟩
  have hlt : ∀ b ∈ ls, b < 256 := fun b hbm => by
    rw [← hb] at hbm
    obtain ⟨c, -, rfl⟩ := List.mem_map.1 hbm
    exact nextM_lt c 0
  have uniq : ∀ l m : List Nat, l.Pairwise (· < ·) → m.Pairwise (· < ·) → (∀ q, q ∈ l ↔ q ∈ m) → l = m := by
    intro l
    induction l with
    | nil =>
      intro m _ _ h
      cases m with
      | nil => rfl
      | cons y m => have := (h y).2 (by simp); cases this
    | cons x l ih =>
      intro m hl hm h
      cases m with
      | nil => have := (h x).1 (by simp); cases this
      | cons y m =>
        obtain ⟨h1, h2⟩ := List.pairwise_cons.1 hl
        obtain ⟨k1, k2⟩ := List.pairwise_cons.1 hm
        have hxy : x = y := by
          rcases List.mem_cons.1 ((h x).1 (by simp)) with e | hx
          · exact e
          · rcases List.mem_cons.1 ((h y).2 (by simp)) with e | hy
            · exact e.symm
            · have := h1 y hy; have := k1 x hx; omega
        subst hxy
        congr 1
        refine ih m h2 k2 fun q => ⟨fun hq => ?_, fun hq => ?_⟩
        · rcases List.mem_cons.1 ((h q).1 (by simp [hq])) with e | h3
          · have := h1 q hq; omega
          · exact h3
        · rcases List.mem_cons.1 ((h q).2 (by simp [hq])) with e | h3
          · have := k1 q hq; omega
          · exact h3
  refine uniq _ _ h.up ((List.pairwise_lt_range).filter _) fun q => ?_
  rw [List.mem_filter, List.mem_range, decide_eq_true_eq]
  exact ⟨fun hq => ⟨hlt q hq, hq⟩, fun hq => hq.2⟩
theorem canonStep_p {S : Nat → Prop} {H : Heap} {v : Value} {o : Option AM} {q b pb : Nat} (hS : ∀ k, S k → k < H.size) (hv : AutoV S H v o) (hc : VC.cell H pb 0 = some v) (hb : b < 256) :
    Pure Tryd.prog 43 #[.int .i64 (q : Int), .int .u8 (b : Int), .pointer (some ⟨pb, 0, none⟩)] H (.int .i64 (stepM o (q : Int) b)) := by
  refine FnOk.of_vc Tryd.func43 rfl (Tryd.call43 _) ?_
  (conv => whnf); refine ld1 (v := v) ct29 hc trivial ?_
  (conv => whnf); refine pures (step_p hS hv hb) fun H1 ha1 => ?_
  (conv => whnf)
  exact ⟨rfl, ha1⟩
def chM (F : List Nat) (z : Int) : Option Value := (F.findIdx? fun (k : Nat) => decide ((k : Int) = z)).map fun (i : Nat) => .int .i64 (i : Int)
theorem chM_get (F : List Nat) (k : Nat) : chM F (k : Int) = (F.findIdx? (· = k)).map fun (i : Nat) => .int .i64 (i : Int) := by
  unfold chM
  have e : (fun (x : Nat) => decide ((x : Int) = (k : Int))) = fun x => decide (x = k) := funext fun x => decide_eq_decide.2 (by omega)
  rw [e]
theorem chM_put {F : List Nat} {k : Nat} (hno : k ∉ F) : put (chM F) (k : Int) (some (.int .i64 (F.length : Int))) = chM (F ++ [k]) := by
  funext z
  unfold put chM
  rw [List.findIdx?_append]
  by_cases hz : z = (k : Int)
  · subst hz
    have : F.findIdx? (fun (x : Nat) => decide ((x : Int) = (k : Int))) = none := by
      rw [List.findIdx?_eq_none_iff]
      intro x hx
      exact decide_eq_false fun e => hno (by have : x = k := by omega
                                             rw [← this]; exact hx)
    rw [if_pos rfl, this]
    simp [List.findIdx?_cons]
  · rw [if_neg hz]
    cases h : F.findIdx? fun (x : Nat) => decide ((x : Int) = z) with
    | some i => simp
    | none =>
      have : (k : Int) ≠ z := fun e => hz e.symm
      simp [List.findIdx?_cons, this]
/-- States one for each class, in the order in which the classes are found; an automaton whose states they are. -/
structure LeadsC (M : PA) (O : List Nat) (st : Int → Nat → Int) (fi : Int → Bool) : Prop where
  lt : ∀ x ∈ O, x < M.n
  st : ∀ (i b x : Nat), O[i]? = some x → b < 256 → ∃ t y : Nat, st (i : Int) b = (t : Int) ∧ O[t]? = some y ∧ M.Eqv y (M.st x b)
  fi : ∀ (i x : Nat), O[i]? = some x → fi (i : Int) = M.fi x
def InOrder (M : PA) (O : List Nat) : Prop := ∃ P, IsCls M (allS M) P ∧ detW 65537 (cst M P) (P 0) = some (O.map P)
def intsN (O : List Nat) : List Int := O.map fun (x : Nat) => (x : Int)
def CanP (o : Option AM) (H H' : Heap) (v : Value) : Prop := ∃ (rows : List (List Nat)) (O : List Nat), soundB (cellsM o) (rows.map rowI) (O.map fun (x : Nat) => finM o (x : Int)).length = true ∧ AutoV (fun k => H.size ≤ k ∧ k < H'.size) H' v (some (madeM (cellsM o) (rows.map rowI) (O.map fun (x : Nat) => finM o (x : Int)))) ∧
  InOrder (paO o) O ∧ LeadsC (paO o) O (stepM (some (madeM (cellsM o) (rows.map rowI) (O.map fun (x : Nat) => finM o (x : Int))))) (finM (some (madeM (cellsM o) (rows.map rowI) (O.map fun (x : Nat) => finM o (x : Int))))) ∧ rows.length = O.length
theorem findIdx_in {K : Type} [DecidableEq K] {F : List K} {k : K} (h : k ∈ F) : F.findIdx? (· = k) = some (ixF F k) := by
  rw [List.findIdx?_eq_some_iff_getElem]
  have hlt := ixF_lt h
  have hg := (List.getElem?_eq_some_iff.1 (ixF_get h)).2
  refine ⟨hlt, decide_eq_true hg, fun j hj => ?_⟩
  have := List.not_of_lt_findIdx (p := fun x => decide (x = k)) (xs := F) (show j < F.findIdx (fun x => decide (x = k)) from hj)
  simpa using this
theorem findIdx_out {K : Type} [DecidableEq K] {F : List K} {k : K} (h : k ∉ F) : F.findIdx? (· = k) = none := by
  rw [List.findIdx?_eq_none_iff]
  intro x hx
  exact decide_eq_false fun e => h (by rw [← e]; exact hx)
theorem nodup_map {P : Nat → Nat} {O : List Nat} (h : (O.map P).Nodup) : O.Nodup := by
  unfold List.Nodup at h ⊢
  rw [List.pairwise_map] at h
  exact h.imp fun h e => h (by rw [e])
set_option maxHeartbeats 32000000 in
theorem canon_c {S : Nat → Prop} {H : Heap} {v : Value} {o : Option AM} (hS : ∀ k, S k → k < H.size) (hv : AutoV S H v o) (hco : ∃ ls, CellsOk o ls) (hpow : PowH Tryd.prog H) :
    FnOk Tryd.prog 15 #[v] H fun r H' => Agr (Old H) H H' ∧ CanP o H H' r := by
  obtain ⟨ls, hco⟩ := hco
  have hst := hv.steps
  have hn1 := hst.n1
  have hn2 := hst.n2
  have hM := paO_ok hst
  have hreps := cellsOk_reps hco
  have hcl := cellsOk_len hco
  have hVA : ∀ {G : Heap}, Agr (Old H) H G → AutoV S G v o := fun h => hv.frame (h.mono hS)
  have up : ∀ {G : Heap}, Agr (Old H) H G → ∀ k, S k → k < G.size := fun h k hk => old_lt h (hS k hk)
  have hv1 : v.oneCell' = true := by
    cases o with
    | none => obtain rfl := hv; rfl
    | some A => obtain ⟨pb, rfl, -⟩ := hv; rfl
  have hvc : v.cells.toList = [v] := by
    cases o with
    | none => obtain rfl := hv; rfl
    | some A => obtain ⟨pb, rfl, -⟩ := hv; rfl
  refine FnOk.of_vc Tryd.func15 rfl (Tryd.call15 _) ?_
  (conv => whnf); refine vbox [v] (by rw [← hvc]) ?_
  intro p H1 hp hs1 hb1 ha1
  have st1 := (St.nil H).box hp hs1 hb1 ha1
  (conv => whnf); refine ld1 (v := v) ct29 (by rw [(st1.blk 0 rfl).cell]; rfl) trivial ?_
  (conv => whnf); refine VCall.mk (cells_o (up st1.old) (hVA st1.old)) ?_
  rintro _ H2 ⟨ha2, -, hw2⟩
  obtain ⟨ca, cc, rfl, st2⟩ := st1.got ha2 hw2
  obtain ⟨cs, hcs⟩ : ∃ cs, cs = cellsM o := ⟨_, rfl⟩
  rw [← hcs] at st2 hcl hreps ⊢
  obtain ⟨by_, hby⟩ : ∃ by_, by_ = bsOf cs := ⟨_, rfl⟩
  have hbl : by_.length = cs.length := by rw [hby]; exact List.length_map _
  (conv => whnf); refine VCall.mk (reps7_c (S := Old H2) (fun k hk => hk) (st2.view 1 rfl) hcl) ?_
  rintro _ H3 ⟨ha3, ra, rc, rfl, hw3⟩
  obtain ⟨ra', rc', e3, st3⟩ := st2.got ha3 hw3
  injection e3 with e31 e32 e33
  subst e31; subst e33
  have hbi : bsI cs = intsN by_ := by rw [hby]; rfl
  have hil : (intsN by_).length = by_.length := List.length_map _
  rw [hbi, hil] at st3
  rw [← hbl]
  rw [← hby] at hreps
  (conv => whnf); refine ld1 (v := v) ct29 (by rw [(st3.blk 0 rfl).cell]; rfl) trivial ?_
  (conv => whnf); refine VCall.mk (blocks_c (S := Old H3) (by_ := by_) (fun k hk => hk) ((hVA st3.old).mono fun k hk => up st3.old k hk) (st3.view 2 rfl) hreps (by omega) (hpow.agr st3.old)) ?_
  rintro _ H4 ⟨ha4, P, ba, bc, hP, hPlt, rfl, hw4⟩
  obtain ⟨ba', bc', e4, st4⟩ := st3.got ha4 hw4
  injection e4 with e41 e42 e43
  subst e41; subst e43
  rw [tbl_len] at st4
  obtain ⟨n, hn⟩ : ∃ n, n = stN o := ⟨_, rfl⟩
  obtain ⟨M, hMe⟩ : ∃ M, M = paO o := ⟨_, rfl⟩
  have hMn : M.n = n := by rw [hMe, hn]; rfl
  rw [← hn] at st4 hn1 hn2 hPlt ⊢
  rw [← hMe] at hM hP hreps
  have hg : ∀ q, q < n → (tbl P n n)[q]? = some (P q : Int) := fun q hq => by rw [tbl_get hq, if_pos hq]
  (conv => whnf); refine mmakeW (Ok := anyK) (enc := kI) fun mb H5 hb5 hs5 hm5 ha5 => ?_
  have st5 := st4.mapNewW hb5 hs5 hm5 ha5
  (conv => whnf); refine vbuild1 sl33 [.int .i64 0] rfl rfl (by decide) (by decide) ?_
  intro ob H6 hob hs6 hb6 ha6
  have st6 := st5.new (T := tIk) (n := 1) (xs := [(0 : Int)]) hob hs6 hb6 ha6 (Ty.reps_one ⟨rfl, kint ⟨by decide, by decide⟩⟩) rfl (by unfold maxLen; omega)
  (conv => whnf); refine ixO (j := 0) sl33 st6 3 rfl (hg 0 (by omega)) rfl ?_
  rintro b7 o7 c7 hS7 hc7 ⟨rfl, -⟩
  (conv => whnf); refine ld1 ct3 hc7.one trivial ?_
  (conv => whnf); refine mputPW (a := (P 0 : Int)) st6 4 mapII keyIW trivial rfl rfl fun H7 st7 => ?_
  have hput0 : put (fun _ : Int => (none : Option Value)) (P 0 : Int) (some (.int .i64 0)) = chM [P 0] := chM_put (F := []) (by simp)
  rw [hput0] at st7
  have st8 : St H H7 [pB 29 p [v], pN tSet (fun _ => False) 73 ca cs.length cc cs, pS tU8 tByt ra by_.length rc (intsN by_), pS tIk 3 ba n bc (tbl P n n), pMW anyK kI mb (chM ([0].map P)), pS tIk 3 (some ⟨ob, 0, none⟩) 1 1 (intsN [0]), pN (tSl tIk) none_ 33 none 0 0 [], pS tBool 4 none 0 0 []] := (st7.nils (tSl tIk) 33).nils tBool 4
  (conv => whnf)
  refine VLoop.mk [8, 9, 10, 11] (fun x : Nat × List Nat × Option Addr × Nat × Option Addr × Nat × Option Addr × Nat => match x with | (i, O, oa, oc, na, nc, fa, fc) => [.slice oa O.length oc, .slice na i nc, .slice fa i fc, .int .i64 (i : Int)])
    (fun x H8 => match x with | (i, O, oa, oc, na, nc, fa, fc) => i ≤ O.length ∧ (∀ x ∈ O, x < n) ∧ (O.map P).Nodup ∧ ∃ rows Sn, rows.length = i ∧ rowsF 65537 (cst M P) by_ (P 0) i = some (O.map P, rows) ∧ St H H8 [pB 29 p [v], pN tSet (fun _ => False) 73 ca cs.length cc cs, pS tU8 tByt ra by_.length rc (intsN by_), pS tIk 3 ba n bc (tbl P n n), pMW anyK kI mb (chM (O.map P)), pS tIk 3 oa O.length oc (intsN O), pN (tSl tIk) Sn 33 na i nc (rows.map rowI), pS tBool 4 fa i fc ((O.take i).map fun (x : Nat) => finM o (x : Int))]) (fun x _ => 65537 - x.1) ?_ ?_
  · (conv => whnf)
    exact ⟨(0, [0], some ⟨ob, 0, none⟩, 1, none, 0, none, 0), rfl, Nat.zero_le _, (fun x hx => by rw [List.mem_singleton] at hx; subst hx; omega), by simp, [], none_, rfl, rfl, st8⟩
  · clear st8 st7 st6 st5 st4 st3 st2 st1 hput0
    rintro ⟨i, O, oa, oc, na, nc, fa, fc⟩ H8 junk8 ⟨hi, hOl, hOn, rows, Sn, hrl, hrun, st8⟩
    have hOlen := nodup_lt (nodup_map hOn) hOl
    (conv => whnf); refine VIte.mk (fun hz => ?_) (fun hz => ?_) <;> simp only [decide_eq_true_eq, decide_eq_false_iff_not] at hz
    · obtain ⟨x, hx⟩ := get_some (l := O) (k := i) (by omega)
      have hxn := hOl x (List.mem_of_getElem? hx)
      have hgx : (intsN O)[i]? = some (x : Int) := by unfold intsN; rw [List.getElem?_map, hx]; rfl
      have hxP : (O.map P)[i]? = some (P x) := by rw [List.getElem?_map, hx]; rfl
      have hnext : rowsF 65537 (cst M P) by_ (P 0) (i + 1) = (by_.foldl (rowF 65537 (cst M P) (P x)) (some (O.map P, []))).map fun r => (r.1, rows ++ [r.2]) := by
        show (rowsF 65537 (cst M P) by_ (P 0) i).bind _ = _
        rw [hrun]
        simp only [Option.bind_some, hxP]
      have st9 := st8.nils tIk 3
      (conv => whnf)
      refine VLoop.mk [8, 12, 40] (fun y : Nat × List Nat × List Nat × Option Addr × Nat × Option Addr × Nat => match y with | (j, O2, row, oa, oc, ra2, rc2) => [.slice oa O2.length oc, .slice ra2 row.length rc2, .int .i64 (j : Int)])
        (fun y H9 => match y with | (j, O2, row, oa, oc, ra2, rc2) => j ≤ by_.length ∧ (∀ x ∈ O2, x < n) ∧ (O2.map P).Nodup ∧ O <+: O2 ∧ row.length = j ∧ (by_.take j).foldl (rowF 65537 (cst M P) (P x)) (some (O.map P, [])) = some (O2.map P, row) ∧ St H H9 [pB 29 p [v], pN tSet (fun _ => False) 73 ca cs.length cc cs, pS tU8 tByt ra by_.length rc (intsN by_), pS tIk 3 ba n bc (tbl P n n), pMW anyK kI mb (chM (O2.map P)), pS tIk 3 oa O2.length oc (intsN O2), pN (tSl tIk) Sn 33 na i nc (rows.map rowI), pS tBool 4 fa i fc ((O.take i).map fun (x : Nat) => finM o (x : Int)), pS tIk 3 ra2 row.length rc2 (rowI row)]) (fun y _ => by_.length - y.1) ?_ ?_
      · (conv => whnf)
        exact ⟨(0, O, [], oa, oc, none, 0), rfl, Nat.zero_le _, hOl, hOn, List.prefix_refl _, rfl, rfl, st9⟩
      · clear st9 st8
        rintro ⟨j, O2, row, oa, oc, ra2, rc2⟩ H9 junk9 ⟨hj, hO2l, hO2n, hpre, hrowl, hfold, st9⟩
        have hO2len := nodup_lt (nodup_map hO2n) hO2l
        have hx2 := pre_get hpre hx
        have hgx2 : (intsN O2)[i]? = some (x : Int) := by unfold intsN; rw [List.getElem?_map, hx2]; rfl
        (conv => whnf); refine VIte.mk (fun hz2 => ?_) (fun hz2 => ?_) <;> simp only [decide_eq_true_eq, decide_eq_false_iff_not] at hz2
        · obtain ⟨b, hb⟩ := get_some (l := by_) (k := j) (by omega)
          have hb8 := hreps.lt b (List.mem_of_getElem? hb)
          have hgb : (intsN by_)[j]? = some (b : Int) := by unfold intsN; rw [List.getElem?_map, hb]; rfl
          have htn : M.st x b < n := by rw [← hMn]; exact hM.cl x b (by omega) hb8
          have hcst := cst_of hM hP (q := x) (b := b) (by omega) hb8
          have hstep : (by_.take (j + 1)).foldl (rowF 65537 (cst M P) (P x)) (some (O.map P, [])) = (atF 65537 (O2.map P) (P (M.st x b))).map fun r => (r.1, row ++ [r.2]) := by
            rw [take_succ_snoc hb, List.foldl_append, hfold, ← hcst]
            rfl
          (conv => whnf); refine ixO (j := j) sl85 st9 2 rfl hgb rfl ?_
          rintro b10 o10 c10 hS10 hc10 ⟨rfl, -⟩
          (conv => whnf); refine ld1 ct5 hc10.one trivial ?_
          (conv => whnf); refine ixO (j := i) sl33 st9 5 rfl hgx2 rfl ?_
          rintro b11 o11 c11 hS11 hc11 ⟨rfl, -⟩
          (conv => whnf); refine ld1 ct3 hc11.one trivial ?_
          (conv => whnf); refine pures (canonStep_p (up st9.old) (hVA st9.old) (by rw [(st9.blk 0 rfl).cell]; rfl) hb8) fun H12 ha12 => ?_
          have st12 := st9.call ha12
          have e12 : stepM o (x : Int) b = (M.st x b : Int) := by rw [hMe]; exact paO_st hst (by omega) hb8
          rw [e12]
          (conv => whnf); refine ixO (j := M.st x b) sl33 st12 3 rfl (hg _ htn) rfl ?_
          rintro b13 o13 c13 hS13 hc13 ⟨rfl, -⟩
          (conv => whnf); refine ld1 ct3 hc13.one trivial ?_
          (conv => whnf); refine mlookOkW (a := (P (M.st x b) : Int)) mapII keyIW trivial (st12.mapW 4 rfl) trivial ?_
          rw [chM_get]
          have hbi2 : 65536 < 65537 := by decide
          by_cases hm : P (M.st x b) ∈ O2.map P
          · rw [findIdx_in hm]
            have hat : atF 65537 (O2.map P) (P (M.st x b)) = some (O2.map P, ixF (O2.map P) (P (M.st x b))) := by unfold atF; rw [findIdx_in hm]
            have hlt := ixF_lt hm
            rw [List.length_map] at hlt
            rw [hat] at hstep
            generalize ixF (O2.map P) (P (M.st x b)) = t at *
            (conv => whnf); refine VSeq.run ?_
            (conv => whnf); refine vbuild1 sl33 [.int .i64 (t : Int)] rfl rfl (by decide) (by decide) ?_
            intro q14 H14 hq14 hs14 hb14 ha14
            have hrI : (rowI row).length = row.length := by unfold rowI; rw [List.length_map]
            (conv => whnf); refine app1 (x := (t : Int)) (st12.skip hq14 ha14) 8 sl33 rfl hb14 ⟨rfl, kint ⟨by omega, by omega⟩⟩ rfl (by rw [hrI]; omega) (by decide) fun a15 c15 H15 st15 _ => ?_
            have e1 : (rowI row).length + 1 = (row ++ [t]).length := by rw [hrI]; simp
            have e2 : rowI row ++ [(t : Int)] = rowI (row ++ [t]) := by unfold rowI; simp
            rw [e1, e2] at st15
            rw [e1]
            (conv => whnf); rw [w64 (x := (j : Int) + 1) (by omega) (by omega)]
            exact ⟨rfl, (j + 1, O2, row ++ [t], oa, oc, a15, c15), by simp, ⟨by omega, hO2l, hO2n, hpre, by simp [hrowl], hstep, st15⟩, by simp only; omega⟩
          · rw [findIdx_out hm]
            have hat : atF 65537 (O2.map P) (P (M.st x b)) = some ((O2 ++ [M.st x b]).map P, O2.length) := by
              unfold atF
              rw [findIdx_out hm]
              simp only
              rw [if_pos (by rw [List.length_map]; omega), List.map_append, List.length_map]
              rfl
            rw [hat] at hstep
            have hO3l : ∀ y ∈ O2 ++ [M.st x b], y < n := fun y hy => by
              rcases List.mem_append.1 hy with hy | hy
              · exact hO2l y hy
              · rw [List.mem_singleton] at hy; subst hy; exact htn
            have hO3n : ((O2 ++ [M.st x b]).map P).Nodup := by
              rw [List.map_append]
              exact List.nodup_append.2 ⟨hO2n, by simp, fun y hy z hz e => by simp only [List.map_cons, List.map_nil, List.mem_singleton] at hz; subst hz; subst e; exact hm hy⟩
            have hO3len := nodup_lt (nodup_map hO3n) hO3l
            rw [List.length_append, List.length_singleton] at hO3len
            have hput := chM_put (F := O2.map P) (k := P (M.st x b)) hm
            rw [List.length_map] at hput
            have hoI : (intsN O2).length = O2.length := by unfold intsN; rw [List.length_map]
            (conv => whnf); refine VSeq.run ?_
            (conv => whnf); refine ixO (j := M.st x b) sl33 st12 3 rfl (hg _ htn) rfl ?_
            rintro b14 o14 c14 hS14 hc14 ⟨rfl, -⟩
            (conv => whnf); refine ld1 ct3 hc14.one trivial ?_
            (conv => whnf); refine mputPW (a := (P (M.st x b) : Int)) st12 4 mapII keyIW trivial rfl hput fun H14 st14 => ?_
            (conv => whnf); refine vbuild1 sl33 [.int .i64 (M.st x b : Int)] rfl rfl (by decide) (by decide) ?_
            intro q15 H15 hq15 hs15 hb15 ha15
            (conv => whnf); refine app1 (x := (M.st x b : Int)) (st14.skip hq15 ha15) 5 sl33 rfl hb15 ⟨rfl, kint ⟨by omega, by omega⟩⟩ rfl (by rw [hoI]; omega) (by decide) fun a16 c16 H16 st16 _ => ?_
            have e3 : (intsN O2).length + 1 = (O2 ++ [M.st x b]).length := by rw [hoI]; simp
            have e4 : intsN O2 ++ [(M.st x b : Int)] = intsN (O2 ++ [M.st x b]) := by unfold intsN; simp
            rw [e3, e4] at st16
            rw [e3]
            (conv => whnf); refine vbuild1 sl33 [.int .i64 (O2.length : Int)] rfl rfl (by decide) (by decide) ?_
            intro q17 H17 hq17 hs17 hb17 ha17
            have hrI : (rowI row).length = row.length := by unfold rowI; rw [List.length_map]
            (conv => whnf); refine app1 (x := (O2.length : Int)) (st16.skip hq17 ha17) 8 sl33 rfl hb17 ⟨rfl, kint ⟨by omega, by omega⟩⟩ rfl (by rw [hrI]; omega) (by decide) fun a18 c18 H18 st18 _ => ?_
            have e1 : (rowI row).length + 1 = (row ++ [O2.length]).length := by rw [hrI]; simp
            have e2 : rowI row ++ [(O2.length : Int)] = rowI (row ++ [O2.length]) := by unfold rowI; simp
            rw [e1, e2] at st18
            rw [e1]
            (conv => whnf); rw [w64 (x := (j : Int) + 1) (by omega) (by omega)]
            have e5 : (O2 ++ [M.st x b]).map P = O2.map P ++ [P (M.st x b)] := by rw [List.map_append]; rfl
            rw [← e5] at st18
            exact ⟨rfl, (j + 1, O2 ++ [M.st x b], row ++ [O2.length], a16, c16, a18, c18), by simp, ⟨by omega, hO3l, hO3n, hpre.trans (List.prefix_append _ _), by simp [hrowl], hstep, st18⟩, by simp only; omega⟩
        · obtain rfl : j = by_.length := by omega
          rw [List.take_length] at hfold
          rw [hfold] at hnext
          simp only [Option.map_some] at hnext
          have hri : (rowI row).length = row.length := by unfold rowI; rw [List.length_map]
          have hrl2 : (rows.map rowI).length = i := by rw [List.length_map]; exact hrl
          have hend : ((O2.take (i + 1)).map fun (x : Nat) => finM o (x : Int)) = ((O.take i).map fun (x : Nat) => finM o (x : Int)) ++ [finM o (x : Int)] := by
            obtain ⟨t, rfl⟩ := hpre
            rw [List.take_append_of_le_length (by omega), take_succ_snoc hx, List.map_append]
            rfl
          have hel7 : ((O.take i).map fun (x : Nat) => finM o (x : Int)).length = i := by rw [List.length_map, List.length_take]; omega
          obtain ⟨ra', rc', er, hrow7, -⟩ := (st9.at_ 8 rfl).1.view (S' := slB (.slice ra2 row.length rc2)) (fun b hb => hb) (fun b hb => hb.elim)
          rw [hri] at er
          injection er with er1 er2 er3
          subst er1; subst er3
          have st10 := StB.absorb (st9.pick [6, 8, 0, 1, 2, 3, 4, 5, 7] (by decide))
          (conv => whnf); refine vbuild1 sl23 [.slice ra2 row.length rc2] rfl rfl (by decide) (by decide) ?_
          intro q11 H11 hq11 hs11 hb11 ha11
          have st11 := st10.skip hq11 ha11
          have hrow11 : SlD tIk (fun k => Sn k ∨ slB (.slice ra2 row.length rc2) k) H11 ra2 rc2 (rowI row) := (hrow7.frame (ha11.mono fun k hk => by
            have := (st9.in_ 8 rfl (.inl hk)).2
            omega)).mono fun k hk => .inr hk
          (conv => whnf); refine appNO (row := rowI row) st11 sl23 (hb11.cells fun j v hv => by rw [Nat.zero_add]; exact hv) ⟨ra2, rc2, by rw [hri], hrow11⟩ rfl (fun u hu => by cases List.mem_singleton.1 hu; rfl) (by rw [hrl2]; omega) (by decide) fun a12 c12 H12 st12 => ?_
          have e5 : rows.map rowI ++ [rowI row] = (rows ++ [row]).map rowI := by simp
          rw [hrl2, e5] at st12
          rw [hrl2]
          have d0 := st12.apart2 (i := 1) (j := 7) rfl rfl (by decide)
          have d6 := st12.apart2 (i := 6) (j := 7) rfl rfl (by decide)
          have hq0 : p < H12.size ∧ ¬ slB (.slice fa i fc) p := ⟨(st12.in_ 1 rfl rfl).2, fun h => d0 p rfl (.inl h)⟩
          have hoI : (intsN O2).length = O2.length := by unfold intsN; rw [List.length_map]
          obtain ⟨oa', oc', eo, hov, -⟩ := (st12.at_ 6 rfl).1.view (S' := fun k => k < H12.size ∧ ¬ slB (.slice fa i fc) k) (fun b hb => ⟨(st12.in_ 6 rfl (.inl hb)).2, fun h => d6 b (.inl hb) (.inl h)⟩) (fun b hb => hb.elim)
          rw [hoI] at eo
          injection eo with eo1 eo2 eo3
          subst eo1; subst eo3
          (conv => whnf); refine VDraw.held (fun k => k < H12.size ∧ ¬ slB (.slice fa i fc) k) 9 (sq [0,1,2,3,4,5] (.f 6 (.f 7 (.f 8 (.f 9 .e))))) rfl (by kernel_rfl) ?_
          (conv => whnf); refine ld1 (v := v) ct29 (by rw [(st12.blk 1 rfl).cell]; rfl) hq0 ?_
          (conv => whnf); refine ixrn (i := i) sl33 hov hoI.symm hgx2 rfl ?_
          rintro b13 o13 c13 hS13 hc13 ⟨rfl, -⟩
          (conv => whnf); refine ld1 ct3 hc13.one hS13 ?_
          (conv => whnf); refine pures (final_p (hVA st12.old)) fun H13 ha13 => ?_
          have st13 := st12.call ha13
          refine ⟨ha13.mono fun k hk => hk.1, ?_⟩
          (conv => whnf); refine vbuild1 sl24 [.bool (finM o (x : Int))] rfl rfl (by decide) (by decide) ?_
          intro q14 H14 hq14 hs14 hb14 ha14
          have st14 := st13.skip hq14 ha14
          have g14 : Agr (fun k => k < H12.size) H12 H14 := ha13.trans (ha14.mono fun k hk => by have := old_lt ha13 hk; omega)
          refine ⟨g14.mono fun k hk => hk.1, ?_⟩
          (conv => whnf); refine app1 (x := finM o (x : Int)) st14 7 sl24 rfl hb14 rfl rfl (by rw [hel7]; omega) (by decide) fun a15 c15 H15 st15 ha15 => ?_
          refine ⟨(g14.mono fun k hk => hk.1).trans (ha15.mono fun k hk => ⟨old_lt g14 hk.1, hk.2⟩), ?_⟩
          rw [hel7, ← hend] at st15
          rw [hel7]
          (conv => whnf); rw [w64 (x := (i : Int) + 1) (by omega) (by omega)]
          refine ⟨rfl, (i + 1, O2, oa, oc, a12, c12, a15, c15), by simp, ⟨?_, hO2l, hO2n, rows ++ [row], _, by simp [hrl], hnext, st15.pick [1, 2, 3, 4, 5, 6, 0, 7] (by decide)⟩, by simp only; omega⟩
          have := hpre.length_le
          omega
    · obtain rfl : i = O.length := by omega
      rw [List.take_length] at st8
      have hml : (O.map P).length = O.length := List.length_map _
      have hdet := detF_done hrun hml (by omega)
      have hrl2 : (rows.map rowI).length = O.length := by rw [List.length_map]; exact hrl
      have hfl2 : (O.map fun (x : Nat) => finM o (x : Int)).length = O.length := List.length_map _
      have hk := rowsF_ok (by decide) O.length (O.map P) rows hrun fun j hj => by omega
      have h0 := (List.getElem?_eq_some_iff.1 hk.zero).1
      have hs : soundB cs (rows.map rowI) (O.map fun (x : Nat) => finM o (x : Int)).length = true := by
        rw [soundB_iff]
        refine ⟨⟨by omega, by omega, by omega⟩, fun b hb => by rw [hcs]; exact cellsOk_cnt hco hb, fun r hr => ?_⟩
        obtain ⟨row, hrow, rfl⟩ := List.mem_map.1 hr
        obtain ⟨q, hq⟩ := List.getElem?_of_mem hrow
        have hcl1 := hk.cols row hrow
        unfold rowOk
        rw [Bool.and_eq_true, beq_iff_eq, List.all_eq_true]
        refine ⟨by unfold rowI; rw [List.length_map]; omega, fun t ht => ?_⟩
        obtain ⟨u, hu, rfl⟩ := List.mem_map.1 ht
        obtain ⟨k, hku⟩ := List.getElem?_of_mem hu
        obtain ⟨b, hb⟩ := get_some (l := by_) (k := k) (by have := (List.getElem?_eq_some_iff.1 hku).1; omega)
        have hql := (List.getElem?_eq_some_iff.1 hq).1
        obtain ⟨x, hx⟩ := get_some (l := O.map P) (k := q) (by omega)
        have := (List.getElem?_eq_some_iff.1 (hk.ok q k row b u x hq hb hku hx)).1
        simp only [Bool.and_eq_true, decide_eq_true_eq]
        omega
      have hnew := new_c ca na fa cc nc fc cs (rows.map rowI) (O.map fun (x : Nat) => finM o (x : Int)) (Old H8) H8 (fun k hk => hk) (st8.view 1 rfl) (st8.view 6 rfl) (st8.view 7 rfl)
      rw [hs, if_pos rfl, hrl2, hfl2] at hnew
      rw [hbl]
      (conv => whnf); refine VCall.mk hnew ?_
      rintro v9 H9 ⟨ha9, hs9, hv9⟩
      have st9 := st8.call ha9
      (conv => whnf)
      refine ⟨st9.old, rows, O, ?_⟩
      rw [← hcs, ← hMe]
      refine ⟨hs, hv9.mono fun k hk => ⟨Nat.le_trans (old_size st8.old) hk.1, hk.2⟩, ⟨P, hP, ?_⟩, ⟨fun x hx => by rw [hMn]; exact hOl x hx, fun i b x hx hb => ?_, fun i x hx => ?_⟩, hrl⟩
      · obtain ⟨pf, hpf, hpm⟩ := cellsOk_filter hco
        rw [← hcs, ← hby] at hpf
        rw [← hcs, ← hby] at hpm
        rw [← detW_of (P := fun _ => True) (p := pf) (fun b hb hpb => ?_) (by decide) trivial (fun _ _ _ => trivial), ← hpf, hdet]
        · rfl
        · obtain ⟨g, hg1, hg2, hg3⟩ := hreps.cov b hb
          have hgb : g ≠ b := fun e => by rw [e] at hg1; rw [(hpm b).2 hg1] at hpb; cases hpb
          refine ⟨g, by omega, (hpm g).2 hg1, fun k _ => ?_⟩
          unfold cst
          split
          · rename_i q hq
            rw [hg3 q (List.mem_range.1 (List.mem_of_find?_eq_some hq))]
          · rfl
      · have hil := (List.getElem?_eq_some_iff.1 hx).1
        obtain ⟨row, hrow⟩ := get_some (l := rows) (k := i) (by omega)
        have hcl1 := hk.cols row (List.mem_of_getElem? hrow)
        obtain ⟨c1, c2⟩ := soundB_cells hs hb
        obtain ⟨c, hc⟩ := get_some c1
        have hcb := c2 c hc
        obtain ⟨t, ht⟩ := get_some (l := row) (k := cellOf cs b) (by omega)
        have hbs : by_[cellOf cs b]? = some (nextM c 0).1 := by rw [hby]; exact bsOf_get hc
        have hxP : (O.map P)[i]? = some (P x) := by rw [List.getElem?_map, hx]; rfl
        have hok := hk.ok i _ row _ t (P x) hrow hbs ht hxP
        have hxn := hOl x (List.mem_of_getElem? hx)
        have hl8 := nextM_lt c 0
        rw [cst_of hM hP (by omega) hl8] at hok
        have htl := (List.getElem?_eq_some_iff.1 hok).1
        obtain ⟨y, hy⟩ := get_some (l := O) (k := t) (by omega)
        rw [List.getElem?_map, hy] at hok
        have hPy : P y = P (M.st x (nextM c 0).1) := by simpa using hok
        have hyn := hOl y (List.mem_of_getElem? hy)
        have hE := (hP y (List.mem_range.2 (by omega)) _ (List.mem_range.2 (hM.cl x _ (by omega) hl8))).1 hPy
        obtain ⟨l, k3, k4, k5, -⟩ := hco.least (cellOf cs b) c (by rw [← hcs]; exact hc)
        obtain ⟨-, k7⟩ := hco.keeps (cellOf cs b) c l b (by rw [← hcs]; exact hc) k3 hb hcb
        have hsame : M.st x (nextM c 0).1 = M.st x b := by
          rw [k5, hMe]
          show (stepM o (x : Int) l).toNat = (stepM o (x : Int) b).toNat
          rw [k7 (x : Int) (by omega) (by rw [← hn]; omega)]
        rw [hsame] at hE
        refine ⟨t, y, ?_, hy, hE⟩
        rw [madeM_step (row := rowI row) hs (by rw [List.getElem?_map, hrow]; rfl) hb]
        unfold rowI
        rw [List.getD_eq_getElem?_getD, List.getElem?_map, ht]
        rfl
      · rw [hMe]
        simp [finM, madeM, hx, paO]
end Go.Proofs.YthomdogheamfpaaDoor
/- louperef07.reached: the walk. -/
set_option linter.unusedVariables false
set_option linter.unusedSimpArgs false
set_option maxRecDepth 100000
namespace Go.Proofs.YthomdogheamfpaaDoor
open Go.VC
attribute [local irreducible] mRun gRun atRun
/-- The document's automaton says what M says. -/
structure DocM (D : DM) (M : PA) : Prop where
  n : M.n = D.next.length
  st : ∀ q b, q < M.n → b < 256 → stepD D (q : Int) b = (M.st q b : Int)
  fi : ∀ q, q < M.n → finD D (q : Int) = M.fi q
/-- Its columns have bytes that stand for them. -/
structure RepD (D : DM) (by_ : List Nat) : Prop where
  reps : D.reps = intsN by_
  rl : ∀ row ∈ D.next, row.length = by_.length
  le : by_.length ≤ 256
  lt : ∀ b ∈ by_, b < 256
  at_ : ∀ (c b : Nat), by_[c]? = some b → D.cell[b]? = some (c : Int)
  cov : ∀ b, b < 256 → ∃ c g : Nat, D.cell[b]? = some (c : Int) ∧ by_[c]? = some g ∧ g ≤ b
def seenB (L : List Nat) (n : Nat) : List Bool := (List.range n).map fun (j : Nat) => decide (j ∈ L)
theorem seenB_len (L : List Nat) (n : Nat) : (seenB L n).length = n := by simp [seenB]
theorem seenB_get {L : List Nat} {n j : Nat} (h : j < n) : (seenB L n)[j]? = some (decide (j ∈ L)) := by
  unfold seenB
  rw [List.getElem?_map, List.getElem?_range h]
  rfl
theorem seenB_set {L : List Nat} {n q : Nat} (h : q < n) : (seenB L n).set q true = seenB (L ++ [q]) n := by
  apply List.ext_getElem?
  intro j
  by_cases hj : j < n
  · rw [seenB_get hj, List.getElem?_set, seenB_len]
    by_cases hjq : q = j
    · subst hjq; rw [if_pos rfl, if_pos hj]; simp
    · rw [if_neg hjq, seenB_get hj]
      refine congrArg some (decide_eq_decide.2 ?_)
      rw [List.mem_append, List.mem_singleton]
      exact ⟨.inl, fun h => h.resolve_right fun e => hjq e.symm⟩
  · rw [List.getElem?_eq_none (by rw [List.length_set, seenB_len]; omega), List.getElem?_eq_none (by rw [seenB_len]; omega)]
theorem seenB_nil (n : Nat) : seenB [] n = List.replicate n false := by
  unfold seenB
  simp [List.map_const']
end Go.Proofs.YthomdogheamfpaaDoor
/- louperef07.parts: the walk. -/
set_option linter.unusedVariables false
set_option linter.unusedSimpArgs false
set_option maxRecDepth 100000
namespace Go.Proofs.YthomdogheamfpaaDoor
open Go.VC
attribute [local irreducible] mRun gRun atRun
end Go.Proofs.YthomdogheamfpaaDoor
/- louperef07.Canon: the walk. -/
set_option linter.unusedVariables false
set_option linter.unusedSimpArgs false
set_option maxRecDepth 100000
namespace Go.VC
end Go.VC
namespace Go.Proofs.YthomdogheamfpaaDoor
open Go.VC
attribute [local irreducible] mRun gRun atRun
end Go.Proofs.YthomdogheamfpaaDoor
/- Two automata whose states are the classes in the order in which they are found are alike; plain law. -/
set_option linter.unusedVariables false
set_option linter.unusedSimpArgs false
namespace Go.Proofs.YthomdogheamfpaaDoor
end Go.Proofs.YthomdogheamfpaaDoor
/- same of the laws of layer 7: the walk (loupelaw05's, with a question for nil ahead). -/
set_option linter.unusedVariables false
set_option linter.unusedSimpArgs false
set_option maxRecDepth 100000
namespace Go.Proofs.YthomdogheamfpaaDoor
open Go.VC
attribute [local irreducible] mRun atRun
end Go.Proofs.YthomdogheamfpaaDoor
/- MinimCanons: same holds of the two canonical automata. -/
set_option linter.unusedVariables false
set_option linter.unusedSimpArgs false
set_option maxRecDepth 100000
namespace Go.Proofs.YthomdogheamfpaaDoor
open Go.VC
attribute [local irreducible] mRun gRun atRun
end Go.Proofs.YthomdogheamfpaaDoor
/- The document's automaton against the program's: DocM. -/
set_option linter.unusedVariables false
set_option linter.unusedSimpArgs false
set_option maxRecDepth 100000
namespace Go.Proofs.YthomdogheamfpaaDoor
open Go.VC
attribute [local irreducible] mRun gRun atRun
theorem Both.stepOk {o : Option AM} {D : DM} (h : Both o D) : StepOk o :=
  ⟨by rw [h.n]; exact h.ok.n1, by rw [h.n]; exact h.ok.n2, fun q b hq hb => by
    have := stepD_range h.ok hq.1 (by have := hq.2; rw [h.n] at this; exact this) hb
    unfold inA
    rw [h.step q b hb, h.n]
    exact this⟩
end Go.Proofs.YthomdogheamfpaaDoor
/- ambig's Meets: the walks. -/
set_option linter.unusedVariables false
set_option linter.unusedSimpArgs false
set_option maxRecDepth 100000
namespace Go.Proofs.YthomdogheamfpaaDoor
open Go.VC
attribute [local irreducible] mRun gRun atRun
end Go.Proofs.YthomdogheamfpaaDoor
/- Search by breadth in a graph, bytes in ascending order: the first end that is found has the first word; plain law. -/
set_option linter.unusedVariables false
set_option linter.unusedSimpArgs false
namespace Go.Proofs.YthomdogheamfpaaDoor
/-- Shorter, or as long and no later in order. -/
def leL (u v : List Nat) : Prop := u.length < v.length ∨ (u.length = v.length ∧ lexL u v)
theorem leL_refl (u : List Nat) : leL u u := .inr ⟨rfl, lexL_refl u⟩
theorem leL_trans {u v w : List Nat} (h : leL u v) (k : leL v w) : leL u w := by
  rcases h with h | ⟨h1, h2⟩ <;> rcases k with k | ⟨k1, k2⟩
  · exact .inl (by omega)
  · exact .inl (by omega)
  · exact .inl (by omega)
  · exact .inr ⟨by omega, lexL_trans h1 k1 h2 k2⟩
theorem leL_snoc {u v : List Nat} (b : Nat) (h : leL u v) : leL (u ++ [b]) (v ++ [b]) := by
  rcases h with h | ⟨h1, h2⟩
  · exact .inl (by simpa using h)
  · exact .inr ⟨by simp [h1], lexL_snoc b h1 h2⟩
theorem lexL_last : ∀ (u : List Nat) {b c : Nat}, b ≤ c → lexL (u ++ [b]) (u ++ [c])
  | [], b, c, h => by
    show lexL [b] [c]
    unfold lexL
    rcases Nat.lt_or_eq_of_le h with h | h
    · exact .inl h
    · exact .inr ⟨h, lexL_refl _⟩
  | a :: u, b, c, h => by
    show lexL (a :: (u ++ [b])) (a :: (u ++ [c]))
    unfold lexL
    exact .inr ⟨rfl, lexL_last u h⟩
theorem lexL_wide : ∀ {u v : List Nat} (b c : Nat), u.length = v.length → lexL u v → u ≠ v → lexL (u ++ [b]) (v ++ [c])
  | [], [], _, _, _, _, h => absurd rfl h
  | [], _ :: _, _, _, h, _, _ => by simp at h
  | _ :: _, [], _, _, h, _, _ => by simp at h
  | a :: u, d :: v, b, c, h, h1, h2 => by
    unfold lexL at h1
    show lexL (a :: (u ++ [b])) (d :: (v ++ [c]))
    unfold lexL
    rcases h1 with h1 | ⟨rfl, h1⟩
    · exact .inl h1
    · exact .inr ⟨rfl, lexL_wide b c (by simpa using h) h1 fun e => h2 (by rw [e])⟩
theorem leL_wide {u v : List Nat} (b c : Nat) (h : leL u v) (hne : u ≠ v) : leL (u ++ [b]) (v ++ [c]) := by
  rcases h with h | ⟨h1, h2⟩
  · exact .inl (by simpa using h)
  · exact .inr ⟨by simp [h1], lexL_wide b c h1 h2 hne⟩
/-- i have been looked at whole; of the next one what holds of d. -/
structure BfsOk (g : Gr) (by_ : List Nat) (a : Nd) (F : List NW) (i : Nat) (k : Nat) : Prop where
  zero : F[0]? = some (a, [])
  nd : (F.map (·.1)).Nodup
  ok : ∀ x ∈ F, (∀ b ∈ x.2, b ∈ by_) ∧ To g x.2 a x.1
  up : ∀ (j l : Nat) (x y : NW), j < l → F[j]? = some x → F[l]? = some y → leL x.2 y.2 ∧ x.2 ≠ y.2
  closed : ∀ (j l : Nat) (x : NW) (b : Nat) (t : Nd), F[j]? = some x → by_[l]? = some b → t ∈ g.next x.1 b → (j < i ∨ (j = i ∧ l < k)) → ∃ y ∈ F, y.1 = t ∧ leL y.2 (x.2 ++ [b])
  par : ∀ (m : Nat) (y : NW), F[m]? = some y → m = 0 ∨ ∃ (j l b : Nat) (x : NW), F[j]? = some x ∧ by_[l]? = some b ∧ y.2 = x.2 ++ [b] ∧ (j < i ∨ (j = i ∧ l < k))
section
variable {g : Gr} {by_ : List Nat} {a t : Nd} {F F' : List NW} {i k : Nat}
theorem BfsOk.start : BfsOk g by_ a [(a, [])] 0 0 := by
  refine ⟨rfl, by simp, fun x hx => ?_, fun j l x y hj hx hy => ?_, fun j l x b t hx hb ht h => by omega, fun m y hy => .inl ?_⟩
  · rw [List.mem_singleton] at hx
    subst hx
    exact ⟨fun b hb => (by cases hb), rfl⟩
  · have := (List.getElem?_eq_some_iff.1 hy).1
    simp at this
    omega
  · have := (List.getElem?_eq_some_iff.1 hy).1
    simp at this
    omega
theorem BfsOk.turn (h : BfsOk g by_ a F i k) (hk : by_.length ≤ k) : BfsOk g by_ a F (i + 1) 0 := by
  refine ⟨h.zero, h.nd, h.ok, h.up, fun j l x b t hx hb ht hj => h.closed j l x b t hx hb ht ?_, fun m y hy => ?_⟩
  · have := (List.getElem?_eq_some_iff.1 hb).1
    omega
  · rcases h.par m y hy with h0 | ⟨j, l, b, x, h1, h2, h3, h4⟩
    · exact .inl h0
    · exact .inr ⟨j, l, b, x, h1, h2, h3, by omega⟩
/-- All that has been found comes no later than what is looked at next. -/
theorem BfsOk.ahead (h : BfsOk g by_ a F i k) (hup : by_.Pairwise (· < ·)) {x : NW} (hx : F[i]? = some x) {b : Nat} (hb : by_[k]? = some b) {m : Nat} {y : NW} (hy : F[m]? = some y) : leL y.2 (x.2 ++ [b]) ∧ y.2 ≠ x.2 ++ [b] := by
  rcases h.par m y hy with rfl | ⟨j, l, c, z, hz, hc, e, hj⟩
  · rw [h.zero] at hy
    cases hy
    exact ⟨.inl (by simp), fun e => by simp at e⟩
  · rw [e]
    rcases hj with hj | ⟨rfl, hlk⟩
    · obtain ⟨u1, u2⟩ := h.up j i z x hj hz hx
      exact ⟨leL_wide c b u1 u2, fun e => u2 (List.append_inj' e rfl).1⟩
    · rw [hx] at hz; cases hz
      have hcb : c < b := by
        obtain ⟨p1, p2⟩ := List.getElem?_eq_some_iff.1 hc
        obtain ⟨q1, q2⟩ := List.getElem?_eq_some_iff.1 hb
        have := List.pairwise_iff_getElem.1 hup l k p1 q1 hlk
        rw [p2, q2] at this
        exact this
      refine ⟨.inr ⟨by simp, lexL_last _ (Nat.le_of_lt hcb)⟩, fun e => ?_⟩
      have := List.append_inj' e rfl
      simp at this
      omega
theorem BfsOk.add (h : BfsOk g by_ a F i k) (hup : by_.Pairwise (· < ·)) {x : NW} (hx : F[i]? = some x) {b : Nat} (hb : by_[k]? = some b) (ht : g.next x.1 b = [t])
    (hF : ((∃ y ∈ F, y.1 = t) ∧ F' = F) ∨ ((∀ y ∈ F, y.1 ≠ t) ∧ F' = F ++ [(t, x.2 ++ [b])])) : BfsOk g by_ a F' i (k + 1) := by
  have hil := (List.getElem?_eq_some_iff.1 hx).1
  rcases hF with ⟨⟨z, hz, hzt⟩, rfl⟩ | ⟨hno, rfl⟩
  · refine ⟨h.zero, h.nd, h.ok, h.up, fun j l y c u hy hc hu hj => ?_, fun m y hy => ?_⟩
    · by_cases hold : j < i ∨ (j = i ∧ l < k)
      · exact h.closed j l y c u hy hc hu hold
      · obtain ⟨rfl, rfl⟩ : j = i ∧ l = k := by omega
        rw [hx] at hy; cases hy
        rw [hb] at hc; cases hc
        rw [ht, List.mem_singleton] at hu
        subst hu
        obtain ⟨m, hm⟩ := List.getElem?_of_mem hz
        exact ⟨z, hz, hzt, (h.ahead hup hx hb hm).1⟩
    · rcases h.par m y hy with h0 | ⟨j, l, c, x', h1, h2, h3, h4⟩
      · exact .inl h0
      · exact .inr ⟨j, l, c, x', h1, h2, h3, by omega⟩
  · have hgt : ∀ (m : Nat) (y : NW), (F ++ [(t, x.2 ++ [b])])[m]? = some y → F[m]? = some y ∨ (m = F.length ∧ y = (t, x.2 ++ [b])) := fun m y hy => by
      by_cases hm : m < F.length
      · rw [List.getElem?_append_left hm] at hy; exact .inl hy
      · have hm2 := (List.getElem?_eq_some_iff.1 hy).1
        simp only [List.length_append, List.length_singleton] at hm2
        obtain rfl : m = F.length := by omega
        simp at hy
        exact .inr ⟨rfl, hy.symm⟩
    have old : ∀ {m : Nat} {y : NW}, F[m]? = some y → (F ++ [(t, x.2 ++ [b])])[m]? = some y := fun {m y} hy => by
      rw [List.getElem?_append_left (List.getElem?_eq_some_iff.1 hy).1]; exact hy
    have hback : ∀ {j : Nat} {y : NW}, j ≤ i → (F ++ [(t, x.2 ++ [b])])[j]? = some y → F[j]? = some y := fun {j y} hj hy => by
      rw [List.getElem?_append_left (by omega)] at hy; exact hy
    refine ⟨old h.zero, ?_, fun y hy => ?_, fun j l y z hj hy hz => ?_, fun j l y c u hy hc hu hj => ?_, fun m y hy => ?_⟩
    · rw [List.map_append]
      refine List.nodup_append.2 ⟨h.nd, by simp, fun y hy z hz => ?_⟩
      simp only [List.map_cons, List.map_nil, List.mem_singleton] at hz
      subst hz
      obtain ⟨p, hp, rfl⟩ := List.mem_map.1 hy
      exact hno p hp
    · rcases List.mem_append.1 hy with hy | hy
      · exact h.ok y hy
      · rw [List.mem_singleton] at hy
        subst hy
        obtain ⟨k1, k2⟩ := h.ok x (List.mem_of_getElem? hx)
        refine ⟨fun c hc => ?_, to_snoc.2 ⟨_, k2, by rw [ht]; exact List.mem_singleton.2 rfl⟩⟩
        rcases List.mem_append.1 hc with hc | hc
        · exact k1 c hc
        · rw [List.mem_singleton] at hc
          subst hc
          exact List.mem_of_getElem? hb
    · rcases hgt l z hz with hz | ⟨rfl, rfl⟩
      · exact h.up j l y z hj (by rcases hgt j y hy with hy | ⟨rfl, -⟩
                                  · exact hy
                                  · have := (List.getElem?_eq_some_iff.1 hz).1; omega) hz
      · rcases hgt j y hy with hy | ⟨rfl, -⟩
        · exact h.ahead hup hx hb hy
        · omega
    · by_cases hold : j < i ∨ (j = i ∧ l < k)
      · obtain ⟨z, hz, e, hl⟩ := h.closed j l y c u (hback (by omega) hy) hc hu hold
        exact ⟨z, List.mem_append.2 (.inl hz), e, hl⟩
      · obtain ⟨rfl, rfl⟩ : j = i ∧ l = k := by omega
        have hy := hback (Nat.le_refl _) hy
        rw [hx] at hy; cases hy
        rw [hb] at hc; cases hc
        rw [ht, List.mem_singleton] at hu
        subst hu
        exact ⟨_, List.mem_append.2 (.inr (List.mem_singleton.2 rfl)), rfl, leL_refl _⟩
    · rcases hgt m y hy with hy | ⟨rfl, rfl⟩
      · rcases h.par m y hy with h0 | ⟨j, l, c, x', h1, h2, h3, h4⟩
        · exact .inl h0
        · exact .inr ⟨j, l, c, x', old h1, h2, h3, by omega⟩
      · exact .inr ⟨i, k, b, x, old hx, hb, rfl, by omega⟩
/-- Where a word leads: to one that has been looked at, and whose word is no later; or the word is no earlier than the one that is looked at. -/
theorem BfsOk.covers (h : BfsOk g by_ a F i 0) : ∀ (n : Nat) {u : List Nat} {t : Nd}, u.length = n → (∀ b ∈ u, b ∈ by_) → To g u a t → (∃ (j : Nat) (x : NW), j < i ∧ F[j]? = some x ∧ x.1 = t ∧ leL x.2 u) ∨ ∃ x, F[i]? = some x ∧ leL x.2 u
  | 0, u, t, hu, _, ht => by
    obtain rfl := List.eq_nil_of_length_eq_zero hu
    obtain rfl : a = t := ht
    cases i with
    | zero => exact .inr ⟨_, h.zero, leL_refl _⟩
    | succ i => exact .inl ⟨0, _, by omega, h.zero, rfl, leL_refl _⟩
  | n + 1, u, t, hu, hb, ht => by
    obtain ⟨w, b, rfl⟩ : ∃ w b, u = w ++ [b] := ⟨u.dropLast, u.getLast (by rintro rfl; simp at hu), (List.dropLast_concat_getLast _).symm⟩
    rw [List.length_append, List.length_singleton, Nat.add_right_cancel_iff] at hu
    obtain ⟨p, hp, hpt⟩ := to_snoc.1 ht
    rcases h.covers n hu (fun c hc => hb c (List.mem_append.2 (.inl hc))) hp with ⟨j, x, hj, hx, rfl, hl⟩ | ⟨x, hx, hl⟩
    · obtain ⟨l, hl2⟩ := List.getElem?_of_mem (hb b (by simp))
      obtain ⟨y, hy, e, hyl⟩ := h.closed j l x b t hx hl2 hpt (.inl hj)
      have hyu := leL_trans hyl (leL_snoc b hl)
      obtain ⟨m, hm⟩ := List.getElem?_of_mem hy
      rcases Nat.lt_trichotomy m i with hmi | rfl | hmi
      · exact .inl ⟨m, y, hmi, hm, e, hyu⟩
      · exact .inr ⟨y, hm, hyu⟩
      · have hil : i < F.length := by have := (List.getElem?_eq_some_iff.1 hm).1; omega
        exact .inr ⟨_, List.getElem?_eq_getElem hil, leL_trans (h.up i m _ y hmi (List.getElem?_eq_getElem hil) hm).1 hyu⟩
    · exact .inr ⟨x, hx, leL_trans hl (.inl (by simp))⟩
variable (hby : ∀ c, c < 256 → ∃ r ∈ by_, r ≤ c ∧ ∀ n, g.next n r = g.next n c)
include hby
theorem BfsOk.found (hby2 : ∀ b ∈ by_, b < 256) (h : BfsOk g by_ a F i 0) {x : NW} (hx : F[i]? = some x) (he : g.ends x.1 = true) (hno : ∀ (j : Nat) (y : NW), j < i → F[j]? = some y → g.ends y.1 = false) : FirstW g (· = a) x.2 := by
  have key : ∀ u, bytes_ u → LeadsP g (· = a) u → leL x.2 u := fun u hu hul => by
    obtain ⟨n, rfl, hn⟩ := hul
    obtain ⟨v, h1, h2, h3, h4⟩ := leads_less hby hu hn
    obtain ⟨t, h5, h6⟩ := leads_to.1 h3
    rcases h.covers _ rfl h2 h5 with ⟨j, y, hj, hy, rfl, -⟩ | ⟨y, hy, hl⟩
    · rw [hno j y hj hy] at h6; cases h6
    · rw [hx] at hy; cases hy
      exact leL_trans hl (.inr ⟨h1, h4⟩)
  obtain ⟨k1, k2⟩ := h.ok x (List.mem_of_getElem? hx)
  refine ⟨⟨rfl, fun b hb => hby2 b (k1 b hb), ⟨a, rfl, leads_to.2 ⟨_, k2, he⟩⟩, fun u hul hub hl => ?_⟩, fun u hub hl => ?_⟩
  · rcases key u hub hl with h | ⟨-, h⟩
    · omega
    · exact h
  · rcases key u hub hl with h | ⟨h, -⟩ <;> omega
theorem BfsOk.none (h : BfsOk g by_ a F F.length 0) (hno : ∀ y ∈ F, g.ends y.1 = false) : ∀ u, bytes_ u → ¬ LeadsP g (· = a) u := by
  rintro u hu ⟨n, rfl, hn⟩
  obtain ⟨v, h1, h2, h3, h4⟩ := leads_less hby hu hn
  obtain ⟨t, h5, h6⟩ := leads_to.1 h3
  rcases h.covers _ rfl h2 h5 with ⟨j, y, hj, hy, rfl, -⟩ | ⟨y, hy, hl⟩
  · rw [hno y (List.mem_of_getElem? hy)] at h6; cases h6
  · rw [List.getElem?_eq_none (Nat.le_refl _)] at hy; cases hy
end
end Go.Proofs.YthomdogheamfpaaDoor
/- auto of the laws of layer 09. -/
set_option linter.unusedVariables false
set_option linter.unusedSimpArgs false
set_option maxRecDepth 100000
namespace Go.Proofs.YthomdogheamfpaaDoor
open Go.VC
attribute [local irreducible] mRun atRun

end Go.Proofs.YthomdogheamfpaaDoor
/- Cat's and Iter's answers for the texts of at least one byte; two words one of which comes ahead; plain law. -/
set_option linter.unusedVariables false
set_option linter.unusedSimpArgs false
set_option maxRecDepth 100000
namespace Go.VC
theorem vlsss {P : Program} {t : TypeId} {x y : Operand} {a b : ByteArray} {S : Nat → Prop} {H : Heap} {K : Value → Prop} (k : K (.bool (Op.bytesLess a.toList b.toList))) : VDet P (do eqGuard .lss t x y (.string a) (.string b); binOp .lss t (.string a) (.string b)) S H K := by
  refine VDet.mk _ (fun w _ => ?_) k
  simp [run_eqGuard_string, binOp, Op.stringOp]
end Go.VC
namespace Go.Proofs.YthomdogheamfpaaDoor
open Go.VC
def oneM : AM := madeM [BitVec.allOnes 256] [[1], [1]] [false, true]
attribute [local irreducible] oneM mRun gRun atRun
theorem zeros_least : ∀ (u : List Nat), lexL (List.replicate u.length 0) u
  | [] => lexL_refl _
  | c :: u => by
    show lexL (0 :: List.replicate u.length 0) (c :: u)
    unfold lexL
    rcases Nat.eq_zero_or_pos c with rfl | h
    · exact .inr ⟨rfl, zeros_least u⟩
    · exact .inl h
/-! ### ahead -/
def aheadM (w v : ByteArray) : Bool := decide (w.size < v.size) || (decide (w.size = v.size) && Op.bytesLess w.data.toList v.data.toList)
theorem less_lex : ∀ {u v : List Nat}, u.length = v.length → bytes_ u → bytes_ v → (Op.bytesLess (u.map UInt8.ofNat) (v.map UInt8.ofNat) = true ↔ ¬ lexL v u)
  | [], [], _, _, _ => by simp [Op.bytesLess, lexL]
  | [], _ :: _, h, _, _ => by simp at h
  | _ :: _, [], h, _, _ => by simp at h
  | a :: u, b :: v, h, hu, hv => by
    have ih := less_lex (u := u) (v := v) (by simpa using h) (fun c hc => hu c (List.mem_cons_of_mem _ hc)) (fun c hc => hv c (List.mem_cons_of_mem _ hc))
    have ha := hu a List.mem_cons_self
    have hb := hv b List.mem_cons_self
    have e1 : UInt8.ofNat a < UInt8.ofNat b ↔ a < b := by
      rw [UInt8.lt_iff_toNat_lt]
      simp [Nat.mod_eq_of_lt ha, Nat.mod_eq_of_lt hb]
    have e2 : UInt8.ofNat a = UInt8.ofNat b ↔ a = b := by
      rw [← UInt8.toNat_inj]
      simp [Nat.mod_eq_of_lt ha, Nat.mod_eq_of_lt hb]
    simp only [List.map_cons, Op.bytesLess, Bool.or_eq_true, Bool.and_eq_true, decide_eq_true_eq, beq_iff_eq]
    have e3 : lexL (b :: v) (a :: u) ↔ (b < a ∨ b = a ∧ lexL v u) := Iff.rfl
    rw [e1, e2, ih, e3]
    constructor
    · rintro (h1 | ⟨rfl, h1⟩)
      · rintro (h2 | ⟨h2, -⟩) <;> omega
      · rintro (h2 | ⟨-, h2⟩)
        · omega
        · exact h1 h2
    · intro h1
      rcases Nat.lt_trichotomy a b with h2 | h2 | h2
      · exact .inl h2
      · exact .inr ⟨h2, fun h3 => h1 (.inr ⟨h2.symm, h3⟩)⟩
      · exact absurd (.inl h2) h1
/-- No word that leads to an end comes ahead of the first one. -/
theorem FirstW.not_ahead {g : Gr} {w : List Nat} (h : FirstW g (· = root) w) {s : ByteArray} (hs : Leads g (unB s) root) : aheadM s (bA w) = false := by
  have hl : (unB s).length = s.size := by unfold unB; rw [List.length_map]; rfl
  have h1 := h.2 (unB s) (unB_bytes s) ⟨root, rfl, hs⟩
  unfold aheadM
  rw [bA_size, decide_eq_false (by omega), Bool.false_or]
  by_cases he : s.size = w.length
  · rw [decide_eq_true he, Bool.true_and]
    have h2 := h.1.2.2.2 (unB s) (by rw [hl]; exact he) (unB_bytes s) ⟨root, rfl, hs⟩
    have h3 := less_lex (u := unB s) (v := w) (by rw [hl]; exact he) (unB_bytes s) h.bytes
    have e : (unB s).map UInt8.ofNat = s.data.toList := by rw [← bA_data, bA_unB]
    rw [e, ← bA_data] at h3
    exact Bool.eq_false_iff.2 fun h4 => h3.1 h4 h2
  · rw [decide_eq_false he, Bool.false_and]
end Go.Proofs.YthomdogheamfpaaDoor

/- speaks and ahead of the laws of layer 9: the walks. -/
set_option linter.unusedVariables false
set_option linter.unusedSimpArgs false
set_option maxRecDepth 100000
namespace Go.Proofs.YthomdogheamfpaaDoor
open Go.VC
attribute [local irreducible] oneM mRun gRun atRun
end Go.Proofs.YthomdogheamfpaaDoor
/- The pairs of louperef07.First: the walk of add. -/
set_option linter.unusedVariables false
set_option linter.unusedSimpArgs false
set_option maxRecDepth 100000
namespace Go.Proofs.YthomdogheamfpaaDoor
open Go.VC
attribute [local irreducible] oneM mRun gRun atRun
/-! ### rows -/
/-- Texts in memory. -/
def tW : Ty (List Nat) where
  size := 1
  rep _ _ cs w := cs = [.string (bA w)]
  len h := by rw [h]; rfl
  frame h _ := h
  mono h _ := h
def hashP (n : Nd) : Nat := (31 * n.x.toNat + n.y.toNat) % 1024
/-- The numbers of those whose hash is h. -/
def idxsP (F : List NW) (h : Nat) : List Nat := (List.range F.length).filter fun i => decide ((F[i]?.map fun x => hashP x.1) = some h)
theorem idxsP_snoc (F : List NW) (x : NW) (h : Nat) : idxsP (F ++ [x]) h = if hashP x.1 = h then idxsP F h ++ [F.length] else idxsP F h := by
  unfold idxsP
  rw [List.length_append, List.length_singleton, List.range_succ, List.filter_append]
  have e1 : (List.range F.length).filter (fun i => decide (((F ++ [x])[i]?.map fun x => hashP x.1) = some h)) = (List.range F.length).filter (fun i => decide ((F[i]?.map fun x => hashP x.1) = some h)) := List.filter_congr fun i hi => by
    rw [List.getElem?_append_left (List.mem_range.1 hi)]
  rw [e1]
  have e2 : (F ++ [x])[F.length]? = some x := by simp
  by_cases hh : hashP x.1 = h
  · rw [if_pos hh, List.filter_cons_of_pos (by rw [e2]; simp [hh])]; rfl
  · rw [if_neg hh, List.filter_cons_of_neg (by rw [e2]; simp [hh])]; simp
theorem idxsP_mem {F : List NW} {h i : Nat} : i ∈ idxsP F h ↔ ∃ x, F[i]? = some x ∧ hashP x.1 = h := by
  unfold idxsP
  rw [List.mem_filter, List.mem_range, decide_eq_true_eq]
  constructor
  · rintro ⟨h1, h2⟩
    obtain ⟨x, hx⟩ := get_some h1
    rw [hx] at h2
    exact ⟨x, hx, by simpa using h2⟩
  · rintro ⟨x, hx, rfl⟩
    exact ⟨(List.getElem?_eq_some_iff.1 hx).1, by rw [hx]; rfl⟩
/-- Pairs of states in memory. -/
def tPr : Ty Nd where
  size := 2
  rep _ _ cs n := n.s = 0 ∧ cs = [.int .i64 n.x, .int .i64 n.y]
  len h := by rw [h.2]; rfl
  frame h _ := h
  mono h _ := h
def prL (n : Nd) : List Value := [.int .i64 n.x, .int .i64 n.y]
/-- What the cells of pairs hold. -/
def prS (F : List NW) : Nat → Slot
  | 0 => slot tPr 124 (F.map (·.1))
  | 1 => slot tW 9 (F.map (·.2))
  | h + 2 => slot tI 3 ((idxsP F h).map fun (i : Nat) => (i : Int))
def pPrs (b : Nat) (vs : List Value) (F : List NW) : Pc := pF 121 b vs (prS F)
structure PrsP (vs : List Value) (F : List NW) : Prop where
  len : vs.length = 1026
  nd : (F.map (·.1)).Nodup
theorem prs_add (F : List NW) (n : Nd) (w : List Nat) : updS (updS (updS (prS F) (hashP n + 2) (slot tI 3 ((idxsP F (hashP n)).map (fun (i : Nat) => (i : Int)) ++ [(F.length : Int)]))) 0 (slot tPr 124 (F.map (·.1) ++ [n]))) 1 (slot tW 9 (F.map (·.2) ++ [w])) = prS (F ++ [(n, w)]) := by
  funext j
  match j with
  | 0 =>
    rw [updS_ne (by decide), updS_self]
    show slot _ _ _ = slot _ _ _
    rw [List.map_append]; rfl
  | 1 =>
    rw [updS_self]
    show slot _ _ _ = slot _ _ _
    rw [List.map_append]; rfl
  | h + 2 =>
    rw [updS_ne (by omega), updS_ne (by omega)]
    by_cases hh : h + 2 = hashP n + 2
    · rw [hh, updS_self]
      obtain rfl : h = hashP n := by omega
      show slot _ _ _ = slot _ _ _
      rw [idxsP_snoc, if_pos rfl, List.map_append]; rfl
    · rw [updS_ne hh]
      show slot _ _ _ = slot _ _ _
      rw [idxsP_snoc, if_neg (by simp only; omega)]
theorem hashP_lt (n : Nd) : hashP n < 1024 := Nat.mod_lt _ (by decide)
/-- A pair, with the word w, is put into F, if it is new. -/
def Add (F : List NW) (n : Nd) (w : List Nat) (F' : List NW) : Prop := ((∃ y ∈ F, y.1 = n) ∧ F' = F) ∨ ((∀ y ∈ F, y.1 ≠ n) ∧ F' = F ++ [(n, w)])
set_option maxHeartbeats 16000000 in
theorem add_c {H : Heap} {b : Nat} {vs : List Value} {F : List NW} {n : Nd} {w : List Nat} {B : Nat → Prop} (st : StB B H H [pPrs b vs F]) (hr : PrsP vs F) (h0 : n.s = 0) (hx0 : 0 ≤ n.x) (hx1 : n.x < 65536) (hy0 : 0 ≤ n.y) (hy1 : n.y < 65536) (hF : ∀ x ∈ F, x.1.s = 0) (hlen : F.length + 1 ≤ 5864062014805) :
    FnOk Tryd.prog 63 #[.pointer (some ⟨b, 0, none⟩), .int .i64 n.x, .int .i64 n.y, .string (bA w)] H fun v H' => ∃ vs' F', v = .tuple #[] ∧ StB B H H' [pPrs b vs' F'] ∧ PrsP vs' F' ∧ Add F n w F' := by
  obtain ⟨hvl, hnd⟩ := hr
  have hh := hashP_lt n
  refine FnOk.of_vc Tryd.func63 rfl (Tryd.call63 _) ?_
  (conv => whnf); rw [w64 (x := 31 * n.x) (by omega) (by omega)]
  (conv => whnf); rw [w64 (x := 31 * n.x + n.y) (by omega) (by omega)]
  rw [show 31 * n.x + n.y = ((31 * n.x.toNat + n.y.toNat : Nat) : Int) by omega]
  (conv => whnf); refine vrem (b := 1024) (by decide) ?_
  rw [show (31 * n.x.toNat + n.y.toNat) % 1024 = hashP n from rfl]
  obtain ⟨vh, hvh⟩ := get_some (l := vs) (k := hashP n + 2) (by omega)
  obtain ⟨v0, hv0⟩ := get_some (l := vs) (k := 0) (by omega)
  obtain ⟨v1, hv1⟩ := get_some (l := vs) (k := 1) (by omega)
  have hcell : ∀ {H' : Heap} {ps : List Pc} (st : StB B H H' ps), ps[0]? = some (pPrs b vs F) → ∀ (j : Nat) (v : Value), vs[j]? = some v → VC.cell H' b (0 + j) = some v := by
    intro H' ps st hp j v hv
    have hbk : Blk H' b 121 vs := st.fblk 0 hp
    rw [hbk.cell, Nat.zero_add]; exact hv
  obtain ⟨ah, ch, rfl, -⟩ := st.fview 0 rfl hvh (xs := (idxsP F (hashP n)).map fun (i : Nat) => (i : Int)) (T := tI) (e := 3) rfl
  rw [List.length_map] at hvh
  have hmaxi : (idxsP F (hashP n)).length ≤ F.length := by
    unfold idxsP
    exact Nat.le_trans (List.length_filter_le _ _) (by simp)
  have hibS : ∀ (H2 : Heap) (S0 : Nat → Prop) (K : Value → Prop), K (.pointer (some ⟨b, 0 + 2 + hashP n, none⟩)) → VDet Tryd.prog (Instr.indexAt 119 (.pointer (some ⟨b, 0 + 2, none⟩)) (.int .i64 (hashP n : Int))) S0 H2 K := fun H2 S0 K hK => by
    refine ixa ar119 (by omega) (by omega) ?_
    rw [show 0 + 2 + ((hashP n : Nat) : Int).toNat * 1 = 0 + 2 + hashP n by omega]
    exact hK
  have hlbS : ∀ {H2 : Heap} {ps : List Pc} (S0 : Nat → Prop) (st2 : StB B H H2 ps), ps[0]? = some (pPrs b vs F) → S0 b → ∀ (K : Value → Prop), K (.slice ah (idxsP F (hashP n)).length ch) → VDet Tryd.prog (Instr.loadAt 33 (.pointer (some ⟨b, 0 + 2 + hashP n, none⟩))) S0 H2 K := fun S0 st2 hp hS0 K hK => by
    refine ld1 ct33 ?_ hS0 hK
    rw [show 0 + 2 + hashP n = 0 + (hashP n + 2) by omega]
    exact hcell st2 hp _ _ hvh
  (conv => whnf)
  refine VLoop.mk [9] (fun k : Nat => [.int .i64 (k : Int)]) (fun k H2 => k ≤ (idxsP F (hashP n)).length ∧ (∀ i ∈ (idxsP F (hashP n)).take k, ∀ x, F[i]? = some x → x.1 ≠ n) ∧ StB B H H2 [pPrs b vs F]) (fun k _ => (idxsP F (hashP n)).length - k) ?_ ?_
  · (conv => whnf)
    exact ⟨0, rfl, Nat.zero_le _, by simp, st⟩
  · rintro k H2 junk2 ⟨hk, hno, st2⟩
    have hc2 := hcell st2 rfl
    have hbb := (st2.in_ 0 rfl (.inl rfl) : _ ∧ b < H2.size).2
    (conv => whnf); refine fa fl121_2 ?_
    (conv => whnf); refine hibS _ _ _ ?_
    (conv => whnf); refine hlbS _ st2 rfl trivial _ ?_
    (conv => whnf); refine VIte.mk (fun hz => ?_) (fun hz => ?_) <;> simp only [decide_eq_true_eq, decide_eq_false_iff_not] at hz
    · obtain ⟨i, hi⟩ := get_some (l := idxsP F (hashP n)) (k := k) (by omega)
      obtain ⟨x, hx, hxh⟩ := idxsP_mem.1 (List.mem_of_getElem? hi)
      obtain ⟨x1, u⟩ := x
      have hxF := hF _ (List.mem_of_getElem? hx)
      have hil := (List.getElem?_eq_some_iff.1 hx).1
      obtain ⟨ah', ch', e1, hvi⟩ := st2.fview 0 rfl hvh (xs := (idxsP F (hashP n)).map fun (i : Nat) => (i : Int)) (T := tI) (e := 3) rfl
      injection e1 with e2 e3 e4
      subst e2; subst e4
      obtain ⟨a0, c0, e0, hvs⟩ := st2.fview 0 rfl hv0 (xs := F.map (·.1)) (T := tPr) (e := 124) rfl
      rw [List.length_map] at e0
      subst e0
      (conv => whnf); refine VDraw.held (Old H2) 16 (sq [0,1,2,3,4,5,6,7,8,9,10,11,12,13,14] (.f 15 (.f 16 .e))) rfl (by kernel_rfl) ?_
      (conv => whnf); refine fa fl121_0 ?_
      (conv => whnf); refine ld1 ct118 (hc2 _ _ hv0) hbb ?_
      (conv => whnf); refine fa fl121_2 ?_
      (conv => whnf); refine hibS _ _ _ ?_
      (conv => whnf); refine hlbS _ st2 rfl hbb _ ?_
      (conv => whnf); refine ixrn (i := k) (x := (i : Int)) sl33 hvi (by simp) (by rw [List.getElem?_map, hi]; rfl) rfl ?_
      rintro b3 o3 cs3 hS3 hc3 ⟨rfl, -⟩
      (conv => whnf); refine ld1 ct3 hc3.one hS3 ?_
      (conv => whnf); refine ixrn (i := i) (x := x1) sl118 hvs (by simp) (by rw [List.getElem?_map, hx]; rfl) rfl ?_
      rintro b4 o4 cs4 hS4 hc4 ⟨-, rfl⟩
      (conv => whnf); refine ldN (cs := prL x1) ag124 hc4 hS4 ?_
      (conv => whnf); refine valloc (.agg #[.int .i64 0, .int .i64 0]) [.int .i64 0, .int .i64 0] rfl rfl ?_
      intro p5 H5 hp5 hs5 hb5 ha5
      have st5 := st2.box hp5 hs5 hb5 ha5
      refine ⟨ha5.mono fun k hk => by unfold Old at hk; omega, ?_⟩
      (conv => whnf); refine stNB (cs := prL x1) st5 1 rfl rfl (show 0 + 2 ≤ 2 by decide) rfl fun H6 st6 => ?_
      rw [show splice [Value.int .i64 0, Value.int .i64 0] 0 (prL x1) = prL x1 from rfl] at st6
      have q6 := st6.blk 1 rfl
      (conv => whnf); refine ixa ar124 (by decide) (by decide) ?_
      (conv => whnf); refine ld1 (v := .int .i64 x1.x) ct3 (by rw [q6.cell]; rfl) trivial ?_
      have hne : x1 ≠ n → ∀ i' ∈ (idxsP F (hashP n)).take (k + 1), ∀ x', F[i']? = some x' → x'.1 ≠ n := fun he i' hi' x' hx' => by
        rw [take_succ_snoc hi, List.mem_append, List.mem_singleton] at hi'
        rcases hi' with hi' | rfl
        · exact hno i' hi' x' hx'
        · rw [hx] at hx'
          cases hx'
          exact he
      by_cases hex : x1.x = n.x
      · have d1 : (x1.x == n.x) = true := by rw [hex]; simp
        (conv => whnf); rw [d1]
        (conv => whnf); refine ixa ar124 (by decide) (by decide) ?_
        (conv => whnf); refine ld1 (v := .int .i64 x1.y) ct3 (by rw [q6.cell]; rfl) trivial ?_
        by_cases hey : x1.y = n.y
        · have d2 : (x1.y == n.y) = true := by rw [hey]; simp
          (conv => whnf); rw [d2]
          (conv => whnf)
          refine ⟨vs, F, rfl, st6.pick [0] (by decide), ⟨hvl, hnd⟩, .inl ⟨⟨_, List.mem_of_getElem? hx, ?_⟩, rfl⟩⟩
          obtain ⟨s1, y1, z1⟩ := x1
          obtain ⟨s2, y2, z2⟩ := n
          simp only at hxF h0 hex hey
          subst hxF; subst h0; subst hex; subst hey; rfl
        · have d2 : (x1.y == n.y) = false := beq_eq_false_iff_ne.2 hey
          (conv => whnf); rw [d2]
          (conv => whnf); rw [w64 (x := (k : Int) + 1) (by omega) (by omega)]
          exact ⟨rfl, k + 1, rfl, ⟨by omega, hne fun e => hey (by rw [e]), st6.pick [0] (by decide)⟩, by omega⟩
      · have d1 : (x1.x == n.x) = false := beq_eq_false_iff_ne.2 hex
        (conv => whnf); rw [d1]
        (conv => whnf); rw [w64 (x := (k : Int) + 1) (by omega) (by omega)]
        exact ⟨rfl, k + 1, rfl, ⟨by omega, hne fun e => hex (by rw [e]), st6.pick [0] (by decide)⟩, by omega⟩
    · obtain rfl : k = (idxsP F (hashP n)).length := by omega
      rw [List.take_length] at hno
      have hnew : ∀ x ∈ F, x.1 ≠ n := fun x hx e => by
        obtain ⟨i, hi⟩ := List.getElem?_of_mem hx
        exact hno i (idxsP_mem.2 ⟨x, hi, by rw [e]⟩) x hi e
      obtain ⟨a0, c0, e0, -⟩ := st2.fview 0 rfl hv0 (xs := F.map (·.1)) (T := tPr) (e := 124) rfl
      obtain ⟨a1, c1, e5, -⟩ := st2.fview 0 rfl hv1 (xs := F.map (·.2)) (T := tW) (e := 9) rfl
      rw [List.length_map] at e0 e5
      subst e0; subst e5
      have hself : ∀ (j : Nat) (v : Value), vs[j]? = some v → ¬ slB v b := (st2.at_ 0 rfl).2.2.2
      (conv => whnf); refine VDraw.heldZ (fun k => k < H2.size ∧ ¬ slB (.slice ah (idxsP F (hashP n)).length ch) k) [18] (sq [0,1,2,3,4,5,6,7,8,9,10,11,12,15,16] (.f 13 (.f 14 (sq [17] (.f 18 .e))))) rfl (by kernel_rfl) ?_
      (conv => whnf); refine fa fl121_2 ?_
      (conv => whnf); refine hibS _ _ _ ?_
      (conv => whnf); refine hlbS _ st2 rfl ⟨hbb, hself _ _ hvh⟩ _ ?_
      (conv => whnf); refine fa fl121_0 ?_
      (conv => whnf); refine ld1 ct118 (hc2 _ _ hv0) ⟨hbb, hself _ _ hvh⟩ ?_
      (conv => whnf); refine fa fl121_2 ?_
      (conv => whnf); refine vbuild1 sl33 [.int .i64 (F.length : Int)] rfl rfl (by decide) (by decide) ?_
      intro q3 H3 hq3 hs3 hb3 ha3
      have st3 := st2.skip hq3 ha3
      refine ⟨ha3.mono fun k hk => by have := hk.1; omega, ?_⟩
      (conv => whnf); refine appF (ys := [(F.length : Int)]) (ds := [.int .i64 (F.length : Int)]) st3 0 sl33 rfl hvh (xs := (idxsP F (hashP n)).map fun (i : Nat) => (i : Int)) (T := tI) (e := 3) rfl (hb3.cells fun j v hv => by rw [Nat.zero_add]; exact hv) (Ty.reps_one ⟨rfl, inI64 (by omega)⟩) rfl (by simp [Value.oneCell']) (by simp only [List.length_map, List.length_singleton, maxLen]; omega) (by simp only [List.length_map, List.length_singleton]; omega) fun v4 H4 st4 ha4 h14 => ?_
      refine ⟨(ha3.mono fun k hk => by have := hk.1; omega).trans (ha4.mono fun k hk => ⟨by have := hk.1; omega, hk.2⟩), ?_⟩
      (conv => whnf); refine ixa ar119 (by omega) (by omega) ?_
      (conv => whnf); refine stF (o := 0 + 2 + ((hashP n : Nat) : Int).toNat * 1) (j := hashP n + 2) st4 0 ct33 rfl (by omega) h14 fun H5 st5 => ?_
      have hw0 : (vs.set (hashP n + 2) v4)[0]? = some (.slice a0 F.length c0) := by rw [List.getElem?_set_ne (by omega)]; exact hv0
      have hw1 : (vs.set (hashP n + 2) v4)[1]? = some (.slice a1 F.length c1) := by rw [List.getElem?_set_ne (by omega)]; exact hv1
      have hwl : (vs.set (hashP n + 2) v4).length = 1026 := by rw [List.length_set]; exact hvl
      generalize vs.set (hashP n + 2) v4 = ws at *
      have hk5 : Blk H5 b 121 ws := st5.fblk 0 rfl
      (conv => whnf); refine fa fl121_0 ?_
      (conv => whnf); refine ld1 (v := .slice a0 F.length c0) ct118 (by rw [hk5.cell]; exact hw0) trivial ?_
      (conv => whnf); refine vbuildA ar124 (.agg #[.int .i64 0, .int .i64 0]) rfl (prL n) rfl ?_
      (conv => whnf); refine vbuild1 sl118 (prL n) rfl rfl (by decide) (by decide) ?_
      intro q6 H6 hq6 hs6 hb6 ha6
      have st6 := st5.skip hq6 ha6
      (conv => whnf); refine appF (ys := [n]) (ds := prL n) st6 0 sl118 rfl hw0 (xs := F.map (·.1)) (T := tPr) (e := 124) (by rw [updS_ne (by omega)]; rfl) (hb6.cells fun j v hv => by rw [Nat.zero_add]; exact hv) (Ty.reps_one ⟨h0, rfl⟩) rfl (by simp [prL, Value.oneCell']) (by simp only [List.length_map, List.length_singleton, maxLen]; omega) (by simp only [List.length_map, List.length_singleton]; omega) fun v7 H7 st7 ha7 h17 => ?_
      (conv => whnf); refine fa fl121_0 ?_
      (conv => whnf); refine stF (o := 0 + 0) (j := 0) st7 0 ct118 rfl rfl h17 fun H8 st8 => ?_
      have hx1' : (ws.set 0 v7)[1]? = some (.slice a1 F.length c1) := by rw [List.getElem?_set_ne (by omega)]; exact hw1
      have hxl : (ws.set 0 v7).length = 1026 := by rw [List.length_set]; exact hwl
      generalize ws.set 0 v7 = xs8 at *
      have hk8 : Blk H8 b 121 xs8 := st8.fblk 0 rfl
      (conv => whnf); refine fa fl121_1 ?_
      (conv => whnf); refine ld1 (v := .slice a1 F.length c1) ct98 (by rw [hk8.cell]; exact hx1') trivial ?_
      (conv => whnf); refine vbuild1 sl98 [.string (bA w)] rfl rfl (by decide) (by decide) ?_
      intro q9 H9 hq9 hs9 hb9 ha9
      have st9 := st8.skip hq9 ha9
      (conv => whnf); refine appF (ys := [w]) (ds := [.string (bA w)]) st9 0 sl98 rfl hx1' (xs := F.map (·.2)) (T := tW) (e := 9) (by rw [updS_ne (by omega), updS_ne (by omega)]; rfl) (hb9.cells fun j v hv => by rw [Nat.zero_add]; exact hv) (Ty.reps_one rfl) rfl (by simp [Value.oneCell']) (by simp only [List.length_map, List.length_singleton, maxLen]; omega) (by simp only [List.length_map, List.length_singleton]; omega) fun v10 H10 st10 ha10 h110 => ?_
      (conv => whnf); refine fa fl121_1 ?_
      (conv => whnf); refine stF (o := 0 + 1) (j := 1) st10 0 ct98 rfl rfl h110 fun H11 st11 => ?_
      (conv => whnf)
      refine ⟨xs8.set 1 v10, F ++ [(n, w)], rfl, ?_, ⟨by rw [List.length_set]; exact hxl, ?_⟩, .inr ⟨hnew, rfl⟩⟩
      · have := st11.pick [0] (by decide)
        unfold pPrs
        rw [← prs_add]
        exact this
      · rw [List.map_append]
        refine List.nodup_append.2 ⟨hnd, by simp, fun x hx y hy => ?_⟩
        simp only [List.map_cons, List.map_nil, List.mem_singleton] at hy
        subst hy
        obtain ⟨z, hz, rfl⟩ := List.mem_map.1 hx
        exact hnew z hz
end Go.Proofs.YthomdogheamfpaaDoor
/- minim.Table: the walk (under way: begins here). -/
set_option linter.unusedVariables false
set_option linter.unusedSimpArgs false
set_option maxRecDepth 100000
namespace Go.Proofs.YthomdogheamfpaaDoor
open Go.VC Go.Lib
attribute [local irreducible] mRun gRun atRun
theorem bld_z : (Tryd.prog.info? 102).bind (·.zero) = some (.agg #[.pointer none, .slice none 0 0]) := by kernel_rfl
theorem BuSt.old {H0 H : Heap} {b : Nat} {s : ByteArray} {rest : List Pc} (h : BuSt (Old H0) H0 b s rest H) : Agr (Old H0) H0 H := by
  obtain ⟨p, a, cap, -, st⟩ := h
  exact st.old
def txtM (c : BitVec 256) : List Nat := [32] ++ showM c ++ [62]
set_option maxHeartbeats 16000000 in
theorem table7_c {S : Nat → Prop} {H : Heap} {v : Value} {o : Option AM} (hS : ∀ k, S k → k < H.size) (hv : AutoV S H v o) (hco : ∃ ls, CellsOk o ls) (hpow : PowH Tryd.prog H) (hE : EscH H) :
    FnOk Tryd.prog 19 #[v] H fun r H' => Agr (Old H) H H' ∧ ∃ (rows : List (List Nat)) (O : List Nat) (A : AM), A = madeM (cellsM o) (rows.map rowI) (O.map fun (x : Nat) => finM o (x : Int)) ∧ soundB (cellsM o) (rows.map rowI) (O.map fun (x : Nat) => finM o (x : Int)).length = true ∧ InOrder (paO o) O ∧ LeadsC (paO o) O (stepM (some A)) (finM (some A)) ∧ rows.length = O.length ∧ r = .string (bA (tableM (cellsM (some A)) O.length (fun q b => (stepM (some A) (q : Int) b).toNat) fun q => finM (some A) (q : Int))) := by
  refine FnOk.of_vc Tryd.func19 rfl (Tryd.call19 _) ?_
  (conv => whnf); refine VCall.mk (canon_c hS hv hco hpow) ?_
  rintro v1 H1 ⟨ha1, rows, O, hsd, hv1, hin, hld, hrl⟩
  obtain ⟨A, hA⟩ : ∃ A, A = madeM (cellsM o) (rows.map rowI) (O.map fun (x : Nat) => finM o (x : Int)) := ⟨_, rfl⟩
  rw [← hA] at hv1 hld
  have hca : ∃ ls, CellsOk (some A) ls := by
    obtain ⟨ls, h⟩ := cells_ok (cellsM o) (rows.map rowI) (O.map fun (x : Nat) => finM o (x : Int))
    unfold autoOf at h
    rw [if_pos hsd, ← hA] at h
    exact ⟨ls, h⟩
  have st1 := St.nil H1
  have hE1 := hE.agr ha1
  have hpow1 := hpow.agr ha1
  (conv => whnf); refine VCall.mk (cells_o (fun k hk => hk.2) hv1) ?_
  rintro _ H2 ⟨ha2, -, hw2⟩
  obtain ⟨ca, cc, rfl, st2⟩ := st1.got ha2 hw2
  obtain ⟨cs, hcs⟩ : ∃ cs, cs = cellsM (some A) := ⟨_, rfl⟩
  have hcl : cs.length ≤ 256 := by
    obtain ⟨ls, h⟩ := hca
    rw [hcs]
    exact cellsOk_len h
  rw [← hcs] at st2 ⊢
  (conv => whnf); refine VCall.mk (reps7_c (S := Old H2) (fun k hk => hk) (st2.view 0 rfl) hcl) ?_
  rintro _ H3 ⟨ha3, ra, rc, rfl, hw3⟩
  obtain ⟨ra', rc', e3, st3⟩ := st2.got ha3 hw3
  injection e3 with e31 e32 e33
  subst e31; subst e33
  rw [show (bsI cs).length = cs.length by simp [bsI, bsOf]] at st3
  (conv => whnf); refine vmake1 sl98 rfl (by omega) (by omega) (by omega) (by omega) ?_
  intro tb H4 htb hs4 hb4 ha4
  rw [Int.toNat_natCast] at hb4 ⊢
  have st4 := st3.new (T := tW) (n := cs.length) (xs := List.replicate cs.length ([] : List Nat)) htb hs4 hb4 ha4 (reps_of_ones (by simp) fun i u y hu hy => by
    rw [List.getElem?_replicate] at hu hy
    split at hu
    · rename_i hlt
      rw [if_pos hlt] at hy
      cases hu; cases hy; rfl
    · cases hu) (by simp) (by unfold maxLen; omega)
  obtain ⟨ts, hts⟩ : ∃ ts, ts = cs.map txtM := ⟨_, rfl⟩
  have htl : ts.length = cs.length := by rw [hts, List.length_map]
  rw [show List.replicate cs.length ([] : List Nat) = ts.take 0 ++ List.replicate (ts.length - 0) [] by rw [fill_beg, htl]] at st4
  (conv => whnf)
  refine VLoop.mk [24] (fun i : Nat => [.int .i64 (i : Int)]) (fun i H5 => i ≤ cs.length ∧ St H1 H5 [pS tSet 73 ca cs.length cc cs, pS tU8 tByt ra cs.length rc (bsI cs), pS tW 9 (some ⟨tb, 0, none⟩) cs.length cs.length (ts.take i ++ List.replicate (ts.length - i) [])]) (fun i _ => cs.length - i) ?_ ?_
  · (conv => whnf)
    exact ⟨0, rfl, Nat.zero_le _, st4⟩
  · clear st4 st3 st2
    rintro i H5 junk5 ⟨hi, st5⟩
    (conv => whnf); refine VIte.mk (fun hz => ?_) (fun hz => ?_) <;> simp only [decide_eq_true_eq, decide_eq_false_iff_not] at hz
    · obtain ⟨c, hc⟩ := get_some (l := cs) (k := i) (by omega)
      have htc : ts[i]? = some (txtM c) := by rw [hts, List.getElem?_map, hc]; rfl
      have hsl := show_len c
      (conv => whnf); refine ixO (j := i) sl83 st5 0 rfl hc rfl ?_
      rintro b6 o6 c6 hS6 hc6 rfl
      (conv => whnf); refine ldN (cs := setL c) ag73 hc6 trivial ?_
      (conv => whnf); refine valloc (setV 0) (setL 0) rfl rfl ?_
      intro p7 H7 hp7 hs7 hb7 ha7
      have st7 := st5.box hp7 hs7 hb7 ha7
      (conv => whnf); refine stNB (cs := setL c) st7 3 rfl rfl (Nat.le_refl _) rfl fun H8 st8 => ?_
      rw [splice_all (show (setL c).length = (setL 0).length from rfl)] at st8
      (conv => whnf); refine ldN (cs := setL c) ag73 ((st8.blk 3 rfl).cells fun j v hv => by rw [Nat.zero_add]; exact hv) trivial ?_
      (conv => whnf); refine pures (show_p (hE1.agr st8.old)) fun H9 ha9 => ?_
      have st9 := st8.call ha9
      (conv => whnf); refine vcat (cat_sz (u := [32]) (by decide) (Nat.le_trans hsl (by decide))) ?_
      rw [show (⟨#[32]⟩ : ByteArray) = bA [32] from rfl, bA_cat]
      (conv => whnf); refine vcat (cat_sz (v := [62]) (by rw [List.length_append]; simp only [List.length_singleton]; omega) (by decide)) ?_
      rw [show (⟨#[62]⟩ : ByteArray) = bA [62] from rfl, bA_cat]
      (conv => whnf); refine ix sl98 (by omega) (by omega) ?_
      (conv => whnf); refine st1O (j := i) (x := txtM c) st9 2 ct9 rfl rfl (by omega) (by rw [fill_len (by omega)]; omega) rfl (fun H' _ => rfl) fun H10 st10 => ?_
      rw [fill_set htc] at st10
      (conv => whnf); rw [w64 (x := (i : Int) + 1) (by omega) (by omega)]
      exact ⟨rfl, i + 1, by simp, ⟨by omega, st10.pick [0, 1, 2] (by decide)⟩, by omega⟩
    · obtain rfl : i = cs.length := by omega
      rw [← htl, fill_end, htl] at st5
      have ho5 := st5.old
      have hcsv := st5.view 0 rfl
      have hrep := st5.view 1 rfl
      have htxt := st5.view 2 rfl
      have hv5 : AutoV (fun k => H.size ≤ k ∧ k < H1.size) H5 v1 (some A) := hv1.frame (ho5.mono fun k hk => hk.2)
      (conv => whnf); refine valloc (.agg #[.pointer none, .slice none 0 0]) [.pointer none, .slice none 0 0] bld_z rfl ?_
      intro pb H6 hpb hs6 hb6 ha6
      have bs0 : BuSt (Old H5) H5 pb ⟨#[]⟩ [] H6 := ⟨none, none, 0, .inl rfl, ((St.nil H5).box hpb hs6 hb6 ha6).nils tU8 tByt8⟩
      clear st5
      have hup5 : ∀ k, H.size ≤ k ∧ k < H1.size → k < H5.size := fun k hk => old_lt ho5 hk.2
      have hvG : ∀ {G : Heap}, Agr (Old H5) H5 G → AutoV (fun k => H.size ≤ k ∧ k < H1.size) G v1 (some A) := fun h => hv5.frame (h.mono hup5)
      have hpow5 := hpow1.agr ho5
      have hstp := hv5.steps
      have hn1 := hstp.n1
      have hn2 := hstp.n2
      obtain ⟨n, hn⟩ : ∃ n, n = stN (some A) := ⟨_, rfl⟩
      rw [← hn] at hn1 hn2
      (conv => whnf); refine pures (states_p (hvG bs0.old)) fun H7 ha7 => ?_
      have bs7 := bs0.call ha7
      rw [← hn]
      (conv => whnf); refine pures (itoa_p (i := (n : Int)) (hpow5.agr bs7.old) (by omega) (by omega)) fun H8 ha8 => ?_
      have bs8 := bs7.call ha8
      rw [itoS_nat]
      have hdn := dN_len6 hn2
      (conv => whnf); refine vcat (cat_sz (u := [115, 116, 97, 116, 101, 115, 32]) (by decide) (by omega)) ?_
      rw [show (⟨#[115, 116, 97, 116, 101, 115, 32]⟩ : ByteArray) = bA [115, 116, 97, 116, 101, 115, 32] from rfl, bA_cat]
      (conv => whnf); refine vcat (cat_sz (v := [10]) (by simp only [List.length_append, List.length_cons, List.length_nil]; omega) (by decide)) ?_
      rw [show (⟨#[10]⟩ : ByteArray) = bA [10] from rfl, bA_cat]
      have hhl : (headM n).length ≤ 14 := by
        unfold headM
        simp only [List.length_append, List.length_cons, List.length_nil]
        omega
      (conv => whnf); refine vwS (t := bA (headM n)) bs8 (by rw [bsz]; show 0 + _ ≤ _; omega) fun H9 bs9 => ?_
      have bs9' : BuSt (Old H5) H5 pb (bA (headM n ++ linesM cs (fun q b => (stepM (some A) (q : Int) b).toNat) (fun q => finM (some A) (q : Int)) 0)) [] H9 := by
        have e : (⟨#[]⟩ : ByteArray) ++ bA (headM n) = bA (headM n ++ linesM cs (fun q b => (stepM (some A) (q : Int) b).toNat) (fun q => finM (some A) (q : Int)) 0) := by
          rw [show (⟨#[]⟩ : ByteArray) = bA [] from rfl, bA_cat]
          show bA _ = bA (headM n ++ [])
          rw [List.append_nil]; rfl
        rw [← e]
        exact bs9
      clear bs9 bs8 bs7 bs0
      obtain ⟨stf, hstf⟩ : ∃ f : Nat → Nat → Nat, f = fun (q : Nat) b => (stepM (some A) (q : Int) b).toNat := ⟨_, rfl⟩
      obtain ⟨fif, hfif⟩ : ∃ f : Nat → Bool, f = fun (q : Nat) => finM (some A) (q : Int) := ⟨_, rfl⟩
      rw [← hstf, ← hfif] at bs9'
      (conv => whnf); refine pures (states_p (hvG bs9'.old)) fun H10 ha10 => ?_
      have bs10 := bs9'.call ha10
      rw [← hn]
      have hsr : ∀ q, q < n → ∀ c ∈ cs, stf q (nextM c 0).1 < 65536 := fun q hq c hc => by
        have h1 := hstp.step (q : Int) (nextM c 0).1 ⟨by omega, by rw [← hn]; omega⟩ (nextM_lt c 0)
        rw [hstf]
        have := h1.2
        rw [← hn] at this
        show (stepM (some A) (q : Int) (nextM c 0).1).toNat < 65536
        have := h1.1
        omega
      (conv => whnf)
      refine VLoop.mk [45] (fun i : Nat => [.int .i64 (i : Int)]) (fun i G => i ≤ n ∧ BuSt (Old H5) H5 pb (bA (headM n ++ linesM cs stf fif i)) [] G) (fun i _ => n - i) ?_ ?_
      · (conv => whnf)
        exact ⟨0, rfl, Nat.zero_le _, bs10⟩
      · clear bs10 bs9'
        rintro q H11 junk11 ⟨hq, bs11⟩
        (conv => whnf); refine VIte.mk (fun hz2 => ?_) (fun hz2 => ?_) <;> simp only [decide_eq_true_eq, decide_eq_false_iff_not] at hz2
        · have hq8 : q < n := by omega
          have hll := lines_len (fi := fif) hcl (n := q) (by omega) fun i hi => hsr i (by omega)
          have hd5 := dN_len5 (u := q) (by omega)
          have hwl : (headM n ++ linesM cs stf fif q).length ≤ 50000000000 := by
            rw [List.length_append]
            have : q * 616199 ≤ 65536 * 616199 := Nat.mul_le_mul_right _ (by omega)
            omega
          obtain ⟨w0, hw0⟩ : ∃ w0, w0 = headM n ++ linesM cs stf fif q := ⟨_, rfl⟩
          rw [← hw0] at bs11 hwl
          (conv => whnf); refine pures (itoa_p (i := (q : Int)) (hpow5.agr bs11.old) (by omega) (by omega)) fun H12 ha12 => ?_
          have bs12 := bs11.call ha12
          rw [itoS_nat]
          (conv => whnf); refine vwS (t := bA (dN q)) bs12 (by rw [bsz, bsz]; omega) fun H13 bs13 => ?_
          rw [bA_cat] at bs13
          have hsw : (if fif q then [42] else [] : List Nat).length ≤ 1 := by split <;> decide
          (conv => whnf)
          refine VSeq.cut [] (fun _ : Unit => []) (fun _ G => BuSt (Old H5) H5 pb (bA (w0 ++ dN q ++ (if fif q then [42] else []))) [] G) ?_ ?_
          · (conv => whnf); refine pures (final_p (hvG bs13.old)) fun H14 ha14 => ?_
            have bs14 := bs13.call ha14
            rw [show finM (some A) (q : Int) = fif q by rw [hfif]]
            cases hfq : fif q with
            | true =>
              (conv => whnf); refine vwB (c := 42) (by decide) bs14 (by rw [bsz, List.length_append]; omega) fun H15 bs15 => ?_
              rw [bA_cat] at bs15
              (conv => whnf)
              exact ⟨rfl, (), rfl, bs15⟩
            | false =>
              (conv => whnf)
              exact ⟨rfl, (), rfl, by rw [if_neg (by decide), List.append_nil]; exact bs14⟩
          · rintro ⟨⟩ H15 junk15 bs15
            obtain ⟨w1, hw1⟩ : ∃ w1, w1 = w0 ++ dN q ++ (if fif q then [42] else []) := ⟨_, rfl⟩
            have hw1l : w1.length ≤ 50000000010 := by rw [hw1]; simp only [List.length_append]; omega
            rw [← hw1] at bs15
            (conv => whnf)
            refine VLoop.mk [57] (fun k : Nat => [.int .i64 (k : Int)]) (fun k G => k ≤ cs.length ∧ BuSt (Old H5) H5 pb (bA (w1 ++ segsM stf q (cs.take k))) [] G) (fun k _ => cs.length - k) ?_ ?_
            · (conv => whnf)
              exact ⟨0, rfl, Nat.zero_le _, by rw [show segsM stf q (cs.take 0) = [] from rfl, List.append_nil]; exact bs15⟩
            · clear bs15
              rintro k H16 junk16 ⟨hk, bs16⟩
              have hsl := segs_len (st := stf) (i := q) (l := cs.take k) fun c hc => hsr q hq8 c (List.mem_of_mem_take hc)
              have htk : (cs.take k).length ≤ 256 := by rw [List.length_take]; omega
              have hsl2 : (segsM stf q (cs.take k)).length ≤ 616192 := Nat.le_trans hsl (Nat.le_trans (Nat.mul_le_mul_right _ htk) (by decide))
              (conv => whnf); refine VIte.mk (fun hz3 => ?_) (fun hz3 => ?_) <;> simp only [decide_eq_true_eq, decide_eq_false_iff_not] at hz3
              · obtain ⟨c, hc⟩ := get_some (l := cs) (k := k) (by omega)
                have hcm := List.mem_of_getElem? hc
                have hb8 := nextM_lt c 0
                have hsr1 := hsr q hq8 c hcm
                have hbg : (bsI cs)[k]? = some ((nextM c 0).1 : Int) := by simp [bsI, bsOf, hc]
                have htg : ts[k]? = some (txtM c) := by rw [hts, List.getElem?_map, hc]; rfl
                have hsl3 := show_len c
                (conv => whnf); refine ixrn (i := k) sl85 (hrep.frame (bs16.old.mono fun j hj => hj)) (by simp [bsI, bsOf]) hbg rfl ?_
                rintro b17 o17 c17 hS17 hc17 ⟨rfl, -⟩
                (conv => whnf); refine ld1 ct5 hc17.one trivial ?_
                have hin16 : ∀ j, Old H5 j → Old H16 j := fun j hj => old_lt bs16.old hj
                (conv => whnf); refine VDraw.heldZ (Old H16) [10] (sq [0,1,2,3,4,5,6] (.f 7 (.f 8 (sq [9] (.f 10 .e))))) rfl (by kernel_rfl) ?_
                (conv => whnf); refine ixrn (i := k) sl98 (htxt.frame (bs16.old.mono fun j hj => hj)) htl.symm htg rfl ?_
                rintro b18 o18 c18 hS18 hc18 rfl
                (conv => whnf); refine ld1 (v := .string (bA (txtM c))) ct9 (hc18 0 _ rfl) (hin16 _ hS18) ?_
                (conv => whnf); refine pures (step_p (fun j hj => old_lt bs16.old (hup5 j hj)) (hvG bs16.old) hb8) fun H17 ha17 => ?_
                have bs17 := bs16.call ha17
                refine ⟨ha17, ?_⟩
                have hse : stepM (some A) (q : Int) (nextM c 0).1 = ((stf q (nextM c 0).1 : Nat) : Int) := by
                  have h1 := (hstp.step (q : Int) (nextM c 0).1 ⟨by omega, by rw [← hn]; omega⟩ hb8).1
                  rw [hstf]
                  show _ = (((stepM (some A) (q : Int) (nextM c 0).1).toNat : Nat) : Int)
                  omega
                rw [hse]
                (conv => whnf); refine pures (itoa_p (hpow5.agr bs17.old) (by omega) (by omega)) fun H18 ha18 => ?_
                have bs18 := bs17.call ha18
                refine ⟨ha17.trans (ha18.mono fun j hj => old_lt ha17 hj), ?_⟩
                rw [itoS_nat]
                have hd6 := dN_len5 hsr1
                have htl2 : (txtM c).length ≤ 2402 := by unfold txtM; simp only [List.length_append, List.length_singleton]; omega
                (conv => whnf); refine vcat (cat_sz (by omega) (by omega)) ?_
                rw [bA_cat]
                (conv => whnf); refine vwS (t := bA (txtM c ++ dN (stf q (nextM c 0).1))) bs18 (by rw [bsz, bsz, List.length_append, List.length_append]; omega) fun H19 bs19 => ?_
                rw [bA_cat] at bs19
                (conv => whnf); rw [w64 (x := (k : Int) + 1) (by omega) (by omega)]
                refine ⟨rfl, k + 1, by simp, ⟨by omega, ?_⟩, by omega⟩
                rw [take_succ_snoc hc, segsM_snoc, ← List.append_assoc]
                exact bs19
              · obtain rfl : k = cs.length := by omega
                rw [List.take_length] at bs16 hsl2
                (conv => whnf); refine vwB (c := 10) (by decide) bs16 (by rw [bsz, List.length_append]; omega) fun H17 bs17 => ?_
                rw [bA_cat] at bs17
                (conv => whnf); rw [w64 (x := (q : Int) + 1) (by omega) (by omega)]
                refine ⟨rfl, q + 1, by simp, ⟨by omega, ?_⟩, by omega⟩
                have e : w1 ++ segsM stf q cs ++ [10] = headM n ++ linesM cs stf fif (q + 1) := by
                  rw [hw1, hw0, linesM_succ]
                  unfold lineM
                  simp
                rw [← e]
                exact bs17
        · obtain rfl : q = n := by omega
          (conv => whnf); refine vStr bs11 fun H12 ha12 => ?_
          (conv => whnf)
          refine ⟨ha1.trans ((ho5.mono fun k hk => old_lt ha1 hk).trans (ha12.mono fun k hk => old_lt ho5 (old_lt ha1 hk))), rows, O, A, hA, hsd, hin, hld, hrl, ?_⟩
          have hnO : q = O.length := by
            rw [hn, ← hrl, hA]
            show (madeM (cellsM o) (rows.map rowI) (O.map fun (x : Nat) => finM o (x : Int))).next.length = _
            unfold madeM
            simp
          rw [hnO, hstf, hfif, ← hcs]
          rfl
end Go.Proofs.YthomdogheamfpaaDoor
/- A table's text is read in just one way: plain. -/
set_option linter.unusedVariables false
set_option linter.unusedSimpArgs false
set_option maxRecDepth 100000
namespace Go.Proofs.YthomdogheamfpaaDoor
open Go.VC Go.Lib
/-! ### one byte's text is read in one way -/
def unhexD (a : Nat) : Nat := if a < 58 then a - 48 else a - 87
def rdS : List Nat → Nat × List Nat
  | [] => (0, [])
  | c :: r => if c = 92 then (match r with
    | [] => (0, [])
    | d :: r => if d = 110 then (10, r) else if d = 114 then (13, r) else if d = 116 then (9, r) else if d = 120 then (match r with
      | a :: b :: r => (16 * unhexD a + unhexD b, r)
      | _ => (0, [])) else (d, r)) else (c, r)
theorem hex_un {n : Nat} (h : n < 16) : unhexD (hexD n) = n := by
  unfold unhexD hexD
  split <;> split <;> omega
theorem rdS_sgl {c : Nat} {sp : Bool} (hc : c < 256) (hs : sp = true → c ≠ 110 ∧ c ≠ 114 ∧ c ≠ 116 ∧ c ≠ 120) (hb : c = 92 → sp = true) (x : List Nat) : rdS (sglM c sp ++ x) = (c, x) := by
  unfold sglM
  split
  · subst c; rfl
  split
  · subst c; rfl
  split
  · subst c; rfl
  split
  · have h1 := hex_un (n := c / 16) (by omega)
    have h2 := hex_un (n := c % 16) (by omega)
    show (16 * unhexD (hexD (c / 16)) + unhexD (hexD (c % 16)), x) = (c, x)
    rw [h1, h2]
    congr 1
    omega
  · cases sp with
    | true =>
      obtain ⟨h1, h2, h3, h4⟩ := hs rfl
      show (if c = 110 then _ else if c = 114 then _ else if c = 116 then _ else if c = 120 then _ else (c, x)) = (c, x)
      rw [if_neg h1, if_neg h2, if_neg h3, if_neg h4]
    | false =>
      show (if c = 92 then _ else (c, x)) = (c, x)
      rw [if_neg fun e => by have := hb e; cases this]
theorem sp_in : ∀ i : Fin 256, (spB innS i.1 = true → i.1 ≠ 110 ∧ i.1 ≠ 114 ∧ i.1 ≠ 116 ∧ i.1 ≠ 120) ∧ (i.1 = 92 → spB innS i.1 = true) ∧ (i.1 = 45 ∨ i.1 = 93 ∨ i.1 = 94 → spB innS i.1 = true) := by decide
theorem sp_sp : ∀ i : Fin 256, (spB specS i.1 = true → i.1 ≠ 110 ∧ i.1 ≠ 114 ∧ i.1 ≠ 116 ∧ i.1 ≠ 120) ∧ (i.1 = 92 → spB specS i.1 = true) ∧ (i.1 = 91 → spB specS i.1 = true) := by decide
theorem rd_in {c : Nat} (hc : c < 256) (x : List Nat) : rdS (innM c ++ x) = (c, x) := rdS_sgl hc (sp_in ⟨c, hc⟩).1 (sp_in ⟨c, hc⟩).2.1 x
theorem rd_sp {c : Nat} (hc : c < 256) (x : List Nat) : rdS (sglM c (spB specS c) ++ x) = (c, x) := rdS_sgl hc (sp_sp ⟨c, hc⟩).1 (sp_sp ⟨c, hc⟩).2.1 x
theorem sgl_head (c : Nat) (sp : Bool) : ∃ d r, sglM c sp = d :: r ∧ (d = 92 ∨ d = c ∧ sp = false) := by
  unfold sglM
  split
  · exact ⟨_, _, rfl, .inl rfl⟩
  split
  · exact ⟨_, _, rfl, .inl rfl⟩
  split
  · exact ⟨_, _, rfl, .inl rfl⟩
  split
  · exact ⟨_, _, rfl, .inl rfl⟩
  · cases sp with
    | true => exact ⟨_, _, rfl, .inl rfl⟩
    | false => exact ⟨_, _, rfl, .inr ⟨rfl, rfl⟩⟩
theorem in_head {c : Nat} (hc : c < 256) : ∃ d r, innM c = d :: r ∧ d ≠ 45 ∧ d ≠ 93 ∧ d ≠ 94 := by
  obtain ⟨d, r, e, h⟩ := sgl_head c (spB innS c)
  have h2 := (sp_in ⟨c, hc⟩).2.2
  refine ⟨d, r, e, ?_⟩
  rcases h with rfl | ⟨rfl, h⟩
  · decide
  · have h2 : d = 45 ∨ d = 93 ∨ d = 94 → spB innS d = true := h2
    rw [h] at h2
    refine ⟨fun e => ?_, fun e => ?_, fun e => ?_⟩ <;> simp [e] at h2
theorem sp_head {c : Nat} (hc : c < 256) : ∃ d r, sglM c (spB specS c) = d :: r ∧ d ≠ 91 := by
  obtain ⟨d, r, e, h⟩ := sgl_head c (spB specS c)
  have h2 := (sp_sp ⟨c, hc⟩).2.2
  refine ⟨d, r, e, ?_⟩
  rcases h with rfl | ⟨rfl, h⟩
  · decide
  · have h2 : d = 91 → spB specS d = true := h2
    rw [h] at h2
    intro e
    simp [e] at h2
/-! ### the inside of a set -/
/-- A mark: a byte, or 256 for the dash. -/
def txtT (k : Nat) : List Nat := if k = 256 then [45] else innM k
def rdT (l : List Nat) : Nat × List Nat := match l with
  | [] => (0, [])
  | c :: r => if c = 45 then (256, r) else rdS (c :: r)
theorem rdT_txt {k : Nat} (hk : k ≤ 256) (x : List Nat) : rdT (txtT k ++ x) = (k, x) := by
  unfold txtT
  split
  · subst k; rfl
  · obtain ⟨d, r, e, h1, -⟩ := in_head (c := k) (by omega)
    have h2 := rd_in (c := k) (by omega) x
    rw [e] at h2 ⊢
    show (if d = 45 then _ else rdS (d :: (r ++ x))) = (k, x)
    rw [if_neg h1]
    exact h2
theorem txtT_head {k : Nat} (hk : k ≤ 256) : ∃ d r, txtT k = d :: r ∧ d ≠ 93 ∧ d ≠ 94 := by
  unfold txtT
  split
  · exact ⟨_, _, rfl, by decide, by decide⟩
  · obtain ⟨d, r, e, -, h⟩ := in_head (c := k) (by omega)
    exact ⟨d, r, e, h⟩
theorem toks_inj {x y : List Nat} : ∀ {l m : List Nat}, (∀ k ∈ l, k ≤ 256) → (∀ k ∈ m, k ≤ 256) → l.flatMap txtT ++ 93 :: x = m.flatMap txtT ++ 93 :: y → l = m ∧ x = y
  | [], [], _, _, h => ⟨rfl, by simpa using h⟩
  | [], k :: m, _, hm, h => by
    obtain ⟨d, r, e, h1, -⟩ := txtT_head (hm k (by simp))
    rw [List.flatMap_cons, e] at h
    simp at h
    exact absurd h.1.symm h1
  | k :: l, [], hl, _, h => by
    obtain ⟨d, r, e, h1, -⟩ := txtT_head (hl k (by simp))
    rw [List.flatMap_cons, e] at h
    simp at h
    exact absurd h.1 h1
  | k :: l, j :: m, hl, hm, h => by
    rw [List.flatMap_cons, List.flatMap_cons, List.append_assoc, List.append_assoc] at h
    have h1 := rdT_txt (hl k (by simp)) (l.flatMap txtT ++ 93 :: x)
    rw [h, rdT_txt (hm j (by simp))] at h1
    injection h1 with h1 h2
    obtain ⟨h3, h4⟩ := toks_inj (fun i hi => hl i (by simp [hi])) (fun i hi => hm i (by simp [hi])) h2.symm
    exact ⟨by rw [h1, h3], h4⟩
def rngT (i j : Nat) : List Nat := [i] ++ (if i + 1 < j then [256] else []) ++ (if i < j then [j] else [])
def pieT (t : Nat → Bool) (i : Nat) : List Nat := if t i && !(decide (0 < i) && t (i - 1)) then rngT i (hiM t i) else []
def bodT (t : Nat → Bool) (n : Nat) : List Nat := (List.range n).flatMap (pieT t)
theorem rng_txt {i j : Nat} (hi : i < 256) (hj : j < 256) : (rngT i j).flatMap txtT = rngM i j := by
  unfold rngT rngM
  have e1 : txtT i = innM i := if_neg (by omega)
  have e2 : txtT j = innM j := if_neg (by omega)
  have e3 : txtT 256 = [45] := rfl
  rw [List.flatMap_append, List.flatMap_append]
  congr 1
  · congr 1
    · simp [e1]
    · split <;> simp [e3]
  · split <;> simp [e2]
theorem takeWhile_spec {t : Nat → Bool} : ∀ (m a : Nat), ((List.range' a m).takeWhile t).length ≤ m ∧ (∀ q, q < ((List.range' a m).takeWhile t).length → t (a + q) = true) ∧ (((List.range' a m).takeWhile t).length = m ∨ t (a + ((List.range' a m).takeWhile t).length) = false)
  | 0, a => ⟨Nat.le_refl _, fun q hq => by simp at hq, .inl rfl⟩
  | m + 1, a => by
    rw [List.range'_succ]
    cases ht : t a with
    | false => rw [List.takeWhile_cons_of_neg (by rw [ht]; decide)]; exact ⟨Nat.zero_le _, fun q hq => by simp at hq, .inr ht⟩
    | true =>
      rw [List.takeWhile_cons_of_pos ht, List.length_cons]
      obtain ⟨h1, h2, h3⟩ := takeWhile_spec (t := t) m (a + 1)
      refine ⟨by omega, fun q hq => ?_, ?_⟩
      · cases q with
        | zero => exact ht
        | succ q => have := h2 q (by omega); rwa [show a + 1 + q = a + (q + 1) by omega] at this
      · rcases h3 with h3 | h3
        · exact .inl (by omega)
        · exact .inr (by rwa [show a + 1 + ((List.range' (a + 1) m).takeWhile t).length = a + (((List.range' (a + 1) m).takeWhile t).length + 1) by omega] at h3)
theorem hi_spec {t : Nat → Bool} {i : Nat} (hi : i < 256) : i ≤ hiM t i ∧ hiM t i < 256 ∧ (∀ k, i < k → k ≤ hiM t i → t k = true) ∧ (hiM t i = 255 ∨ t (hiM t i + 1) = false) := by
  obtain ⟨h1, h2, h3⟩ := takeWhile_spec (t := t) (255 - i) (i + 1)
  unfold hiM
  refine ⟨by omega, by omega, fun k hk1 hk2 => ?_, ?_⟩
  · have := h2 (k - (i + 1)) (by omega)
    rwa [show i + 1 + (k - (i + 1)) = k by omega] at this
  · rcases h3 with h3 | h3
    · exact .inl (by omega)
    · exact .inr (by rwa [show i + 1 + ((List.range' (i + 1) (255 - i)).takeWhile t).length = i + ((List.range' (i + 1) (255 - i)).takeWhile t).length + 1 by omega] at h3)
theorem pie_txt {t : Nat → Bool} {i : Nat} (hi : i < 256) : (pieT t i).flatMap txtT = pieM t i := by
  unfold pieT pieM
  split
  · exact rng_txt hi (hi_spec hi).2.1
  · rfl
theorem flat_flat {α β γ : Type} (f : α → List β) (g : β → List γ) : ∀ l : List α, (l.flatMap f).flatMap g = l.flatMap fun x => (f x).flatMap g
  | [] => rfl
  | x :: l => by rw [List.flatMap_cons, List.flatMap_append, flat_flat f g l, List.flatMap_cons]
theorem flat_congr {α β : Type} {f g : α → List β} : ∀ {l : List α}, (∀ x ∈ l, f x = g x) → l.flatMap f = l.flatMap g
  | [], _ => rfl
  | x :: l, h => by rw [List.flatMap_cons, List.flatMap_cons, h x (by simp), flat_congr fun y hy => h y (by simp [hy])]
theorem bod_txt (t : Nat → Bool) : (bodT t 256).flatMap txtT = bodM t 256 := by
  unfold bodT bodM
  rw [flat_flat]
  exact flat_congr fun i hi => pie_txt (List.mem_range.1 hi)
theorem rngT_le {i j : Nat} (hi : i < 256) (hj : j < 256) : ∀ k ∈ rngT i j, k ≤ 256 := by
  intro k hk
  unfold rngT at hk
  rw [List.mem_append, List.mem_append] at hk
  rcases hk with (hk | hk) | hk
  · simp at hk; omega
  · split at hk <;> simp at hk; omega
  · split at hk <;> simp at hk; omega
theorem pieT_le {t : Nat → Bool} {i : Nat} (hi : i < 256) : ∀ k ∈ pieT t i, k ≤ 256 := by
  unfold pieT
  split
  · exact rngT_le hi (hi_spec hi).2.1
  · intro k hk; cases hk
theorem bodT_le (t : Nat → Bool) : ∀ k ∈ bodT t 256, k ≤ 256 := fun k hk => by
  obtain ⟨i, hi, h⟩ := List.mem_flatMap.1 hk
  exact pieT_le (List.mem_range.1 hi) k h
/-- What the marks mean. -/
def meanH (i : Nat) (r : List Nat) (k : Nat) : Bool := match r with
  | [] => decide (k = i)
  | [_] => decide (k = i)
  | d :: j :: _ => if d = 256 then decide (i ≤ k) && decide (k ≤ j) else decide (k = i)
def meanT : List Nat → Nat → Bool
  | [], _ => false
  | i :: r, k => meanH i r k || meanT r k
def noD (r : List Nat) : Prop := ∀ d l, r = d :: l → d < 256
theorem mean_one {i : Nat} {r : List Nat} (h : noD r) (k : Nat) : meanT (i :: r) k = (decide (k = i) || meanT r k) := by
  show (meanH i r k || meanT r k) = _
  congr 1
  match r, h with
  | [], _ => rfl
  | [_], _ => rfl
  | d :: j :: l, h => 
    have := h _ _ rfl
    exact if_neg (by omega)
theorem mean_rng {i j : Nat} {r : List Nat} (hj : j < 256) (hij : i ≤ j) (h : noD r) {k : Nat} (hk : k < 256) : meanT (rngT i j ++ r) k = ((decide (i ≤ k) && decide (k ≤ j)) || meanT r k) := by
  unfold rngT
  by_cases h1 : i + 1 < j
  · rw [if_pos h1, if_pos (by omega)]
    have e1 : meanT (i :: 256 :: j :: r) k = ((decide (i ≤ k) && decide (k ≤ j)) || meanT (256 :: j :: r) k) := rfl
    have e2 : meanT (256 :: j :: r) k = (decide (k = 256) || meanT (j :: r) k) := mean_one (fun d l e => by injection e with e1 e2; omega) k
    show meanT (i :: 256 :: j :: r) k = _
    rw [e1, e2, mean_one h]
    rw [Bool.eq_iff_iff]
    simp
    constructor
    · rintro (h | rfl | rfl | h)
      · exact .inl h
      · omega
      · exact .inl ⟨hij, Nat.le_refl _⟩
      · exact .inr h
    · rintro (h | h)
      · exact .inl h
      · exact .inr (.inr (.inr h))
  · rw [if_neg h1]
    by_cases h2 : i < j
    · rw [if_pos h2]
      show meanT (i :: j :: r) k = _
      rw [mean_one (fun d l e => by injection e with e1 e2; omega), mean_one h, ← Bool.or_assoc]
      congr 1
      rw [Bool.eq_iff_iff]
      simp
      omega
    · rw [if_neg h2]
      show meanT (i :: r) k = _
      rw [mean_one h]
      congr 1
      rw [Bool.eq_iff_iff]
      simp
      omega
theorem noD_nil : noD [] := fun d l e => by cases e
theorem noD_pie {t : Nat → Bool} {i : Nat} (hi : i < 256) {r : List Nat} (h : noD r) : noD (pieT t i ++ r) := by
  unfold pieT rngT
  split
  · intro d l e
    injection e with e1 e2
    omega
  · exact h
theorem mean_bod {t : Nat → Bool} {k : Nat} (hk : k < 256) : ∀ (m a : Nat), a + m ≤ 256 → noD ((List.range' a m).flatMap (pieT t)) ∧ (meanT ((List.range' a m).flatMap (pieT t)) k = true ↔ ∃ i, a ≤ i ∧ i < a + m ∧ t i = true ∧ (i = 0 ∨ t (i - 1) = false) ∧ i ≤ k ∧ k ≤ hiM t i)
  | 0, a, _ => ⟨noD_nil, ⟨fun h => (by cases h), fun ⟨i, e1, e2, _⟩ => (by omega)⟩⟩
  | m + 1, a, h => by
    obtain ⟨h1, h2⟩ := mean_bod (t := t) hk m (a + 1) (by omega)
    rw [List.range'_succ, List.flatMap_cons]
    refine ⟨noD_pie (by omega) h1, ?_⟩
    obtain ⟨g1, g2, -, -⟩ := hi_spec (t := t) (i := a) (by omega)
    by_cases hs : (t a && !(decide (0 < a) && t (a - 1))) = true
    · rw [show pieT t a = rngT a (hiM t a) from if_pos hs, mean_rng g2 g1 h1 hk, Bool.or_eq_true, h2]
      rw [Bool.and_eq_true] at hs
      have hs2 : a = 0 ∨ t (a - 1) = false := by
        have := hs.2
        simp at this
        exact this
      constructor
      · rintro (h | ⟨i, e1, e2, e3⟩)
        · simp at h
          exact ⟨a, Nat.le_refl _, by omega, hs.1, hs2, h⟩
        · exact ⟨i, by omega, by omega, e3⟩
      · rintro ⟨i, e1, e2, e3, e4, e5⟩
        by_cases ei : i = a
        · subst ei
          exact .inl (by simp [e5])
        · exact .inr ⟨i, by omega, by omega, e3, e4, e5⟩
    · rw [show pieT t a = [] from if_neg hs, List.nil_append, h2]
      constructor
      · rintro ⟨i, e1, e2, e3⟩
        exact ⟨i, by omega, by omega, e3⟩
      · rintro ⟨i, e1, e2, e3, e4, e5⟩
        by_cases ei : i = a
        · subst ei
          exfalso
          apply hs
          rw [e3]
          rcases e4 with rfl | e4
          · rfl
          · rw [e4]; simp
        · exact ⟨i, by omega, by omega, e3, e4, e5⟩
theorem run_beg {t : Nat → Bool} : ∀ k, t k = true → ∃ i, i ≤ k ∧ t i = true ∧ (i = 0 ∨ t (i - 1) = false) ∧ ∀ j, i ≤ j → j ≤ k → t j = true
  | 0, h => ⟨0, Nat.le_refl _, h, .inl rfl, fun j _ hj => by rw [show j = 0 by omega]; exact h⟩
  | k + 1, h => by
    cases hk : t k with
    | false => exact ⟨k + 1, Nat.le_refl _, h, .inr hk, fun j h1 h2 => by rw [show j = k + 1 by omega]; exact h⟩
    | true =>
      obtain ⟨i, e1, e2, e3, e4⟩ := run_beg k hk
      refine ⟨i, by omega, e2, e3, fun j h1 h2 => ?_⟩
      by_cases hj : j ≤ k
      · exact e4 j h1 hj
      · rw [show j = k + 1 by omega]; exact h
theorem mean_all (t : Nat → Bool) {k : Nat} (hk : k < 256) : meanT (bodT t 256) k = t k := by
  have h := (mean_bod (t := t) hk 256 0 (by decide)).2
  unfold bodT
  rw [List.range_eq_range', Bool.eq_iff_iff, h]
  constructor
  · rintro ⟨i, -, e2, e3, -, e5, e6⟩
    obtain ⟨-, -, g3, -⟩ := hi_spec (t := t) (i := i) (by omega)
    by_cases hik : i = k
    · rw [← hik]; exact e3
    · exact g3 k (by omega) e6
  · intro ht
    obtain ⟨i, e1, e2, e3, e4⟩ := run_beg k ht
    refine ⟨i, Nat.zero_le _, by omega, e2, e3, e1, ?_⟩
    obtain ⟨g1, g2, g3, g4⟩ := hi_spec (t := t) (i := i) (by omega)
    apply Classical.byContradiction
    intro hn
    rcases g4 with g4 | g4
    · omega
    · rw [e4 (hiM t i + 1) (by omega) (by omega)] at g4
      cases g4
theorem bod_inj {t u : Nat → Bool} {x y : List Nat} (h : bodM t 256 ++ 93 :: x = bodM u 256 ++ 93 :: y) : (∀ k, k < 256 → t k = u k) ∧ x = y := by
  rw [← bod_txt, ← bod_txt] at h
  obtain ⟨h1, h2⟩ := toks_inj (bodT_le t) (bodT_le u) h
  refine ⟨fun k hk => ?_, h2⟩
  rw [← mean_all t hk, h1, mean_all u hk]
/-! ### a set -/
theorem bod_no94 {t : Nat → Bool} {x y : List Nat} : bodM t 256 ++ 93 :: x ≠ 94 :: y := by
  rw [← bod_txt]
  have hle := bodT_le t
  generalize bodT t 256 = l at *
  intro h
  cases l with
  | nil => simp at h
  | cons k l =>
    obtain ⟨d, r, e, -, h1⟩ := txtT_head (hle k (by simp))
    rw [List.flatMap_cons, e] at h
    simp at h
    exact h1 h.1
theorem one_eq {c : BitVec 256} (h : countM c = 1) : ∀ k, k < 256 → c.getLsbD k = decide (k = (nextM c 0).1) := by
  unfold countM at h
  obtain ⟨a, ha⟩ : ∃ a, (List.range 256).filter (fun b => c.getLsbD b) = [a] := List.length_eq_one_iff.1 h
  have hm : ∀ k, k < 256 → (c.getLsbD k = true ↔ k = a) := fun k hk => by
    have : k ∈ (List.range 256).filter (fun b => c.getLsbD b) ↔ k ∈ [a] := by rw [ha]
    rw [List.mem_filter, List.mem_range, List.mem_singleton] at this
    constructor
    · intro h; exact this.1 ⟨hk, h⟩
    · intro h; exact (this.2 h).2
  have ha2 : a < 256 ∧ c.getLsbD a = true := by
    have : a ∈ (List.range 256).filter (fun b => c.getLsbD b) := by rw [ha]; simp
    rw [List.mem_filter, List.mem_range] at this
    exact this
  have hn : (nextM c 0).1 = a := by
    have hf : ((List.range 256).find? fun b => decide (0 ≤ b) && c.getLsbD b) = some a := by
      rw [List.find?_range_eq_some]
      refine ⟨by simp [ha2.2], by simp [ha2.1], fun j hj => ?_⟩
      have := hm j (by omega)
      cases hc : c.getLsbD j with
      | false => simp
      | true => have := this.1 hc; omega
    unfold nextM
    rw [hf]
  intro k hk
  rw [hn, Bool.eq_iff_iff, hm k hk]
  simp
theorem show_inj {c d : BitVec 256} {x y : List Nat} (h : showM c ++ x = showM d ++ y) : c = d ∧ x = y := by
  have fin : ∀ {c d : BitVec 256}, (∀ k, k < 256 → c.getLsbD k = d.getLsbD k) → c = d := fun h => BitVec.eq_of_getLsbD_eq fun k hk => h k hk
  have sb : ∀ {c d : BitVec 256} {x y : List Nat}, countM c = 1 → countM d ≠ 1 → showM c ++ x ≠ showM d ++ y := fun {c d x y} h1 h2 h => by
    obtain ⟨e, r, e1, e2⟩ := sp_head (nextM_lt c 0)
    unfold showM at h
    rw [if_pos h1, if_neg h2, e1] at h
    apply e2
    split at h <;> simp at h <;> exact h.1
  by_cases h1 : countM c = 1
  · by_cases h2 : countM d = 1
    · unfold showM at h
      rw [if_pos h1, if_pos h2] at h
      have h3 := rd_sp (nextM_lt c 0) x
      rw [h, rd_sp (nextM_lt d 0) y] at h3
      injection h3 with h3 h4
      exact ⟨fin fun k hk => by rw [one_eq h1 k hk, one_eq h2 k hk, h3], h4.symm⟩
    · exact absurd h (sb h1 h2)
  · by_cases h2 : countM d = 1
    · exact absurd h.symm (sb h2 h1)
    · unfold showM at h
      rw [if_neg h1, if_neg h2] at h
      have nn : ∀ {c d : BitVec 256} {k : Nat}, (~~~c).getLsbD k = (~~~d).getLsbD k → k < 256 → c.getLsbD k = d.getLsbD k := fun {c d k} h hk => by
        rw [BitVec.getLsbD_not, BitVec.getLsbD_not, decide_eq_true hk, Bool.true_and, Bool.true_and] at h
        simpa using h
      by_cases g1 : 128 < countM c <;> by_cases g2 : 128 < countM d
      · rw [if_pos g1, if_pos g2] at h
        simp only [List.cons_append, List.nil_append, List.append_assoc, List.cons.injEq, true_and, if_pos g1, if_pos g2] at h
        obtain ⟨h3, h4⟩ := bod_inj h
        exact ⟨fin fun k hk => nn (h3 k hk) hk, h4⟩
      · rw [if_pos g1, if_neg g2] at h
        simp only [List.cons_append, List.nil_append, List.append_assoc, List.cons.injEq, true_and] at h
        exact absurd h.symm bod_no94
      · rw [if_neg g1, if_pos g2] at h
        simp only [List.cons_append, List.nil_append, List.append_assoc, List.cons.injEq, true_and] at h
        exact absurd h bod_no94
      · rw [if_neg g1, if_neg g2] at h
        simp only [List.cons_append, List.nil_append, List.append_assoc, List.cons.injEq, true_and, if_neg g1, if_neg g2] at h
        obtain ⟨h3, h4⟩ := bod_inj h
        exact ⟨fin fun k hk => h3 k hk, h4⟩
/-! ### numbers -/
theorem dN_dig (u : Nat) : ∀ b ∈ dN u, 48 ≤ b ∧ b ≤ 57 := by
  induction u using Nat.strongRecOn with
  | _ u ih =>
    by_cases h : u < 10
    · rw [dN_small h]; intro b hb; simp at hb; omega
    · rw [dN_step h]
      intro b hb
      rw [List.mem_append] at hb
      rcases hb with hb | hb
      · exact ih (u / 10) (by omega) b hb
      · simp at hb; omega
def valD (l : List Nat) : Nat := l.foldl (fun n b => 10 * n + (b - 48)) 0
theorem dN_val (u : Nat) : valD (dN u) = u := by
  induction u using Nat.strongRecOn with
  | _ u ih =>
    by_cases h : u < 10
    · rw [dN_small h]; unfold valD; simp
    · rw [dN_step h]
      have := ih (u / 10) (by omega)
      unfold valD at this ⊢
      rw [List.foldl_append, this]
      simp
      omega
theorem dN_inj {u v : Nat} {a b : Nat} {x y : List Nat} (ha : a < 48 ∨ 57 < a) (hb : b < 48 ∨ 57 < b) (h : dN u ++ a :: x = dN v ++ b :: y) : u = v ∧ a :: x = b :: y := by
  have key : ∀ {l m : List Nat}, (∀ b ∈ l, 48 ≤ b ∧ b ≤ 57) → (∀ b ∈ m, 48 ≤ b ∧ b ≤ 57) → l ++ a :: x = m ++ b :: y → l = m ∧ a :: x = b :: y := by
    intro l
    induction l with
    | nil =>
      intro m _ hm h
      cases m with
      | nil => exact ⟨rfl, h⟩
      | cons k m =>
        have := hm k (by simp)
        simp at h
        omega
    | cons k l ih =>
      intro m hl hm h
      cases m with
      | nil =>
        have := hl k (by simp)
        simp at h
        omega
      | cons j m =>
        simp only [List.cons_append, List.cons.injEq] at h
        obtain ⟨h1, h2⟩ := ih (fun b hb => hl b (by simp [hb])) (fun b hb => hm b (by simp [hb])) h.2
        exact ⟨by rw [h.1, h1], h2⟩
  obtain ⟨h1, h2⟩ := key (dN_dig u) (dN_dig v) h
  exact ⟨by rw [← dN_val u, h1, dN_val v], h2⟩
/-! ### lines -/
/-- The cells and where each leads, as they're read from a line. -/
theorem segs_inj {st st' : Nat → Nat → Nat} {i : Nat} {x y : List Nat} : ∀ {l m : List (BitVec 256)}, segsM st i l ++ 10 :: x = segsM st' i m ++ 10 :: y → l = m ∧ (∀ c ∈ l, st i (nextM c 0).1 = st' i (nextM c 0).1) ∧ x = y
  | [], [], h => ⟨rfl, fun c hc => by (cases hc), by simpa [segsM] using h⟩
  | [], c :: m, h => by simp [segsM, segM] at h
  | c :: l, [], h => by simp [segsM, segM] at h
  | c :: l, d :: m, h => by
    have hx : ∀ (st : Nat → Nat → Nat) (l : List (BitVec 256)) (x : List Nat), ∃ a r, segsM st i l ++ 10 :: x = a :: r ∧ (a < 48 ∨ 57 < a) := fun st l x => by
      cases l with
      | nil => exact ⟨10, x, rfl, .inl (by decide)⟩
      | cons c l => exact ⟨32, _, rfl, .inl (by decide)⟩
    have ex : ∀ (st : Nat → Nat → Nat) (c : BitVec 256) (l : List (BitVec 256)) (x : List Nat), segsM st i (c :: l) ++ 10 :: x = 32 :: (showM c ++ 62 :: (dN (st i (nextM c 0).1) ++ (segsM st i l ++ 10 :: x))) := fun st c l x => by
      unfold segsM
      rw [List.flatMap_cons]
      unfold segM
      simp
    rw [ex, ex] at h
    injection h with _ h
    obtain ⟨rfl, h⟩ := show_inj h
    injection h with _ h
    obtain ⟨a, r, e1, h1⟩ := hx st l x
    obtain ⟨b, r', e2, h2⟩ := hx st' m y
    rw [e1, e2] at h
    obtain ⟨h3, h4⟩ := dN_inj h1 h2 h
    rw [← e1, ← e2] at h4
    obtain ⟨h5, h6, h7⟩ := segs_inj h4
    refine ⟨by rw [h5], fun z hz => ?_, h7⟩
    rcases List.mem_cons.1 hz with rfl | hz
    · exact h3
    · exact h6 z hz
theorem line_inj {st st' : Nat → Nat → Nat} {fi fi' : Nat → Bool} {i : Nat} {l m : List (BitVec 256)} {x y : List Nat} (h : lineM l st fi i ++ x = lineM m st' fi' i ++ y) : fi i = fi' i ∧ l = m ∧ (∀ c ∈ l, st i (nextM c 0).1 = st' i (nextM c 0).1) ∧ x = y := by
  unfold lineM at h
  simp only [List.append_assoc, List.cons_append, List.nil_append] at h
  have h := List.append_cancel_left h
  have hx : ∀ (st : Nat → Nat → Nat) (l : List (BitVec 256)) (x : List Nat), ∃ a r, segsM st i l ++ 10 :: x = a :: r ∧ a ≠ 42 := fun st l x => by
    cases l with
    | nil => exact ⟨10, x, rfl, by decide⟩
    | cons c l => exact ⟨32, _, rfl, by decide⟩
  cases e1 : fi i <;> cases e2 : fi' i <;> rw [e1, e2] at h
  · exact ⟨rfl, segs_inj h⟩
  · obtain ⟨a, r, e, h1⟩ := hx st l x
    simp only [Bool.false_eq_true, if_false, if_true, List.nil_append, List.cons_append] at h
    rw [e] at h
    injection h with h h'
    exact absurd h h1
  · obtain ⟨a, r, e, h1⟩ := hx st' m y
    simp only [Bool.false_eq_true, if_false, if_true, List.nil_append, List.cons_append] at h
    rw [e] at h
    injection h with h h'
    exact absurd h.symm h1
  · simp only [if_true, List.cons_append, List.nil_append] at h
    injection h with _ h
    exact ⟨rfl, segs_inj h⟩
theorem lines_inj {st st' : Nat → Nat → Nat} {fi fi' : Nat → Bool} {l m : List (BitVec 256)} : ∀ (n a : Nat), (List.range' a n).flatMap (lineM l st fi) = (List.range' a n).flatMap (lineM m st' fi') → (0 < n → l = m) ∧ ∀ i, a ≤ i → i < a + n → fi i = fi' i ∧ ∀ c ∈ l, st i (nextM c 0).1 = st' i (nextM c 0).1
  | 0, a, _ => ⟨fun h => by omega, fun i h1 h2 => by omega⟩
  | n + 1, a, h => by
    rw [List.range'_succ, List.flatMap_cons, List.flatMap_cons] at h
    obtain ⟨h1, h2, h3, h4⟩ := line_inj h
    obtain ⟨-, h5⟩ := lines_inj n (a + 1) h4
    refine ⟨fun _ => h2, fun i hi1 hi2 => ?_⟩
    by_cases hi : i = a
    · subst hi; exact ⟨h1, h3⟩
    · exact h5 i (by omega) (by omega)
/-- A table's text tells the table. -/
theorem table_inj {l m : List (BitVec 256)} {n k : Nat} {st st' : Nat → Nat → Nat} {fi fi' : Nat → Bool} (h : tableM l n st fi = tableM m k st' fi') : n = k ∧ (0 < n → l = m) ∧ ∀ i, i < n → fi i = fi' i ∧ ∀ c ∈ l, st i (nextM c 0).1 = st' i (nextM c 0).1 := by
  unfold tableM headM at h
  simp only [List.append_assoc, List.cons_append, List.nil_append, List.cons.injEq, true_and] at h
  obtain ⟨rfl, h⟩ := dN_inj (a := 10) (b := 10) (.inl (by decide)) (.inl (by decide)) h
  injection h with _ h
  unfold linesM at h
  rw [List.range_eq_range'] at h
  obtain ⟨h1, h2⟩ := lines_inj n 0 h
  exact ⟨rfl, h1, fun i hi => h2 i (Nat.zero_le _) (by omega)⟩
theorem table_congr {l : List (BitVec 256)} {n : Nat} {st st' : Nat → Nat → Nat} {fi fi' : Nat → Bool} (hst : ∀ i b, i < n → b < 256 → st i b = st' i b) (hfi : ∀ i, i < n → fi i = fi' i) : tableM l n st fi = tableM l n st' fi' := by
  unfold tableM linesM
  congr 1
  refine flat_congr fun i hi => ?_
  have hi := List.mem_range.1 hi
  unfold lineM segsM
  rw [hfi i hi]
  congr 2
  exact flat_congr fun c _ => by unfold segM; rw [hst i _ hi (nextM_lt c 0)]
end Go.Proofs.YthomdogheamfpaaDoor
/- minim.spell: the walk. -/
set_option linter.unusedVariables false
set_option linter.unusedSimpArgs false
set_option maxRecDepth 100000
namespace Go.Proofs.YthomdogheamfpaaDoor
open Go.VC
attribute [local irreducible] mRun gRun atRun
/-! ### pairs and ways -/
def pkL (z : Int × Int) : List Value := [.int .i64 z.1, .int .i64 z.2]
def pkV (z : Int × Int) : Value := .agg (pkL z).toArray
def PkOk (z : Int × Int) : Prop := inK .i64 z.1 ∧ inK .i64 z.2
theorem pkV_inj {a b : Int × Int} (h : pkV a = pkV b) : a = b := by
  obtain ⟨x, y⟩ := a
  obtain ⟨x', y'⟩ := b
  simp only [pkV, pkL, Value.agg.injEq, Array.mk.injEq, List.cons.injEq, Value.int.injEq, true_and, and_true] at h
  obtain ⟨h1, h2⟩ := h
  rw [h1, h2]
theorem pk_wf {x : Int} (h : inK .i64 x) : (Lit.int .i64 x).wf = true := by
  unfold Lit.wf
  simp only [Bool.and_eq_true, decide_eq_true_eq]
  exact h
theorem pk_lits (m : Nat) {n : Int × Int} (h : PkOk n) : Tryd.prog.keyLits (m + 2) 179 (pkL n) = some [.int .i64 n.1, .int .i64 n.2] := by
  have c1 : Tryd.prog.cellsOf 179 = 2 := by kernel_rfl
  have c2 : Tryd.prog.cellsOf 3 = 1 := by kernel_rfl
  simp [Program.keyLits, Tryd.underlying179, Tryd.underlying3, c1, c2, pkL, pk_wf h.1, pk_wf h.2]
theorem pk_key {n : Int × Int} (h : PkOk n) : ∃ l, keyOf Tryd.prog 179 (pkV n) = some l := by
  have hk : Tryd.prog.keyType 179 = true := by kernel_rfl
  have c1 : Tryd.prog.cellsOf 179 = 2 := by kernel_rfl
  have hf : (pkV n).formed Tryd.prog 179 = true := by simp [pkV, pkL, Value.formed, Tryd.underlying179, c1]
  obtain ⟨m, hm⟩ : ∃ m, Tryd.prog.types.size + 1 = m + 2 := ⟨Tryd.prog.types.size - 1, by
    have : decide (1 ≤ Tryd.prog.types.size) = true := by kernel_rfl
    have := of_decide_eq_true this
    omega⟩
  refine ⟨.string (keyBytes [.int .i64 n.1, .int .i64 n.2]), ?_⟩
  unfold keyOf
  simp only [Tryd.underlying179, hk, hf, Bool.and_self, if_true]
  rw [hm, show (pkV n).cells.toList = pkL n from rfl, pk_lits m h]
  rfl
theorem keyPk : KeyW Tryd.prog 179 PkOk pkV :=
  KeyW.ofLaw (deep_law (m := 2) (by decide) (by kernel_rfl) (by kernel_rfl) (by simp [Tryd.underlying179])) (fun a b h => pkV_inj h) (fun a h => pk_key h)
def wyL (w : Int × Nat) : List Value := [.int .i64 w.1, .int .u8 (w.2 : Int)]
def wyV (w : Int × Nat) : Value := .agg (wyL w).toArray
theorem mapPk : MapTW Tryd.prog 182 179 181 (wyV (0, 0)) := ⟨rfl, rfl⟩
/-- Pairs of states in memory. -/
def tPk : Ty Nd where
  size := 2
  rep _ _ cs n := n.s = 0 ∧ cs = pkL (n.x, n.y)
  len h := by rw [h.2]; rfl
  frame h _ := h
  mono h _ := h
/-- What the map of the seen holds. -/
def seenW (F : List NW) (W : List (Int × Nat)) (z : Int × Int) : Option Value := (F.findIdx? fun x => decide ((x.1.x, x.1.y) = z)).bind fun i => (W[i]?).map wyV
structure Links (F : List NW) (W : List (Int × Nat)) : Prop where
  len : W.length = F.length
  nd : (F.map fun x => (x.1.x, x.1.y)).Nodup
  s0 : ∀ x ∈ F, x.1.s = 0
  zero : W[0]? = some (-1, 0)
  link : ∀ (i : Nat) (y : NW), F[i]? = some y → (i = 0 ∧ y.2 = []) ∨ ∃ (j c : Nat) (x : NW), W[i]? = some ((j : Int), c) ∧ j < i ∧ F[j]? = some x ∧ y.2 = x.2 ++ [c] ∧ c < 256
theorem seen_find {F : List NW} {W : List (Int × Nat)} (hn : (F.map fun x => (x.1.x, x.1.y)).Nodup) {i : Nat} {y : NW} (h : F[i]? = some y) : F.findIdx? (fun x => decide ((x.1.x, x.1.y) = (y.1.x, y.1.y))) = some i := by
  rw [List.findIdx?_eq_some_iff_getElem]
  obtain ⟨hi, e⟩ := List.getElem?_eq_some_iff.1 h
  refine ⟨hi, by rw [e]; exact decide_eq_true rfl, fun j hj => ?_⟩
  have := (List.pairwise_iff_getElem.1 hn) j i (by rw [List.length_map]; omega) (by rw [List.length_map]; exact hi) hj
  rw [List.getElem_map, List.getElem_map, e] at this
  simpa using this
theorem Links.seen {F : List NW} {W : List (Int × Nat)} (h : Links F W) {i : Nat} {y : NW} {w : Int × Nat} (hy : F[i]? = some y) (hw : W[i]? = some w) : seenW F W (y.1.x, y.1.y) = some (wyV w) := by
  unfold seenW
  rw [seen_find (W := W) h.nd hy]
  simp [hw]
/-! ### turning round -/
def turnL (l : List Nat) (i : Nat) : List Nat := (List.range l.length).map fun p => if p < i ∨ l.length ≤ p + i then l.getD (l.length - 1 - p) 0 else l.getD p 0
theorem turnL_len (l : List Nat) (i : Nat) : (turnL l i).length = l.length := by simp [turnL]
theorem turnL_get {l : List Nat} {i p : Nat} (h : p < l.length) : (turnL l i)[p]? = some (if p < i ∨ l.length ≤ p + i then l.getD (l.length - 1 - p) 0 else l.getD p 0) := by
  unfold turnL
  rw [List.getElem?_map, List.getElem?_range h]
  rfl
theorem turnL_zero (l : List Nat) : turnL l 0 = l := by
  apply List.ext_getElem?
  intro p
  by_cases hp : p < l.length
  · rw [turnL_get hp, if_neg (by omega), List.getD_eq_getElem?_getD, List.getElem?_eq_getElem hp]; rfl
  · rw [List.getElem?_eq_none (by rw [turnL_len]; omega), List.getElem?_eq_none (by omega)]
theorem turnL_end {l : List Nat} {i : Nat} (h : l.length ≤ i + i + 1) : turnL l i = l.reverse := by
  apply List.ext_getElem?
  intro p
  by_cases hp : p < l.length
  · rw [turnL_get hp, List.getElem?_reverse hp, List.getElem?_eq_getElem (by omega)]
    by_cases h1 : p < i ∨ l.length ≤ p + i
    · rw [if_pos h1, List.getD_eq_getElem?_getD, List.getElem?_eq_getElem (by omega)]; rfl
    · rw [if_neg h1, List.getD_eq_getElem?_getD, List.getElem?_eq_getElem hp]
      have : l.length - 1 - p = p := by omega
      simp only [this, Option.getD_some]
  · rw [List.getElem?_eq_none (by rw [turnL_len]; omega), List.getElem?_eq_none (by rw [List.length_reverse]; omega)]
theorem turnL_step {l : List Nat} {i : Nat} (h : i + i + 1 < l.length) : ((turnL l i).set i (l.getD (l.length - 1 - i) 0)).set (l.length - 1 - i) (l.getD i 0) = turnL l (i + 1) := by
  apply List.ext_getElem?
  intro p
  by_cases hp : p < l.length
  · rw [turnL_get hp, List.getElem?_set, List.length_set, turnL_len]
    by_cases h1 : l.length - 1 - i = p
    · subst h1
      rw [if_pos rfl, if_pos hp, if_pos (.inr (by omega)), show l.length - 1 - (l.length - 1 - i) = i by omega]
    · rw [if_neg h1, List.getElem?_set, turnL_len]
      by_cases h2 : i = p
      · subst h2
        rw [if_pos rfl, if_pos hp, if_pos (.inl (by omega))]
      · rw [if_neg h2, turnL_get hp]
        by_cases h3 : p < i ∨ l.length ≤ p + i
        · rw [if_pos h3, if_pos (by omega)]
        · rw [if_neg h3, if_neg (by omega)]
  · rw [List.getElem?_eq_none (by rw [List.length_set, List.length_set, turnL_len]; omega), List.getElem?_eq_none (by rw [turnL_len]; omega)]
/-- As st1O, with what it leaves alone. -/
theorem st1OA {α : Type} {T : Ty α} {S : Nat → Prop} {B : Nat → Prop} {H0 H : Heap} {ps : List Pc} {n cap : Nat} {xs : List α} {P : Program} {t b o j : Nat} {v : Value} {x : α} {K : Heap → Prop} (st : StB B H0 H ps) (i : Nat) (ht : CellT P t) (hp : ps[i]? = some (pN T S t (some ⟨b, 0, none⟩) n cap xs)) (hsz : T.size = 1) (ho : o = j) (hj : j < xs.length)
    (hv : v.oneCell' = true) (hr : ∀ H', Agr S H H' → T.rep S H' [v] x) (k : ∀ H', StB B H0 H' (ps.set i (pN T S t (some ⟨b, 0, none⟩) n cap (xs.set j x))) → Agr (fun k => k < H.size ∧ k ≠ b) H H' → H.size ≤ H'.size → K H') : VEffU P (Instr.storeAt t (.pointer (some ⟨b, o, none⟩)) v) H K := by
  subst ho
  have hok := st.at_ i hp
  obtain ⟨-, -, -, l, hblk, hlen, -, hput⟩ := hok.1.placeS hj
  rw [hsz, Nat.mul_one] at hlen hput
  refine VC.st1 ht hblk (by omega) hv ?_
  intro H' hb' ha' hs'
  have hSH : Agr S H H' := ha'.mono fun k hk hkb => hok.2 k hk (by subst hkb; exact ⟨0, n, cap, rfl⟩)
  have hown := hput H' [v] x (by rw [splice_one (by omega)]; exact hb') hSH (hr H' hSH)
  exact k H' (st.upd i hp (ha'.mono fun k hk hkb => hk.2 (.inl (by subst hkb; exact ⟨0, n, cap, rfl⟩))) _ ⟨hown, hok.2⟩ (fun k hk => .inl hk) (fun k hk => by rw [hs']; exact (st.in_ i hp hk).2) (by omega)) (ha'.mono fun k hk => hk.2) (by omega)
theorem way_z7 : (Tryd.prog.info? 181).bind (·.zero) = some (wyV (0, 0)) := by kernel_rfl
set_option maxHeartbeats 16000000 in
theorem spell_p {H : Heap} {oa : Option Addr} {oc mb i : Nat} {F : List NW} {W : List (Int × Nat)} {y : NW} (ho : SlD tPk (Old H) H oa oc (F.map (·.1))) (hm : MapW PkOk pkV H mb (seenW F W)) (hL : Links F W) (hF : F.length ≤ 4294967296) (hr : ∀ x ∈ F, PkOk (x.1.x, x.1.y)) (hy : F[i]? = some y) :
    Pure Tryd.prog 104 #[.slice oa F.length oc, .map (some mb), .int .i64 (i : Int)] H (.string (bA y.2)) := by
  have hmb : mb < H.size := by
    obtain ⟨⟨es, clock, h1, -⟩, -⟩ := hm
    exact (Array.getElem?_eq_some_iff.1 h1).1
  have hgF : ∀ {k : Nat} {x : NW}, F[k]? = some x → (F.map (·.1))[k]? = some x.1 := fun h => by rw [List.getElem?_map, h]; rfl
  have hmW : ∀ {G : Heap}, Agr (Old H) H G → MapW PkOk pkV G mb (seenW F W) := fun h => by
    obtain ⟨h1, h2⟩ := hm
    exact ⟨h1.agr h hmb, h2⟩
  refine FnOk.of_vc Tryd.func104 rfl (Tryd.call104 _) ?_
  obtain ⟨w, hw⟩ := get_some (l := W) (k := i) (by rw [hL.len]; exact (List.getElem?_eq_some_iff.1 hy).1)
  (conv => whnf); refine ixrn (i := i) sl183 ho (List.length_map _).symm (hgF hy) rfl ?_
  rintro b1 o1 c1 hS1 hc1 ⟨-, rfl⟩
  (conv => whnf); refine ldN (cs := pkL (y.1.x, y.1.y)) ag179 hc1 trivial ?_
  (conv => whnf); refine mlookW (a := (y.1.x, y.1.y)) mapPk keyPk (hr y (List.mem_of_getElem? hy)) hm trivial ?_
  rw [hL.seen hy hw]
  (conv => whnf); refine valloc (wyV (0, 0)) (wyL (0, 0)) way_z7 rfl ?_
  intro p2 H2 hp2 hs2 hb2 ha2
  have st2 := (St.nil H).box hp2 hs2 hb2 ha2
  (conv => whnf); refine stNB (cs := wyL w) st2 0 rfl rfl (Nat.le_refl _) rfl fun H3 st3 => ?_
  rw [splice_all (show (wyL w).length = (wyL (0, 0)).length from rfl)] at st3
  have st4 := st3.nils tU8 tByt
  (conv => whnf)
  refine VLoop.mk [7, 8] (fun x : Nat × List Nat × Option Addr × Nat × Nat => match x with | (k, bk, a, c, pw) => [.slice a bk.length c, .pointer (some ⟨pw, 0, none⟩)])
    (fun x H4 => match x with | (k, bk, a, c, pw) => (∃ z wz, F[k]? = some z ∧ W[k]? = some wz ∧ y.2 = z.2 ++ bk.reverse ∧ (∀ b ∈ bk, b < 256) ∧ bk.length + k ≤ i ∧ (bk = [] → a = none) ∧ St H H4 [pB 181 pw (wyL wz), pS tU8 tByt a bk.length c (bk.map fun (x : Nat) => (x : Int))])) (fun x _ => x.1) ?_ ?_
  · (conv => whnf)
    exact ⟨(i, [], none, 0, p2), rfl, y, w, hy, hw, by simp, (fun b hb => by cases hb), by simp, fun _ => rfl, st4⟩
  · clear st4 st3 st2
    rintro ⟨k, bk, a, c, pw⟩ H4 junk4 ⟨z, wz, hz, hwz, heq, hb8, hbl, hnil, st4⟩
    have hil := (List.getElem?_eq_some_iff.1 hy).1
    have hbI : (bk.map fun (x : Nat) => (x : Int)).length = bk.length := List.length_map _
    (conv => whnf); refine VC.fa fl181_0 ?_
    (conv => whnf); refine ld1 (v := .int .i64 wz.1) ct3 (by rw [(st4.blk 0 rfl).cell]; rfl) trivial ?_
    rcases hL.link k z hz with ⟨rfl, hz0⟩ | ⟨j, cb, x, hwk, hjk, hxj, hzx, hcb⟩
    · rw [hL.zero] at hwz
      injection hwz with hwz
      subst hwz
      have hyb : y.2 = bk.reverse := by rw [heq, hz0]; simp
      (conv => whnf); rw [w64 (x := (bk.length : Int) - 1) (by omega) (by omega)]
      (conv => whnf)
      refine VLoop.mk [9, 10] (fun i : Nat => [.int .i64 (i : Int), .int .i64 ((bk.length : Int) - 1 - (i : Int))]) (fun i H5 => (i = 0 ∨ i + i ≤ bk.length) ∧ St H H5 [pB 181 pw (wyL (-1, 0)), pS tU8 tByt a bk.length c ((turnL bk i).map fun (x : Nat) => (x : Int))]) (fun i _ => bk.length - i) ?_ ?_
      · (conv => whnf)
        refine ⟨0, by simp, .inl rfl, ?_⟩
        rw [turnL_zero]
        exact st4
      · clear st4
        rintro i2 H5 junk5 ⟨hi2, st5⟩
        have hget : ∀ p, p < bk.length → ((turnL bk i2).map fun (x : Nat) => (x : Int))[p]? = some (((if p < i2 ∨ bk.length ≤ p + i2 then bk.getD (bk.length - 1 - p) 0 else bk.getD p 0 : Nat)) : Int) := fun p hp => by rw [List.getElem?_map, turnL_get hp]; rfl
        have hlen : ((turnL bk i2).map fun (x : Nat) => (x : Int)).length = bk.length := by rw [List.length_map, turnL_len]
        have hgd : ∀ p, bk.getD p 0 < 256 := fun p => by
          rw [List.getD_eq_getElem?_getD]
          cases h : bk[p]? with
          | none => decide
          | some b => exact hb8 b (List.mem_of_getElem? h)
        (conv => whnf); refine VIte.mk (fun hz2 => ?_) (fun hz2 => ?_) <;> simp only [decide_eq_true_eq, decide_eq_false_iff_not] at hz2
        · have hlt : i2 + i2 + 1 < bk.length := by omega
          obtain ⟨ab, rfl⟩ := st5.adr 1 rfl (by rw [hlen]; omega)
          have hj : ((bk.length : Int) - 1 - (i2 : Int)) = ((bk.length - 1 - i2 : Nat) : Int) := by omega
          have hx1 : (if bk.length - 1 - i2 < i2 ∨ bk.length ≤ bk.length - 1 - i2 + i2 then bk.getD (bk.length - 1 - (bk.length - 1 - i2)) 0 else bk.getD (bk.length - 1 - i2) 0) = bk.getD (bk.length - 1 - i2) 0 := if_neg (by omega)
          have hx2 : (if i2 < i2 ∨ bk.length ≤ i2 + i2 then bk.getD (bk.length - 1 - i2) 0 else bk.getD i2 0) = bk.getD i2 0 := if_neg (by omega)
          have hg1 := hget (bk.length - 1 - i2) (by omega)
          have hg2 := hget i2 (by omega)
          rw [hx1] at hg1
          rw [hx2] at hg2
          have e1 : ((((turnL bk i2).map fun (x : Nat) => (x : Int)).set i2 ((bk.getD (bk.length - 1 - i2) 0 : Nat) : Int)).set (bk.length - 1 - i2) ((bk.getD i2 0 : Nat) : Int)) = (turnL bk (i2 + 1)).map fun (x : Nat) => (x : Int) := by
            rw [← turnL_step hlt, List.map_set, List.map_set]
          have gg0 : Agr (fun k => k < H5.size ∧ k ≠ ab) H5 H5 := Agr.refl _ _
          (conv => whnf); refine VDraw.heldZ (fun k => k < H5.size ∧ k ≠ ab) [15] (sq [0,1,2,3,4,5,6,8,9,10] (.b 7 (.f 11 (sq [12] (.f 13 (sq [14] (.f 15 .e))))) 11 (.f 7 (sq [12] (.f 13 (sq [14] (.f 15 .e))))))) rfl (by kernel_rfl) ?_
          rw [hj]
          (conv => whnf); refine ixO (j := bk.length - 1 - i2) sl85 st5 1 rfl hg1 rfl ?_
          rintro b6 o6 c6 hS6 hc6 ⟨rfl, -⟩
          (conv => whnf); refine ixO (j := i2) sl85 st5 1 rfl hg2 rfl ?_
          rintro b7 o7 c7 hS7 hc7 ⟨rfl, -⟩
          (conv => whnf); refine ⟨?_, ?_⟩
          · refine ld1 ct5 hc6.one trivial ?_
            refine ⟨gg0, ?_⟩
            (conv => whnf); refine ld1 ct5 hc7.one trivial ?_
            refine ⟨gg0, ?_⟩
            (conv => whnf); refine ix sl85 (by omega) (by omega) ?_
            (conv => whnf); refine st1OA (j := i2) (x := ((bk.getD (bk.length - 1 - i2) 0 : Nat) : Int)) st5 1 ct5 rfl rfl (by omega) (by rw [hlen]; omega) rfl (fun H' _ => ⟨rfl, inU8 (hgd _)⟩) fun H8 st8 ha8 hs8 => ?_
            refine ⟨ha8, ?_⟩
            (conv => whnf); refine ix sl85 (by omega) (by omega) ?_
            (conv => whnf); refine st1O (j := bk.length - 1 - i2) (x := ((bk.getD i2 0 : Nat) : Int)) st8 1 ct5 rfl rfl (by omega) (by rw [List.length_set, hlen]; omega) rfl (fun H' _ => ⟨rfl, inU8 (hgd _)⟩) fun H9 st9 => ?_
            (conv => whnf); rw [w64 (x := (i2 : Int) + 1) (by omega) (by omega)]
            (conv => whnf); rw [w64 (x := ((bk.length - 1 - i2 : Nat) : Int) - 1) (by omega) (by omega)]
            refine ⟨rfl, i2 + 1, ?_, ⟨by omega, ?_⟩, by omega⟩
            · simp only [List.cons.injEq, Value.int.injEq, true_and, and_true]
              exact ⟨by omega, by omega⟩
            · rw [← e1]
              exact st9
          · refine ld1 ct5 hc7.one trivial ?_
            refine ⟨gg0, ?_⟩
            (conv => whnf); refine ld1 ct5 hc6.one trivial ?_
            refine ⟨gg0, ?_⟩
            (conv => whnf); refine ix sl85 (by omega) (by omega) ?_
            (conv => whnf); refine st1OA (j := i2) (x := ((bk.getD (bk.length - 1 - i2) 0 : Nat) : Int)) st5 1 ct5 rfl rfl (by omega) (by rw [hlen]; omega) rfl (fun H' _ => ⟨rfl, inU8 (hgd _)⟩) fun H8 st8 ha8 hs8 => ?_
            refine ⟨ha8, ?_⟩
            (conv => whnf); refine ix sl85 (by omega) (by omega) ?_
            (conv => whnf); refine st1O (j := bk.length - 1 - i2) (x := ((bk.getD i2 0 : Nat) : Int)) st8 1 ct5 rfl rfl (by omega) (by rw [List.length_set, hlen]; omega) rfl (fun H' _ => ⟨rfl, inU8 (hgd _)⟩) fun H9 st9 => ?_
            (conv => whnf); rw [w64 (x := (i2 : Int) + 1) (by omega) (by omega)]
            (conv => whnf); rw [w64 (x := ((bk.length - 1 - i2 : Nat) : Int) - 1) (by omega) (by omega)]
            refine ⟨rfl, i2 + 1, ?_, ⟨by omega, ?_⟩, by omega⟩
            · simp only [List.cons.injEq, Value.int.injEq, true_and, and_true]
              exact ⟨by omega, by omega⟩
            · rw [← e1]
              exact st9
        · have hend : turnL bk i2 = bk.reverse := turnL_end (by omega)
          rw [hend] at st5
          rw [hyb]
          by_cases hb0 : bk = []
          · subst hb0
            obtain rfl := hnil rfl
            (conv => whnf); refine vb2s0 (e := tByt) rfl rfl rfl ?_
            (conv => whnf)
            exact ⟨rfl, st5.old⟩
          · have u5 : St H H5 [pS tU8 tByt a bk.length c (bk.reverse.map fun (x : Nat) => (x : Int))] := st5.pick [1] (by decide)
            (conv => whnf); refine nm_str u5 (by simpa using hb0) rfl rfl rfl ?_
            (conv => whnf)
            exact ⟨rfl, st5.old⟩
    · rw [hwk] at hwz
      injection hwz with hwz
      subst hwz
      obtain ⟨wj, hwj⟩ := get_some (l := W) (k := j) (by rw [hL.len]; exact (List.getElem?_eq_some_iff.1 hxj).1)
      (conv => whnf); refine VC.fa fl181_1 ?_
      (conv => whnf); refine ld1 (v := .int .u8 (cb : Int)) ct5 (by rw [(st4.blk 0 rfl).cell]; rfl) trivial ?_
      (conv => whnf); refine vbuild1 sl85 [.int .u8 (cb : Int)] rfl rfl (by decide) (by decide) ?_
      intro q5 H5 hq5 hs5 hb5 ha5
      (conv => whnf); refine appL5 (ys := [(cb : Int)]) (st4.skip hq5 ha5) 1 sl85 rfl (hb5.cells (o := 0) (cs := [.int .u8 (cb : Int)]) fun j v hv => by rw [Nat.zero_add]; exact hv) (Ty.reps_one ⟨rfl, inU8 hcb⟩) rfl (fun u hu => by cases List.mem_singleton.1 hu; rfl) (by rw [hbI]; simp only [List.length_cons, List.length_nil]; omega) (by decide) fun a6 c6 H6 st6 _ => ?_
      have e1 : (bk.map fun (x : Nat) => (x : Int)) ++ [(cb : Int)] = (bk ++ [cb]).map fun (x : Nat) => (x : Int) := by simp
      have e2 : (bk.map fun (x : Nat) => (x : Int)).length + [(cb : Int)].length = (bk ++ [cb]).length := by simp
      rw [e1, e2] at st6
      rw [e2]
      (conv => whnf); refine ldN (cs := wyL ((j : Int), cb)) ag181 ((st6.blk 0 rfl).cells fun j v hv => by rw [Nat.zero_add]; exact hv) trivial ?_
      (conv => whnf); refine valloc (wyV (0, 0)) (wyL (0, 0)) way_z7 rfl ?_
      intro p7 H7 hp7 hs7 hb7 ha7
      have st7 := st6.box hp7 hs7 hb7 ha7
      (conv => whnf); refine stNB (cs := wyL ((j : Int), cb)) st7 2 rfl rfl (Nat.le_refl _) rfl fun H8 st8 => ?_
      rw [splice_all (show (wyL ((j : Int), cb)).length = (wyL (0, 0)).length from rfl)] at st8
      (conv => whnf); refine VC.fa fl181_0 ?_
      (conv => whnf); refine ld1 (v := .int .i64 (j : Int)) ct3 (by rw [(st8.blk 2 rfl).cell]; rfl) trivial ?_
      (conv => whnf); refine ixrn (i := j) sl183 (ho.frame st8.old) (List.length_map _).symm (hgF hxj) rfl ?_
      rintro b9 o9 c9 hS9 hc9 ⟨-, rfl⟩
      (conv => whnf); refine ldN (cs := pkL (x.1.x, x.1.y)) ag179 hc9 trivial ?_
      (conv => whnf); refine mlookW (a := (x.1.x, x.1.y)) mapPk keyPk (hr x (List.mem_of_getElem? hxj)) (hmW st8.old) trivial ?_
      rw [hL.seen hxj hwj]
      (conv => whnf); refine stNB (cs := wyL wj) st8 2 rfl rfl (Nat.le_refl _) rfl fun H10 st10 => ?_
      rw [splice_all (show (wyL wj).length = (wyL ((j : Int), cb)).length from rfl)] at st10
      exact ⟨rfl, (j, bk ++ [cb], a6, c6, p7), by simp, ⟨x, wj, hxj, hwj, by rw [heq, hzx]; simp, fun b hb => by
        rcases List.mem_append.1 hb with hb | hb
        · exact hb8 b hb
        · rw [List.mem_singleton] at hb; subst hb; exact hcb, by simp only [List.length_append, List.length_cons, List.length_nil]; omega, fun h => by simp at h, st10.pick [2, 1] (by decide)⟩, hjk⟩
end Go.Proofs.YthomdogheamfpaaDoor
