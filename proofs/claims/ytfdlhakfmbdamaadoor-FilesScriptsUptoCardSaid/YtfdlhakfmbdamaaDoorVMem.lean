import Derived.Test.YtfdlhakfmbdamaaDoorVOps
import Derived.Laws.Pointers
/- Typed slices of the call's own: reading, writing, appending. -/
set_option linter.unusedVariables false
set_option linter.unusedSimpArgs false
namespace Go.VC

/-- v is a slice over a block of the call's own (from lo on), or nil; it holds xs. -/
def SlO {α : Type} (T : Ty α) (S : Nat → Prop) (H : Heap) (lo : Nat) (e : TypeId) (v : Value) (xs : List α) : Prop :=
  ∃ cs, Sl H lo e T.size v xs.length cs ∧ T.reps S H cs xs

section
variable {α : Type} {T : Ty α} {S S' : Nat → Prop} {H H' : Heap} {lo : Nat} {e : TypeId} {v : Value} {xs : List α}
theorem SlO.nil : SlO T S H lo e (.slice none 0 0) [] := ⟨[], Sl.nil _ _ _ _, rfl⟩
theorem SlO.agr (h : SlO T S H lo e v xs) (k : Agr S' H H') (hb : ∀ b, slB v b → S' b) (hs : ∀ b, S b → S' b) : SlO T S H' lo e v xs := by
  obtain ⟨cs, h1, h2⟩ := h
  exact ⟨cs, h1.agr k hb, Ty.reps_frame (k.mono hs) h2⟩
theorem SlO.mono (h : SlO T S H lo e v xs) (hs : ∀ b, S b → S' b) : SlO T S' H lo e v xs := by
  obtain ⟨cs, h1, h2⟩ := h
  exact ⟨cs, h1, Ty.reps_mono hs h2⟩
theorem SlO.lt (h : SlO T S H lo e v xs) {b : Nat} (hb : slB v b) : lo ≤ b ∧ b < H.size := by
  obtain ⟨cs, h1, _⟩ := h
  exact h1.lt hb
theorem SlO.lower {lo' : Nat} (h : SlO T S H lo e v xs) (hl : lo' ≤ lo) : SlO T S H lo' e v xs := by
  obtain ⟨cs, ⟨h0, h1⟩, h2⟩ := h
  refine ⟨cs, ⟨h0, ?_⟩, h2⟩
  rcases h1 with h1 | ⟨b, cap, l, h3, h4, r⟩
  · exact .inl h1
  · exact .inr ⟨b, cap, l, h3, by omega, r⟩
theorem SlO.one (h : SlO T S H lo e v xs) : v.oneCell' = true := by
  obtain ⟨cs, ⟨h0, h1⟩, h2⟩ := h
  rcases h1 with ⟨rfl, _⟩ | ⟨b, cap, l, rfl, r⟩ <;> rfl
theorem SlO.len (h : SlO T S H lo e v xs) : xs.length ≤ maxLen := by
  obtain ⟨cs, ⟨h0, h1⟩, h2⟩ := h
  rcases h1 with ⟨_, h1⟩ | ⟨b, cap, l, h3, h4, h5, h6, h7, r⟩
  · omega
  · omega
/-- As a slice that is only read. -/
theorem SlO.view (h : SlO T S H lo e v xs) (hb : ∀ b, slB v b → S' b) (hs : ∀ b, S b → S' b) : ∃ a cap, v = .slice a xs.length cap ∧ SlD T S' H a cap xs ∧ (∀ b, slB v b ↔ a.map (·.block) = some b) := by
  obtain ⟨cs, ⟨h0, h1⟩, h2⟩ := h
  rcases h1 with ⟨rfl, h1⟩ | ⟨b, cap, l, rfl, h4, h5, h6, h7, h8, h9⟩
  · refine ⟨none, 0, by rw [h1], ⟨List.eq_nil_of_length_eq_zero h1, rfl⟩, fun b => ⟨?_, fun h => by cases h⟩⟩
    rintro ⟨o, n, c, h⟩; cases h
  · refine ⟨some ⟨b, 0, none⟩, cap, rfl, SlD.intro (hb b ⟨_, _, _, rfl⟩) h6 h7 (ec := cs) ?_ (Ty.reps_mono hs h2), fun b' => ⟨?_, fun h => ?_⟩⟩
    · refine h5.cells fun j u hu => ?_
      rw [← h9, List.getElem?_take] at hu
      split at hu
      · simpa using hu
      · cases hu
    · rintro ⟨o, n, c, h⟩; cases h; rfl
    · cases h; exact ⟨0, _, _, rfl⟩

theorem reps_set {cs c : List Value} {i : Nat} {x : α} (h : T.reps S H cs xs) (hc : T.rep S H c x) (hi : i < xs.length) : T.reps S H (splice cs (i * T.size) c) (xs.set i x) := by
  induction xs generalizing cs i with
  | nil => simp at hi
  | cons y ys ih =>
    obtain ⟨d, r, rfl, h1, h2⟩ := h
    have hl := T.len h1
    have hlc := T.len hc
    cases i with
    | zero =>
      refine ⟨c, r, ?_, hc, h2⟩
      unfold splice
      simp only [Nat.zero_mul, List.take_zero, List.nil_append, Nat.zero_add]
      rw [hlc, ← hl, List.drop_left]
    | succ i =>
      simp only [List.length_cons] at hi
      refine ⟨d, splice r (i * T.size) c, ?_, h1, ih h2 (by omega)⟩
      have e1 : (i + 1) * T.size = d.length + i * T.size := by rw [hl, Nat.succ_mul]; omega
      unfold splice
      rw [e1, List.take_length_add_append, show d.length + i * T.size + c.length = d.length + (i * T.size + c.length) by omega, List.drop_length_add_append]
      simp [List.append_assoc]

/-- The place of an element, to be written. -/
theorem SlO.place {i : Nat} (h : SlO T S H lo e v xs) (hi : i < xs.length) : ∃ b cap l cs, v = .slice (some ⟨b, 0, none⟩) xs.length cap ∧ lo ≤ b ∧ Blk H b e l ∧ i * T.size + T.size ≤ l.length ∧
    (∀ x, xs[i]? = some x → ∃ c, Cells H b (i * T.size) c ∧ T.rep S H c x) ∧ T.reps S H cs xs ∧
    ∀ (H' : Heap) (c : List Value) (x : α), Blk H' b e (splice l (i * T.size) c) → Agr S H H' → T.rep S H' c x → SlO T S H' lo e v (xs.set i x) := by
  obtain ⟨cs, ⟨h0, h1⟩, h2⟩ := h
  rcases h1 with ⟨rfl, h1⟩ | ⟨b, cap, l, rfl, h4, h5, h6, h7, h8, h9⟩
  · omega
  · have hle : i * T.size + T.size ≤ xs.length * T.size := by rw [← Nat.succ_mul]; exact Nat.mul_le_mul_right _ hi
    have hle2 : xs.length * T.size ≤ l.length := by rw [h8]; exact Nat.mul_le_mul_right _ h6
    refine ⟨b, cap, l, cs, rfl, h4, h5, by omega, ?_, h2, ?_⟩
    · intro x hx
      obtain ⟨l', c, r, rfl, hl', hc⟩ := Ty.reps_get h2 hx
      refine ⟨c, ?_, hc⟩
      rw [← hl']
      have hcs : Cells H b 0 (l' ++ c ++ r) := h5.cells fun j u hu => by
        rw [← h9, List.getElem?_take] at hu
        split at hu
        · simpa using hu
        · cases hu
      have := hcs.mid
      simpa using this
    intro H' c x hb' hagr hc
    have hlc := T.len hc
    refine ⟨splice cs (i * T.size) c, ⟨?_, .inr ⟨b, cap, _, by rw [List.length_set], h4, hb', by rw [List.length_set]; exact h6, h7, ?_, ?_⟩⟩, reps_set (Ty.reps_frame hagr h2) hc hi⟩
    · rw [splice_length (by rw [hlc, h0]; exact hle), h0, List.length_set]
    · rw [splice_length (by rw [hlc]; omega), h8]
    · rw [List.length_set]
      apply List.ext_getElem?
      intro j
      rw [List.getElem?_take]
      by_cases hj : j < xs.length * T.size
      · rw [if_pos hj, splice_get (by rw [hlc]; omega), splice_get (by rw [hlc, h0]; exact hle)]
        split
        · rfl
        · rw [← h9, List.getElem?_take, if_pos hj]
      · rw [if_neg hj, List.getElem?_eq_none]
        rw [splice_length (by rw [hlc, h0]; exact hle), h0]; omega
end

/-- append, typed: what is appended lies at (q, o). -/
theorem vappendO {α : Type} {T : Ty α} {P : Program} {t ty e by_ : Nat} {z : Value} {S : Nat → Prop} {H : Heap} {K : Value → Heap → Prop} (ht : SlT P t e T.size by_ z) {lo q o m cap : Nat} {v : Value} {xs ys : List α} {ds : List Value}
    (hs : SlO T S H lo e v xs) (hlo : lo ≤ H.size) (hS : ∀ k, S k → k < H.size ∧ ¬ slB v k) (hd : Cells H q o ds) (hy : T.reps S H ds ys) (hm : m = ys.length) (h1 : ∀ u ∈ ds, u.oneCell' = true)
    (h63 : xs.length + ys.length ≤ maxLen) (hby : (xs.length + ys.length) * by_ ≤ 140737488355328)
    (h : ∀ v' H', SlO T S H' lo e v' (xs ++ ys) → Agr (fun k => k < H.size ∧ ¬ slB v k) H H' → H.size ≤ H'.size → (∀ k, slB v' k → slB v k ∨ H.size ≤ k) → K v' H') :
    VEff P (Builtin.append_ #[t, t] ty [v, .slice (some ⟨q, o, none⟩) m cap].toArray) H K := by
  obtain ⟨cs, hsl, hr⟩ := hs
  subst hm
  refine vappend (m := ys.length) (news := ds) ht hsl hlo (fun w hw => ?_) h63 hby ?_
  · refine Src.ofSlice w ht.under ⟨q, o, none⟩ ys.length cap ds (Ty.reps_len hy) (fun j u hu => ?_) h1
    rw [Addr.add_mid]
    subst hw
    have := hd j u hu
    rw [cell_w]; exact this
  · intro v' H' hsl' hagr hsz hbb
    refine h v' H' ⟨_, by rw [List.length_append]; exact hsl', Ty.reps_append (Ty.reps_frame (hagr.mono hS) hr) (Ty.reps_frame (hagr.mono hS) hy)⟩ hagr hsz hbb

theorem ixrn {α : Type} {T : Ty α} {P : Program} {t e by_ : Nat} {z : Value} {n cap i : Nat} {k : IntKind} {j : Int} {S S0 : Nat → Prop} {H : Heap} {K : Value → Prop} {a : Option Addr} {xs : List α} {x : α}
    (ht : SlT P t e T.size by_ z) (h : SlD T S H a cap xs) (hn : n = xs.length) (hx : xs[i]? = some x) (hj : j = (i : Int))
    (hk : ∀ b o c, S b → Cells H b o c → T.rep S H c x → K (.pointer (some ⟨b, o, none⟩))) : VDet P (Instr.indexAt t (.slice a n cap) (.int k j)) S0 H K := by
  subst hn; exact ixr ht h hx hj hk

theorem reps_of_ones {α : Type} {T : Ty α} {S : Nat → Prop} {H : Heap} : ∀ {vs : List Value} {xs : List α}, vs.length = xs.length → (∀ (i : Nat) (v : Value) (x : α), vs[i]? = some v → xs[i]? = some x → T.rep S H [v] x) → T.reps S H vs xs
  | [], [], _, _ => rfl
  | v :: vs, [], h, _ => by simp at h
  | [], x :: xs, h, _ => by simp at h
  | v :: vs, x :: xs, h, k => ⟨[v], vs, rfl, k 0 v x rfl rfl, reps_of_ones (by simpa using h) fun i v' x' h1 h2 => k (i + 1) v' x' (by simpa using h1) (by simpa using h2)⟩
theorem foldl_splice : ∀ (vs : List Value) (k : Nat) (cells : Array Value) (off : Nat), off + k + vs.length ≤ cells.size →
    (vs.zipIdx k).foldl (fun cs (x : Value × Nat) => cs.setIfInBounds (off + x.2) x.1) cells = (splice cells.toList (off + k) vs).toArray
  | [], k, cells, off, _ => by apply Array.ext'; simp [splice]
  | v :: vs, k, cells, off, h => by
    simp only [List.length_cons] at h
    rw [List.zipIdx_cons, List.foldl_cons, foldl_splice vs (k + 1) _ off (by simp; omega)]
    apply congrArg
    apply List.ext_getElem?
    intro j
    rw [splice_get (by simp; omega), splice_get (by simp; omega)]
    simp only [Array.toList_setIfInBounds, List.length_cons]
    by_cases h1 : off + (k + 1) ≤ j ∧ j < off + (k + 1) + vs.length
    · rw [if_pos h1, if_pos (by omega), show j - (off + k) = (j - (off + (k + 1))) + 1 by omega, List.getElem?_cons_succ]
    · rw [if_neg h1]
      by_cases h2 : j = off + k
      · subst h2
        rw [if_pos (by omega), Nat.sub_self, List.getElem?_cons_zero, List.getElem?_set_self (by simp; omega)]
      · rw [if_neg (by omega), List.getElem?_set, if_neg (fun h3 => h2 h3.symm)]
theorem fill_cons {place : Nat → Option (Nat × Nat)} {cells : Array Value} {i : Nat} {v : Value} {rest : List (Nat × Value)} {off size : Nat} (hp : place i = some (off, size)) (h1 : v.cells.size = size) (h2 : off + size ≤ cells.size) :
    Instr.fill place cells ((i, v) :: rest) = Instr.fill place (splice cells.toList off v.cells.toList).toArray rest := by
  have h3 : ¬ (v.cells.size ≠ size ∨ off + v.cells.size > cells.size) := by omega
  have h4 := foldl_splice v.cells.toList 0 cells off (by simp; omega)
  simp only [Nat.add_zero] at h4
  rw [Instr.fill, hp]
  simp only [Bool.or_eq_true, decide_eq_true_eq, h3, if_false]
  congr 1
  rw [← h4, ← Array.foldl_toList, Array.toList_zipIdx]
/-- A slice of one element. -/
theorem vbuild1 {P : Program} {t e : TypeId} {sz by_ : Nat} {z v : Value} {H : Heap} {K : Value → Heap → Prop} (ht : SlT P t e sz by_ z) (l : List Value) (hv : v.cells = l.toArray) (hl : l.length = sz) (h0 : 0 < sz) (h1 : sz ≤ 16777216)
    (h : New H (fun b H' => K (.slice (some ⟨b, 0, none⟩) 1 1) H') e l) : VEff P (Instr.buildSlice t 1 [(0, v)].toArray) H K := by
  refine vbuild ht l (by omega) (by omega) ?_ h
  rw [show ([(0, v)].toArray).toList = (0, v) :: [] from rfl, fill_cons (off := 0) (size := sz) (by simp) (by rw [hv]; simpa using hl) (by simp)]
  rw [Instr.fill, hv]
  congr 1
  apply Array.ext'
  simp only [splice]
  simp [hl]

end Go.VC

/- Tables of slices of the call's own; cutting slices. -/
set_option linter.unusedVariables false
set_option linter.unusedSimpArgs false
namespace Go.VC

/-- Block nb holds slices of the call's own, over blocks apart from one another. -/
structure Tab {α : Type} (T : Ty α) (S : Nat → Prop) (H : Heap) (lo : Nat) (e : TypeId) (nb : Nat) (te : TypeId) (vs : List Value) (xs : List (List α)) : Prop where
  len : vs.length = xs.length
  blk : Blk H nb te vs
  nlo : nb < lo
  own : ∀ (i : Nat) (v : Value) (x : List α), vs[i]? = some v → xs[i]? = some x → SlO T S H lo e v x
  apart : ∀ (i j : Nat) (v w : Value) (k : Nat), i ≠ j → vs[i]? = some v → vs[j]? = some w → slB v k → ¬ slB w k

section
variable {α : Type} {T : Ty α} {S S' : Nat → Prop} {H H1 H2 : Heap} {lo nb : Nat} {e te : TypeId} {vs : List Value} {xs : List (List α)}
theorem Tab.agr (h : Tab T S H lo e nb te vs xs) (k : Agr S' H H1) (hn : S' nb) (hlo : ∀ b, lo ≤ b → b < H.size → S' b) (hs : ∀ b, S b → S' b) : Tab T S H1 lo e nb te vs xs :=
  ⟨h.len, h.blk.agr k hn, h.nlo, fun i v x hv hx => (h.own i v x hv hx).agr k (fun b hb => hlo b ((h.own i v x hv hx).lt hb).1 ((h.own i v x hv hx).lt hb).2) hs, h.apart⟩
theorem Tab.new {n : Nat} (hb : Blk H nb te (List.replicate n (.slice none 0 0))) (hlo : nb < lo) : Tab T S H lo e nb te (List.replicate n (.slice none 0 0)) (List.replicate n []) := by
  refine ⟨by simp, hb, hlo, fun i v x hv hx => ?_, fun i j v w k hij hv hw hk => ?_⟩
  · rw [List.getElem?_replicate] at hv hx
    split at hv
    · rename_i hi
      rw [if_pos hi] at hx
      cases hv; cases hx
      exact SlO.nil
    · cases hv
  · rw [List.getElem?_replicate] at hv
    split at hv
    · cases hv; obtain ⟨o, n, c, h⟩ := hk; cases h
    · cases hv
theorem Tab.get (h : Tab T S H lo e nb te vs xs) {i : Nat} (hi : i < xs.length) : ∃ v x, vs[i]? = some v ∧ xs[i]? = some x ∧ SlO T S H lo e v x := by
  have h1 : i < vs.length := by rw [h.len]; exact hi
  exact ⟨vs[i], xs[i], List.getElem?_eq_getElem h1, List.getElem?_eq_getElem hi, h.own i _ _ (List.getElem?_eq_getElem h1) (List.getElem?_eq_getElem hi)⟩
/-- One of the slices has been appended to, and stored. -/
theorem Tab.push (h : Tab T S H lo e nb te vs xs) {t : Nat} {v v' : Value} {x' : List α} (hv : vs[t]? = some v) (hown : SlO T S H1 lo e v' x') (ha : Agr (fun k => k < H.size ∧ ¬ slB v k) H H1)
    (hfresh : ∀ k, slB v' k → slB v k ∨ H.size ≤ k) (hb : Blk H2 nb te (vs.set t v')) (ha2 : Agr (fun k => k ≠ nb) H1 H2) (hS : ∀ k, S k → k < H.size ∧ ¬ slB v k ∧ k ≠ nb) :
    Tab T S H2 lo e nb te (vs.set t v') (xs.set t x') := by
  have ht : t < vs.length := (List.getElem?_eq_some_iff.1 hv).1
  refine ⟨by simp [h.len], hb, h.nlo, fun i w x hw hx => ?_, fun i j u w k hij hu hw hk hk' => ?_⟩
  · by_cases hit : i = t
    · subst hit
      rw [List.getElem?_set_self ht] at hw
      rw [List.getElem?_set_self (by rw [← h.len]; exact ht)] at hx
      cases hw; cases hx
      exact hown.agr ha2 (fun b hb => by have := (hown.lt hb).1; have := h.nlo; omega) (fun b hb => (hS b hb).2.2)
    · rw [List.getElem?_set_ne (Ne.symm hit)] at hw hx
      have h1 := h.own i w x hw hx
      have h2 : SlO T S H1 lo e w x := h1.agr ha (fun b hb => ⟨(h1.lt hb).2, fun hb' => h.apart i t w v b hit hw hv hb hb'⟩) (fun b hb => ⟨(hS b hb).1, (hS b hb).2.1⟩)
      exact h2.agr ha2 (fun b hb => by have := (h1.lt hb).1; have := h.nlo; omega) (fun b hb => (hS b hb).2.2)
  · have old : ∀ (i : Nat) (w : Value), i ≠ t → (vs.set t v')[i]? = some w → slB w k → ¬ slB v' k := by
      intro i w hi hw hk hk'
      rw [List.getElem?_set_ne (Ne.symm hi)] at hw
      rcases hfresh k hk' with h1 | h1
      · exact h.apart i t w v k hi hw hv hk h1
      · have hix : i < xs.length := by rw [← h.len]; exact (List.getElem?_eq_some_iff.1 hw).1
        have := ((h.own i w _ hw (List.getElem?_eq_getElem hix)).lt hk).2
        omega
    by_cases hit : i = t
    · subst hit
      rw [List.getElem?_set_self ht] at hu
      cases hu
      exact old j w (Ne.symm hij) hw hk' hk
    · by_cases hjt : j = t
      · subst hjt
        rw [List.getElem?_set_self ht] at hw
        cases hw
        exact old i u hit hu hk hk'
      · rw [List.getElem?_set_ne (Ne.symm hit)] at hu
        rw [List.getElem?_set_ne (Ne.symm hjt)] at hw
        exact h.apart i j u w k hij hu hw hk hk'
end

/-- The table as a slice of slices that are only read. -/
theorem Tab.view {α : Type} {T : Ty α} {S S' : Nat → Prop} {H : Heap} {lo nb n : Nat} {e te : TypeId} {vs : List Value} {xs : List (List α)} (h : Tab T S H lo e nb te vs xs) (hn : n = xs.length) (hm : n ≤ maxLen)
    (hS : ∀ k, nb ≤ k → k < H.size → S' k) (hs : ∀ k, S k → S' k) : SlD (tSl T) S' H (some ⟨nb, 0, none⟩) n xs := by
  subst hn
  refine SlD.intro (hS nb (Nat.le_refl _) h.blk.lt) (Nat.le_refl _) hm (h.blk.cells (cs := vs) (fun j v hv => by simpa using hv)) ?_
  refine reps_of_ones h.len fun i v x hv hx => ?_
  have hd := h.own i v x hv hx
  obtain ⟨a0, cap0, rfl, hv0, -⟩ := hd.view (S' := S') (fun k hk => hS k (by have := (hd.lt hk).1; have := h.nlo; omega) (hd.lt hk).2) hs
  exact ⟨a0, cap0, rfl, hv0⟩

/-! ### cutting -/
theorem vcutH {P : Program} {t e sz by_ : Nat} {z : Value} {a : Option Addr} {n cap : Nat} {k : IntKind} {h : Int} {S : Nat → Prop} {H : Heap} {K : Value → Prop} (ht : SlT P t e sz by_ z) (h0 : 0 ≤ h) (h1 : h ≤ cap)
    (hk : K (.slice a h.toNat cap)) : VDet P (Instr.sliceAt t (.slice a n cap) none (some (.int k h)) none) S H K := by
  obtain ⟨inf, hi, hs, _, _⟩ := ht.info
  refine VDet.mk _ (fun w _ => ?_) hk
  have e1 : (a.map fun x => x.add 0) = a := by cases a <;> rfl
  simp [Instr.sliceAt, Instr.slice, run_underlying ht.under, Instr.sliceBounds, Instr.sliceBound, asIntOf, h0, h1, sizeOf, typeInfo, hi, e1]
theorem SlO.pop {α : Type} {T : Ty α} {S : Nat → Prop} {H : Heap} {lo n cap : Nat} {e : TypeId} {a : Option Addr} {xs : List α} {x : α} (h : SlO T S H lo e (.slice a n cap) (xs ++ [x])) : SlO T S H lo e (.slice a xs.length cap) xs := by
  obtain ⟨cs, ⟨h0, h1⟩, h2⟩ := h
  have split : ∀ (xs : List α) (cs : List Value), T.reps S H cs (xs ++ [x]) → T.reps S H (cs.take (xs.length * T.size)) xs := by
    intro xs
    induction xs with
    | nil => intro cs _; simp [Ty.reps]
    | cons y ys ih =>
      rintro cs ⟨c, r, rfl, hc, hr⟩
      refine ⟨c, r.take (ys.length * T.size), ?_, hc, ih r hr⟩
      have := T.len hc
      rw [List.length_cons, Nat.succ_mul, Nat.add_comm, ← this, List.take_length_add_append]
  rcases h1 with ⟨h1, h3⟩ | ⟨b, cap', l, h1, h4, h5, h6, h7, h8, h9⟩
  · simp at h3
  · cases h1
    simp only [List.length_append, List.length_singleton] at h6 h9 h0
    refine ⟨cs.take (xs.length * T.size), ⟨?_, .inr ⟨b, cap, l, rfl, h4, h5, by omega, h7, h8, ?_⟩⟩, split xs cs h2⟩
    · rw [List.length_take, h0, Nat.min_eq_left (Nat.mul_le_mul_right _ (by omega))]
    · rw [← h9, List.take_take, Nat.min_eq_left (Nat.mul_le_mul_right _ (by omega))]

end Go.VC

/- Appending one slice's elements to another. -/
set_option linter.unusedVariables false
set_option linter.unusedSimpArgs false
namespace Go.VC
def Ty.Ones {α : Type} (T : Ty α) : Prop := ∀ S H cs x, T.rep S H cs x → ∀ u ∈ cs, u.oneCell' = true
theorem Ty.Ones.reps {α : Type} {T : Ty α} (h : T.Ones) {S : Nat → Prop} {H : Heap} : ∀ {cs : List Value} {xs : List α}, T.reps S H cs xs → ∀ u ∈ cs, u.oneCell' = true := by
  intro cs xs
  induction xs generalizing cs with
  | nil => intro hr u hu; simp only [Ty.reps] at hr; subst hr; cases hu
  | cons x xs ih =>
    rintro ⟨c, r, rfl, hc, hr⟩ u hu
    rcases List.mem_append.1 hu with hu | hu
    · exact h S H c x hc u hu
    · exact ih hr u hu
theorem tInt_ones : ∀ (k : IntKind), (tInt k).Ones := by
  rintro k S H cs x ⟨rfl, _⟩ u hu
  cases List.mem_singleton.1 hu; rfl
theorem tBool_ones : tBool.Ones := by
  rintro S H cs x rfl u hu
  cases List.mem_singleton.1 hu; rfl
theorem tSl_ones {α : Type} (T : Ty α) : (tSl T).Ones := by
  rintro S H cs x ⟨a, cap, rfl, _⟩ u hu
  cases List.mem_singleton.1 hu; rfl
theorem vappendD {α : Type} {T : Ty α} {P : Program} {t ty e by_ : Nat} {z : Value} {S : Nat → Prop} {H : Heap} {K : Value → Heap → Prop} (ht : SlT P t e T.size by_ z) (hone : T.Ones) {lo cap : Nat} {v : Value} {a : Option Addr} {xs ys : List α}
    (hs : SlO T S H lo e v xs) (hlo : lo ≤ H.size) (hS : ∀ k, S k → k < H.size ∧ ¬ slB v k) (hy : SlD T S H a cap ys)
    (h63 : xs.length + ys.length ≤ maxLen) (hby : (xs.length + ys.length) * by_ ≤ 140737488355328)
    (h : ∀ v' H', SlO T S H' lo e v' (xs ++ ys) → Agr (fun k => k < H.size ∧ ¬ slB v k) H H' → H.size ≤ H'.size → (∀ k, slB v' k → slB v k ∨ H.size ≤ k) → K v' H') :
    VEff P (Builtin.append_ #[t, t] ty [v, .slice a ys.length cap].toArray) H K := by
  cases a with
  | some ad =>
    obtain ⟨q, o, sp⟩ := ad
    obtain ⟨h3, h4, h0 | ⟨rfl, h2, ec, h5, h6⟩⟩ := hy
    · obtain rfl : ys = [] := List.eq_nil_of_length_eq_zero (by omega)
      obtain ⟨cs, hsl, hr⟩ := hs
      refine vappend (m := 0) (news := []) ht hsl hlo (fun w hw => Src.ofSlice w ht.under _ 0 cap [] (by simp) (fun j u hu => by simp at hu) (fun u hu => by cases hu)) (by simpa using h63) (by simpa using hby) ?_
      intro v' H' hsl' hagr hsz hbb
      refine h v' H' ⟨cs, by simpa using hsl', ?_⟩ hagr hsz hbb
      rw [List.append_nil]
      exact Ty.reps_frame (hagr.mono hS) hr
    exact vappendO ht hs hlo hS h5 h6 rfl (hone.reps h6) h63 hby h
  | none =>
    obtain ⟨rfl, rfl⟩ := hy
    obtain ⟨cs, hsl, hr⟩ := hs
    refine vappend (m := 0) (news := []) ht hsl hlo (fun w hw => Src.ofNil w ht.under 0) (by simpa using h63) (by simpa using hby) ?_
    intro v' H' hsl' hagr hsz hbb
    refine h v' H' ⟨cs, by simpa using hsl', ?_⟩ hagr hsz hbb
    rw [List.append_nil]
    exact Ty.reps_frame (hagr.mono hS) hr

/-- What holds no address lies wherever. -/
def Ty.Free {α : Type} (T : Ty α) : Prop := ∀ S S' H H' cs x, T.rep S H cs x → T.rep S' H' cs x
theorem tInt_free (k : IntKind) : (tInt k).Free := fun S S' H H' cs x h => h
theorem tBool_free : tBool.Free := fun S S' H H' cs x h => h
theorem Ty.Free.reps {α : Type} {T : Ty α} (h : T.Free) {S S' : Nat → Prop} {H H' : Heap} : ∀ {cs : List Value} {xs : List α}, T.reps S H cs xs → T.reps S' H' cs xs := by
  intro cs xs
  induction xs generalizing cs with
  | nil => exact fun hr => hr
  | cons x xs ih =>
    rintro ⟨c, r, e, hc, hr⟩
    exact ⟨c, r, e, h S S' H H' c x hc, ih hr⟩
theorem SlO.free {α : Type} {T : Ty α} (hf : T.Free) {S S' : Nat → Prop} {H : Heap} {lo : Nat} {e : TypeId} {v : Value} {xs : List α} (h : SlO T S H lo e v xs) : SlO T S' H lo e v xs := by
  obtain ⟨cs, h1, h2⟩ := h
  exact ⟨cs, h1, hf.reps h2⟩

end Go.VC

/- Comparing with nil, bools; texts' bytes. -/
set_option linter.unusedVariables false
set_option linter.unusedSimpArgs false
namespace Go.VC
section
variable {P : Program} {t e : TypeId} {x y : Operand} {S : Nat → Prop} {H : Heap} {K : Value → Prop} {p : Option Addr}
theorem run_ptr_nil (h : P.underlying t = some (.pointer e)) (p : Option Addr) (w : World) : (Op.equal t (.pointer p) (.pointer none)).run P w = .ok p.isNone w := by
  have : ∀ d : Nat, (Op.equalIn (d + 1) t (.pointer p) (.pointer none)).run P w = .ok p.isNone w := fun d => by
    cases p <;> simp [Op.equalIn, run_underlying h]
  exact this 9999
theorem peq (h : P.underlying t = some (.pointer e)) (k : K (.bool p.isNone)) : VDet P (do eqGuard .eql t x y (.pointer p) (.pointer none); binOp .eql t (.pointer p) (.pointer none)) S H K := by
  refine VDet.mk _ (fun w _ => ?_) k
  simp [eqGuard, binOp, run_ptr_nil h]
theorem pneq (h : P.underlying t = some (.pointer e)) (k : K (.bool (!p.isNone))) : VDet P (do eqGuard .neq t x y (.pointer p) (.pointer none); binOp .neq t (.pointer p) (.pointer none)) S H K := by
  refine VDet.mk _ (fun w _ => ?_) k
  simp [eqGuard, binOp, run_ptr_nil h]
theorem peqN (h : P.underlying t = some (.pointer e)) (k : K (.bool true)) : VDet P (do eqGuard .eql t x y (.pointer none) (.pointer none); binOp .eql t (.pointer none) (.pointer none)) S H K := peq h k
theorem peqS {a : Addr} (h : P.underlying t = some (.pointer e)) (k : K (.bool false)) : VDet P (do eqGuard .eql t x y (.pointer (some a)) (.pointer none); binOp .eql t (.pointer (some a)) (.pointer none)) S H K := peq h k
theorem pneqN (h : P.underlying t = some (.pointer e)) (k : K (.bool false)) : VDet P (do eqGuard .neq t x y (.pointer none) (.pointer none); binOp .neq t (.pointer none) (.pointer none)) S H K := pneq h k
theorem pneqS {a : Addr} (h : P.underlying t = some (.pointer e)) (k : K (.bool true)) : VDet P (do eqGuard .neq t x y (.pointer (some a)) (.pointer none); binOp .neq t (.pointer (some a)) (.pointer none)) S H K := pneq h k
theorem run_bool_eq (h : P.underlying t = some .bool) (a b : Bool) (w : World) : (Op.equal t (.bool a) (.bool b)).run P w = .ok (a == b) w := by
  have : ∀ d : Nat, (Op.equalIn (d + 1) t (.bool a) (.bool b)).run P w = .ok (a == b) w := fun d => by simp [Op.equalIn, run_underlying h]
  exact this 9999
theorem beq_b {a b : Bool} (h : P.underlying t = some .bool) (k : K (.bool (a == b))) : VDet P (do eqGuard .eql t x y (.bool a) (.bool b); binOp .eql t (.bool a) (.bool b)) S H K := by
  refine VDet.mk _ (fun w _ => ?_) k
  simp [eqGuard, binOp, run_bool_eq h]
theorem bneq_b {a b : Bool} (h : P.underlying t = some .bool) (k : K (.bool (!(a == b)))) : VDet P (do eqGuard .neq t x y (.bool a) (.bool b); binOp .neq t (.bool a) (.bool b)) S H K := by
  refine VDet.mk _ (fun w _ => ?_) k
  simp [eqGuard, binOp, run_bool_eq h]
end

/-- A text's byte. -/
theorem vidxs {P : Program} {t : TypeId} {S : Nat → Prop} {H : Heap} {K : Value → Prop} {s : ByteArray} {k : IntKind} {i : Nat} {j : Int} {b : UInt8} (h : P.underlying t = some .string) (hj : j = (i : Int)) (hb : s.data[i]? = some b)
    (hk : K (.int .u8 (b.toNat : Int))) : VDet P (Instr.index t (.string s) (.int k j)) S H K := by
  subst hj
  have hb' : s[i]? = some b := by
    obtain ⟨h1, h2⟩ := Array.getElem?_eq_some_iff.1 hb
    have h3 : i < s.size := h1
    rw [getElem?_pos s i h3]
    exact congrArg some h2
  refine VDet.mk _ (fun w _ => ?_) hk
  simp [Instr.index, asIntOf, run_underlying h, hb']

end Go.VC

/- Small helps: empty slices, rows that are made, texts put together and cut. -/
set_option linter.unusedVariables false
set_option linter.unusedSimpArgs false
namespace Go.VC
section
variable {P : Program} {t e : TypeId} {x y : Operand} {S : Nat → Prop} {H : Heap}
theorem vbuild0 {sz by_ : Nat} {z : Value} {K : Value → Heap → Prop} (ht : SlT P t e sz by_ z) (h : New H (fun b H' => K (.slice (some ⟨b, 0, none⟩) 0 0) H') e []) : VEff P (Instr.buildSlice t 0 ([] : List (Nat × Value)).toArray) H K := by
  refine VEff.mk fun w hw => ?_
  subst hw
  refine ⟨_, w.alloc (.cells [].toArray e), ?_, ⟨rfl, rfl, rfl⟩, h.go⟩
  obtain ⟨inf, hi, hs, _, hz⟩ := ht.info
  simp only [Instr.buildSlice, Sem.run_bind, run_underlying ht.under, Result.andThen_ok, sizeOf, typeInfo, zeroValue]
  have h0 : ((Array.range 0).map fun _ : Nat => (default : Value)) = #[] := by simp
  simp [hi, hs, hz, newRow, Instr.fill, h0]
theorem SlO.empty {α : Type} {T : Ty α} {lo b : Nat} (hlo : lo ≤ b) (hb : Blk H b e []) : SlO T S H lo e (.slice (some ⟨b, 0, none⟩) 0 0) [] :=
  ⟨[], by have := Sl.made (sz := T.size) (n := 0) (cap := 0) hlo hb (Nat.le_refl _) (by decide) (by simp); simpa using this, rfl⟩
theorem SlO.ofBlk {α : Type} {T : Ty α} {lo b n : Nat} {l : List Value} {xs : List α} (hlo : lo ≤ b) (hb : Blk H b e l) (hr : T.reps S H l xs) (hn : n = xs.length) (hm : n ≤ maxLen) : SlO T S H lo e (.slice (some ⟨b, 0, none⟩) n n) xs := by
  subst hn
  have hl := Ty.reps_len hr
  refine ⟨l, ?_, hr⟩
  have := Sl.made (sz := T.size) (n := xs.length) (cap := xs.length) hlo hb (Nat.le_refl _) hm hl
  rwa [← hl, List.take_length] at this
theorem reps_replicate {α : Type} {T : Ty α} {c : List Value} {v : α} (h : T.rep S H c v) : ∀ n, T.reps S H (List.replicate n c).flatten (List.replicate n v)
  | 0 => rfl
  | n + 1 => ⟨c, _, rfl, h, reps_replicate h n⟩
theorem made_flat (z : Array Value) (n : Nat) : (List.range (n * z.size)).map (z[· % z.size]!) = (List.replicate n z.toList).flatten := by
  induction n with
  | zero => simp
  | succ n ih =>
    rw [Nat.succ_mul, List.range_add, List.map_append, ih, List.replicate_succ', List.flatten_append]
    congr 1
    simp only [List.flatten_cons, List.flatten_nil, List.append_nil, List.map_map]
    apply List.ext_getElem?
    intro i
    by_cases hi : i < z.size
    · rw [List.getElem?_map, List.getElem?_range hi]
      simp only [Option.map_some, Function.comp, Array.getElem?_toList]
      have : (n * z.size + i) % z.size = i := by rw [Nat.mul_comm, Nat.mul_add_mod]; exact Nat.mod_eq_of_lt hi
      rw [this, getElem!_pos z i hi, getElem?_pos z i hi]
    · rw [List.getElem?_eq_none (by simp; omega), List.getElem?_eq_none (by simp; omega)]
theorem vmakeT {α : Type} {T : Ty α} {by_ : Nat} {z : Value} {kl kc : IntKind} {l c : Int} {v : α} {K : Value → Heap → Prop} (ht : SlT P t e T.size by_ z) (hv : T.rep S H z.cells.toList v) (h0 : 0 ≤ l) (hlc : l = c) (hb : (by_ : Int) * c ≤ 281474976710656) (h63 : c ≤ 9223372036854775807)
    (h : New H (fun b H' => K (.slice (some ⟨b, 0, none⟩) c.toNat c.toNat) H') e (List.replicate c.toNat z.cells.toList).flatten) : VEff P (Instr.makeSlice t (.int kl l) (.int kc c)) H K := by
  subst hlc
  refine vmake ht h0 (Int.le_refl _) hb h63 ?_
  rw [← ht.zsz, made_flat]
  exact h
/-- What is made, as a slice of the call's own. -/
theorem SlO.made {α : Type} {T : Ty α} {lo b n : Nat} {c : List Value} {v : α} (hlo : lo ≤ b) (hb : Blk H b e (List.replicate n c).flatten) (hv : T.rep S H c v) (hm : n ≤ maxLen) : SlO T S H lo e (.slice (some ⟨b, 0, none⟩) n n) (List.replicate n v) :=
  SlO.ofBlk hlo hb (reps_replicate hv n) (by simp) hm

/-- The place of an element, to be written, where the slice is known. -/
theorem SlO.placeS {α : Type} {T : Ty α} {lo b o n cap i : Nat} {xs : List α} (h : SlO T S H lo e (.slice (some ⟨b, o, none⟩) n cap) xs) (hi : i < xs.length) : n = xs.length ∧ o = 0 ∧ lo ≤ b ∧ ∃ l, Blk H b e l ∧ i * T.size + T.size ≤ l.length ∧
    (∀ x, xs[i]? = some x → ∃ c, Cells H b (i * T.size) c ∧ T.rep S H c x) ∧
    ∀ (H' : Heap) (c : List Value) (x : α), Blk H' b e (splice l (i * T.size) c) → Agr S H H' → T.rep S H' c x → SlO T S H' lo e (.slice (some ⟨b, o, none⟩) n cap) (xs.set i x) := by
  obtain ⟨b', cap', l, cs, e1, h1, h2, h3, h4, h5, h6⟩ := h.place hi
  have e2 := e1
  injection e1 with e3 e4 e5
  injection e3 with e3
  injection e3 with e6 e7 e8
  subst e6; subst e7; subst e4; subst e5
  exact ⟨rfl, rfl, h1, l, h2, h3, h4, h6⟩

/-! ### whole division -/
theorem vquo {k : IntKind} {a b : Nat} {K : Value → Prop} (hb : 0 < b) (ha : inK k (a : Int)) (hk : K (.int k ((a / b : Nat) : Int))) : VDet P (do eqGuard .quo t x y (.int k a) (.int k b); binOp .quo t (.int k a) (.int k b)) S H K := by
  refine VDet.mk _ (fun w _ => ?_) hk
  have h0 : ¬ ((b : Int) = 0) := by omega
  have e1 : ((a : Int).tdiv (b : Int)) = ((a / b : Nat) : Int) := by rw [Int.tdiv_eq_ediv_of_nonneg (by omega)]; rfl
  have hin := wrap_in (inK_le ha (Nat.div_le_self a b))
  simp only [run_eqGuard_int, binOp, Op.intDiv, Sem.run_bind, Result.andThen_ok, h0, if_false, e1, hin, Sem.run_pure, ne_eq, not_true_eq_false]
theorem vrem {k : IntKind} {a b : Nat} {K : Value → Prop} (hb : 0 < b) (hk : K (.int k ((a % b : Nat) : Int))) : VDet P (do eqGuard .rem t x y (.int k a) (.int k b); binOp .rem t (.int k a) (.int k b)) S H K := by
  refine VDet.mk _ (fun w _ => ?_) hk
  have h0 : ¬ ((b : Int) = 0) := by omega
  have e1 : ((a : Int).tmod (b : Int)) = ((a % b : Nat) : Int) := by rw [Int.tmod_eq_emod_of_nonneg (by omega)]; rfl
  simp only [run_eqGuard_int, binOp, Op.intDiv, Sem.run_bind, Result.andThen_ok, h0, if_false, e1, Sem.run_pure, ne_eq, not_true_eq_false]

/-! ### a cut behind a region whose order is open -/
theorem VDraw.cut {l : List Oper} {fr : Fr} {K : Fr → Heap → Prop} {α : Type} (ts : List Nat) (enc : α → List Value) (I : α → Heap → Prop)
    (h : VDraw P l fr H (fun fr' H' => keptK (wsOps l []) fr fr' (rdsK fr' ts fun vs => ∃ y, vs = enc y ∧ I y H')))
    (k : ∀ (z : α) (H1 : Heap) (junk : Nat → Value), I z H1 → havocK junk fr (wsOps l []) fun fr0 => wrsK fr0 ts (enc z) fun fr1 => K fr1 H1) : VDraw P l fr H K := by
  generalize wsOps l [] = ws at h k
  have h := h.out_
  refine ⟨?_⟩
  intro id Q a w hat hw hp hq
  refine h id Q a w hat hw hp fun fr' a' w' hat' henv h3 => hq fr' a' w' hat' henv ?_
  simp only [keptK, havocK_eq, rdsK_eq] at h3
  obtain ⟨hk, z, hz, hi⟩ := h3
  have h := k z w'.heap (rd fr') hi
  rw [havocK_eq, wrsK_eq, havoc_of_blank hk, ← hz, wrs_self ts fr'] at h
  exact h

/-! ### texts -/
theorem vcat {a b : ByteArray} {K : Value → Prop} (h : a.size + b.size ≤ maxLen) (k : K (.string (a ++ b))) : VDet P (do eqGuard .add t x y (.string a) (.string b); binOp .add t (.string a) (.string b)) S H K := by
  refine VDet.mk _ (fun w _ => ?_) k
  have h1 : ((a.size + b.size : Nat) : Int) ≤ 9223372036854775807 := by
    unfold maxLen at h
    omega
  have h2 : IntKind.i64.max = 9223372036854775807 := rfl
  rw [Int.natCast_add] at h1
  simp [run_eqGuard_string, binOp, Op.stringOp, h2, h1]
theorem vcutS {s : ByteArray} {k k' : IntKind} {l h : Int} {K : Value → Prop} (ht : P.underlying t = some .string) (h0 : 0 ≤ l) (h1 : l ≤ h) (h2 : h ≤ s.size) (hk : K (.string (s.extract l.toNat h.toNat))) :
    VDet P (Instr.sliceAt t (.string s) (some (.int k l)) (some (.int k' h)) none) S H K := by
  refine VDet.mk _ (fun w _ => ?_) hk
  have h3 : 0 ≤ h := by omega
  have h4 : l ≤ max h 0 := by omega
  simp [Instr.sliceAt, Instr.slice, run_underlying ht, Instr.sliceBounds, Instr.sliceBound, asIntOf, h0, h1, h2, h3, h4]
theorem vcutSH {s : ByteArray} {k' : IntKind} {h : Int} {K : Value → Prop} (ht : P.underlying t = some .string) (h3 : 0 ≤ h) (h2 : h ≤ s.size) (hk : K (.string (s.extract 0 h.toNat))) :
    VDet P (Instr.sliceAt t (.string s) none (some (.int k' h)) none) S H K := by
  refine VDet.mk _ (fun w _ => ?_) hk
  simp [Instr.sliceAt, Instr.slice, run_underlying ht, Instr.sliceBounds, Instr.sliceBound, asIntOf, h2, h3]
theorem vcutSL {s : ByteArray} {k : IntKind} {l : Int} {K : Value → Prop} (ht : P.underlying t = some .string) (h0 : 0 ≤ l) (h1 : l ≤ s.size) (hk : K (.string (s.extract l.toNat s.size))) :
    VDet P (Instr.sliceAt t (.string s) (some (.int k l)) none none) S H K := by
  refine VDet.mk _ (fun w _ => ?_) hk
  simp [Instr.sliceAt, Instr.slice, run_underlying ht, Instr.sliceBounds, Instr.sliceBound, asIntOf, h0, h1]
end

/-! ### lists that are filled from the front -/
theorem fill_set {α : Type} {l : List α} {k : Nat} {x z : α} (h : l[k]? = some x) : (l.take k ++ List.replicate (l.length - k) z).set k x = l.take (k + 1) ++ List.replicate (l.length - (k + 1)) z := by
  have hk := (List.getElem?_eq_some_iff.1 h).1
  have hx := (List.getElem?_eq_some_iff.1 h).2
  rw [List.set_append_right _ _ (by simp; omega), List.length_take, Nat.min_eq_left (by omega), Nat.sub_self, show l.length - k = (l.length - (k + 1)) + 1 by omega, List.replicate_succ, List.set_cons_zero, List.take_succ_eq_append_getElem hk, hx, List.append_assoc]
  rfl
theorem fill_get {α : Type} {l : List α} {k : Nat} {z : α} (h : k < l.length) : (l.take k ++ List.replicate (l.length - k) z)[k]? = some z := by
  rw [List.getElem?_append_right (by simp; omega), List.length_take, Nat.min_eq_left (by omega), Nat.sub_self, List.getElem?_replicate, if_pos (by omega)]
theorem fill_len {α : Type} {l : List α} {k : Nat} {z : α} (h : k ≤ l.length) : (l.take k ++ List.replicate (l.length - k) z).length = l.length := by simp; omega
theorem fill_end {α : Type} {l : List α} {z : α} : l.take l.length ++ List.replicate (l.length - l.length) z = l := by simp
theorem fill_beg {α : Type} {l : List α} {z : α} : l.take 0 ++ List.replicate (l.length - 0) z = List.replicate l.length z := by simp

theorem splice_one {l : List Value} {o : Nat} {v : Value} (h : o < l.length) : splice l o [v] = l.set o v := by
  apply List.ext_getElem?
  intro j
  rw [splice_get (by simp; omega), List.getElem?_set]
  simp only [List.length_singleton]
  by_cases hj : o = j
  · subst hj; simp [h]
  · rw [if_neg (by omega), if_neg hj]

theorem vbuild2 {P : Program} {t e : TypeId} {sz by_ : Nat} {z v1 v2 : Value} {H : Heap} {K : Value → Heap → Prop} (ht : SlT P t e sz by_ z) (l1 l2 : List Value) (hv1 : v1.cells = l1.toArray) (hv2 : v2.cells = l2.toArray) (hl1 : l1.length = sz) (hl2 : l2.length = sz) (h0 : 0 < sz) (h1 : 2 * sz ≤ 16777216)
    (h : New H (fun b H' => K (.slice (some ⟨b, 0, none⟩) 2 2) H') e (l1 ++ l2)) : VEff P (Instr.buildSlice t 2 [(0, v1), (1, v2)].toArray) H K := by
  refine vbuild ht (l1 ++ l2) (by omega) (by omega) ?_ h
  rw [show ([(0, v1), (1, v2)].toArray).toList = (0, v1) :: (1, v2) :: [] from rfl, fill_cons (off := 0) (size := sz) (by simp) (by rw [hv1]; simpa using hl1) (by simp; omega),
    fill_cons (off := sz) (size := sz) (by simp) (by rw [hv2]; simpa using hl2) (by simp [splice, hv1]; omega)]
  rw [Instr.fill, hv1, hv2]
  congr 1
  apply Array.ext'
  simp [splice, hl1, hl2]
  omega

theorem splice_mid {p r cs : List Value} {o : Nat} (hp : p.length = o) : splice (p ++ r) o cs = p ++ (cs ++ r.drop cs.length) := by
  subst hp
  unfold splice
  rw [List.take_left, List.drop_length_add_append, List.append_assoc]
theorem fill_all {sz : Nat} : ∀ (ps : List (List Value)) (vs : List Value) (i : Nat) (d w : List Value), vs.map (·.cells) = ps.map (·.toArray) → (∀ l ∈ ps, l.length = sz) → d.length = i * sz → w.length = ps.length * sz →
    Instr.fill (fun i => some (i * sz, sz)) (d ++ w).toArray ((vs.zipIdx i).map fun p => (p.2, p.1)) = some (d ++ ps.flatten).toArray
  | [], [], i, d, w, _, _, _, hw => by
    have : w = [] := List.eq_nil_of_length_eq_zero (by simpa using hw)
    simp [Instr.fill, this]
  | [], v :: vs, i, d, w, h, _, _, _ => by simp at h
  | p :: ps, [], i, d, w, h, _, _, _ => by simp at h
  | p :: ps, v :: vs, i, d, w, h, hl, hd, hw => by
    simp only [List.map_cons, List.cons.injEq] at h
    have hp := hl p List.mem_cons_self
    simp only [List.length_cons, Nat.succ_mul] at hw
    rw [List.zipIdx_cons, List.map_cons, fill_cons (off := i * sz) (size := sz) rfl (by rw [h.1]; simpa using hp) (by simp [hd]; omega), h.1, List.toList_toArray, splice_mid hd]
    have := fill_all ps vs (i + 1) (d ++ p) (w.drop p.length) h.2 (fun l hl' => hl l (List.mem_cons_of_mem _ hl')) (by simp [hd, hp, Nat.succ_mul]) (by simp [hp]; omega)
    rw [List.append_assoc] at this
    rw [List.flatten_cons]
    simpa using this
/-- A slice of several elements. -/
theorem vbuildL {P : Program} {t e : TypeId} {sz by_ n : Nat} {z : Value} {H : Heap} {K : Value → Heap → Prop} (ht : SlT P t e sz by_ z) (vs : List Value) (ps : List (List Value)) (hv : vs.map (·.cells) = ps.map (·.toArray)) (hl : ∀ l ∈ ps, l.length = sz) (hn : n = ps.length) (h0 : 0 < n * sz) (h1 : n * sz ≤ 16777216)
    (h : New H (fun b H' => K (.slice (some ⟨b, 0, none⟩) n n) H') e ps.flatten) : VEff P (Instr.buildSlice t n ((vs.zipIdx).map fun p => (p.2, p.1)).toArray) H K := by
  subst hn
  refine vbuild ht ps.flatten h1 h0 ?_ h
  have := fill_all (sz := sz) ps vs 0 [] ((List.range (ps.length * sz)).map (z.cells[· % z.cells.size]!)) hv hl (by simp) (by simp)
  simp only [List.nil_append] at this
  rw [← this]
  congr 1
  apply Array.ext'
  simp

end Go.VC

/- The memory of a call as a list of pieces apart from one another: making, writing, appending, with all other pieces kept. -/
set_option linter.unusedVariables false
set_option linter.unusedSimpArgs false
namespace Go.VC

/-- A piece of memory: its blocks, and what they hold. -/
structure Pc where
  foot : Nat → Prop
  ok : Heap → Prop
  fr : ∀ {H H' : Heap}, Agr foot H H' → ok H → ok H'
def Dis (p q : Pc) : Prop := ∀ k, p.foot k → ¬ q.foot k
/-- The blocks of B are as they were at H0; beside them there are these pieces, apart from one another. -/
structure StB (B : Nat → Prop) (H0 H : Heap) (ps : List Pc) : Prop where
  old : Agr B H0 H
  lt0 : ∀ k, B k → k < H0.size
  size : H0.size ≤ H.size
  oks : ∀ p ∈ ps, p.ok H
  rng : ∀ p ∈ ps, ∀ k, p.foot k → ¬ B k ∧ k < H.size
  dis : ps.Pairwise Dis
/-- What was there at H0 is as it was. -/
abbrev St (H0 H : Heap) (ps : List Pc) : Prop := StB (Old H0) H0 H ps
section
variable {B : Nat → Prop} {H0 H H' : Heap} {ps : List Pc} {p q : Pc}
theorem St.nil (H : Heap) : St H H [] := ⟨Agr.refl _ _, fun _ h => h, Nat.le_refl _, (fun _ h => by cases h), (fun _ h => by cases h), List.Pairwise.nil⟩
/-- A piece that was there from the beginning. -/
theorem StB.start (hp : p.ok H) (hl : ∀ k, p.foot k → k < H.size) : StB (fun k => k < H.size ∧ ¬ p.foot k) H H [p] :=
  ⟨Agr.refl _ _, fun _ h => h.1, Nat.le_refl _, (fun q hq => by rw [List.mem_singleton] at hq; subst hq; exact hp), (fun q hq k hk => by rw [List.mem_singleton] at hq; subst hq; exact ⟨fun h => h.2 hk, hl k hk⟩), List.pairwise_singleton _ _⟩
theorem StB.up (st : StB B H0 H ps) {k : Nat} (hk : B k) : k < H.size := Nat.lt_of_lt_of_le (st.lt0 k hk) st.size
theorem StB.call (st : StB B H0 H ps) (h : Agr (Old H) H H') : StB B H0 H' ps :=
  ⟨st.old.trans (h.mono fun k hk => st.up hk), st.lt0, Nat.le_trans st.size (old_size h), fun p hp => p.fr (h.mono fun k hk => (st.rng p hp k hk).2) (st.oks p hp),
    fun p hp k hk => ⟨(st.rng p hp k hk).1, old_lt h (st.rng p hp k hk).2⟩, st.dis⟩
theorem StB.at_ (st : StB B H0 H ps) (i : Nat) (hp : ps[i]? = some p) : p.ok H := st.oks p (List.mem_of_getElem? hp)
theorem StB.in_ (st : StB B H0 H ps) (i : Nat) (hp : ps[i]? = some p) {k : Nat} (hk : p.foot k) : ¬ B k ∧ k < H.size := st.rng p (List.mem_of_getElem? hp) k hk
/-- One piece more. -/
theorem StB.add (st : StB B H0 H ps) (h : Agr (Old H) H H') (p : Pc) (hp : p.ok H') (hf : ∀ k, p.foot k → H.size ≤ k ∧ k < H'.size) : StB B H0 H' (ps ++ [p]) := by
  have st' := st.call h
  refine ⟨st'.old, st.lt0, st'.size, fun q hq => ?_, fun q hq k hk => ?_, List.pairwise_append.2 ⟨st.dis, List.pairwise_singleton _ _, fun a ha b hb => ?_⟩⟩
  · rcases List.mem_append.1 hq with hq | hq
    · exact st'.oks q hq
    · rw [List.mem_singleton] at hq; subst hq; exact hp
  · rcases List.mem_append.1 hq with hq | hq
    · exact st'.rng q hq k hk
    · rw [List.mem_singleton] at hq; subst hq
      exact ⟨fun hB => by have := st.up hB; have := hf k hk; omega, (hf k hk).2⟩
  · rw [List.mem_singleton] at hb; subst hb
    intro k hk hk'
    have := (st.rng a ha k hk).2; have := (hf k hk').1; omega
/-- One piece turned, all others kept. -/
theorem StB.upd (st : StB B H0 H ps) (i : Nat) (hp : ps[i]? = some p) (h : Agr (fun k => k < H.size ∧ ¬ p.foot k) H H') (q : Pc) (hq : q.ok H') (hf : ∀ k, q.foot k → p.foot k ∨ H.size ≤ k) (hl : ∀ k, q.foot k → k < H'.size) (hs : H.size ≤ H'.size) : StB B H0 H' (ps.set i q) := by
  have hi := (List.getElem?_eq_some_iff.1 hp).1
  have hpi := List.mem_of_getElem? hp
  have key : ∀ (j : Nat) (r : Pc), ps[j]? = some r → j ≠ i → Dis r p := by
    intro j r hr hj k hk hk'
    have hjl := (List.getElem?_eq_some_iff.1 hr).1
    have e1 := (List.getElem?_eq_some_iff.1 hr).2
    have e2 := (List.getElem?_eq_some_iff.1 hp).2
    rcases Nat.lt_or_gt_of_ne hj with hji | hji
    · exact List.pairwise_iff_getElem.1 st.dis j i hjl hi hji k (by rw [e1]; exact hk) (by rw [e2]; exact hk')
    · exact List.pairwise_iff_getElem.1 st.dis i j hi hjl hji k (by rw [e2]; exact hk') (by rw [e1]; exact hk)
  have mem : ∀ r, r ∈ ps.set i q → r = q ∨ ∃ j, j ≠ i ∧ ps[j]? = some r := by
    intro r hr
    obtain ⟨j, hj⟩ := List.getElem?_of_mem hr
    by_cases hji : i = j
    · subst hji
      rw [List.getElem?_set_self hi] at hj
      cases hj; exact .inl rfl
    · rw [List.getElem?_set_ne hji] at hj
      exact .inr ⟨j, Ne.symm hji, hj⟩
  refine ⟨st.old.trans (h.mono fun k hk => ⟨st.up hk, fun hb => (st.rng p hpi k hb).1 hk⟩), st.lt0, Nat.le_trans st.size hs, fun r hr => ?_, fun r hr k hk => ?_, ?_⟩
  · rcases mem r hr with rfl | ⟨j, hj, hr⟩
    · exact hq
    · exact r.fr (h.mono fun k hk => ⟨(st.rng r (List.mem_of_getElem? hr) k hk).2, fun hb => key j r hr hj k hk hb⟩) (st.oks r (List.mem_of_getElem? hr))
  · rcases mem r hr with rfl | ⟨j, hj, hr⟩
    · refine ⟨?_, hl k hk⟩
      rcases hf k hk with h1 | h1
      · exact (st.rng p hpi k h1).1
      · exact fun hB => by have := st.up hB; omega
    · have := st.rng r (List.mem_of_getElem? hr) k hk
      exact ⟨this.1, by omega⟩
  · have old : ∀ (j : Nat) (r : Pc), ps[j]? = some r → j ≠ i → Dis r q := by
      intro j r hr hj k hk hk'
      rcases hf k hk' with h1 | h1
      · exact key j r hr hj k hk h1
      · have := (st.rng r (List.mem_of_getElem? hr) k hk).2; omega
    rw [List.pairwise_iff_getElem]
    intro a b ha hb hab
    simp only [List.length_set] at ha hb
    rw [List.getElem_set, List.getElem_set]
    by_cases h1 : i = a
    · subst h1
      rw [if_pos rfl, if_neg (by omega)]
      exact fun k hk hk' => old b _ (List.getElem?_eq_getElem hb) (by omega) k hk' hk
    · rw [if_neg h1]
      by_cases h2 : i = b
      · subst h2
        rw [if_pos rfl]
        exact old a _ (List.getElem?_eq_getElem ha) (by omega)
      · rw [if_neg h2]
        exact List.pairwise_iff_getElem.1 st.dis a b ha hb hab
/-- Some of the pieces, in another order. -/
theorem StB.pick (st : StB B H0 H ps) (is : List Nat) (hn : is.Nodup) : StB B H0 H (is.filterMap fun i => ps[i]?) := by
  have hm : ∀ r, r ∈ is.filterMap (fun i => ps[i]?) → r ∈ ps := fun r hr => by
    obtain ⟨i, _, hi⟩ := List.mem_filterMap.1 hr
    exact List.mem_of_getElem? hi
  refine ⟨st.old, st.lt0, st.size, fun r hr => st.oks r (hm r hr), fun r hr => st.rng r (hm r hr), ?_⟩
  rw [List.pairwise_filterMap]
  refine hn.imp ?_
  intro i j hij a ha b hb k hk hk'
  have hil := (List.getElem?_eq_some_iff.1 ha).1
  have hjl := (List.getElem?_eq_some_iff.1 hb).1
  have e1 := (List.getElem?_eq_some_iff.1 ha).2
  have e2 := (List.getElem?_eq_some_iff.1 hb).2
  rcases Nat.lt_or_gt_of_ne hij with h | h
  · exact List.pairwise_iff_getElem.1 st.dis i j hil hjl h k (by rw [e1]; exact hk) (by rw [e2]; exact hk')
  · exact List.pairwise_iff_getElem.1 st.dis j i hjl hil h k (by rw [e2]; exact hk') (by rw [e1]; exact hk)
/-- A piece said otherwise. -/
theorem StB.say (st : StB B H0 H ps) (i : Nat) (hp : ps[i]? = some p) (q : Pc) (hq : q.ok H) (hf : ∀ k, q.foot k → p.foot k) : StB B H0 H (ps.set i q) :=
  st.upd i hp (Agr.refl _ _) q hq (fun k hk => .inl (hf k hk)) (fun k hk => (st.in_ i hp (hf k hk)).2) (Nat.le_refl _)
/-- From another beginning: what stands behind it was made later. -/
theorem St.weak {H00 : Heap} (st : St H0 H ps) (h : Agr (Old H00) H00 H0) : St H00 H ps :=
  ⟨h.trans (st.old.mono fun k hk => old_lt h hk), fun _ hk => hk, Nat.le_trans (old_size h) st.size, st.oks, fun p hp k hk => ⟨fun h' => (st.rng p hp k hk).1 (old_lt h h'), (st.rng p hp k hk).2⟩, st.dis⟩
theorem St.ge (st : St H0 H ps) (i : Nat) (hp : ps[i]? = some p) {k : Nat} (hk : p.foot k) : H0.size ≤ k := by
  have := (st.in_ i hp hk).1
  unfold Old at this
  omega
/-- Two pieces as one. -/
def pJ (p q : Pc) : Pc := ⟨fun k => p.foot k ∨ q.foot k, fun H => p.ok H ∧ q.ok H, fun h hp => ⟨p.fr (h.mono fun _ hk => .inl hk) hp.1, q.fr (h.mono fun _ hk => .inr hk) hp.2⟩⟩
theorem StB.join (st : StB B H0 H ps) (i j : Nat) (hp : ps[i]? = some p) (hq : ps[j]? = some q) (hij : i < j) : StB B H0 H ((ps.eraseIdx j).set i (pJ p q)) := by
  have hil := (List.getElem?_eq_some_iff.1 hp).1
  have hjl := (List.getElem?_eq_some_iff.1 hq).1
  have hmp := List.mem_of_getElem? hp
  have hmq := List.mem_of_getElem? hq
  -- where the pieces of the new list come from
  have from_ : ∀ (a : Nat) (r : Pc), ((ps.eraseIdx j).set i (pJ p q))[a]? = some r → (a = i ∧ r = pJ p q) ∨ (a ≠ i ∧ ∃ b, b ≠ i ∧ b ≠ j ∧ ps[b]? = some r ∧ b = if a < j then a else a + 1) := by
    intro a r hr
    by_cases ha : i = a
    · subst ha
      rw [List.getElem?_set_self (by rw [List.length_eraseIdx]; split <;> omega)] at hr
      cases hr; exact .inl ⟨rfl, rfl⟩
    · rw [List.getElem?_set_ne ha, List.getElem?_eraseIdx] at hr
      refine .inr ⟨Ne.symm ha, if a < j then a else a + 1, ?_, ?_, ?_, rfl⟩
      · split <;> omega
      · split <;> omega
      · split at hr
        · rename_i h; rw [if_pos h]; exact hr
        · rename_i h; rw [if_neg h]; exact hr
  have dis : ∀ (a b : Nat) (r s : Pc), a ≠ b → ps[a]? = some r → ps[b]? = some s → Dis r s := by
    intro a b r s hab hr hs k hk hk'
    have hal := (List.getElem?_eq_some_iff.1 hr).1
    have hbl := (List.getElem?_eq_some_iff.1 hs).1
    have e1 := (List.getElem?_eq_some_iff.1 hr).2
    have e2 := (List.getElem?_eq_some_iff.1 hs).2
    rcases Nat.lt_or_gt_of_ne hab with h | h
    · exact List.pairwise_iff_getElem.1 st.dis a b hal hbl h k (by rw [e1]; exact hk) (by rw [e2]; exact hk')
    · exact List.pairwise_iff_getElem.1 st.dis b a hbl hal h k (by rw [e2]; exact hk') (by rw [e1]; exact hk)
  refine ⟨st.old, st.lt0, st.size, fun r hr => ?_, fun r hr k hk => ?_, ?_⟩
  · obtain ⟨a, ha⟩ := List.getElem?_of_mem hr
    rcases from_ a r ha with ⟨_, rfl⟩ | ⟨_, b, _, _, hb, _⟩
    · exact ⟨st.oks p hmp, st.oks q hmq⟩
    · exact st.oks r (List.mem_of_getElem? hb)
  · obtain ⟨a, ha⟩ := List.getElem?_of_mem hr
    rcases from_ a r ha with ⟨_, rfl⟩ | ⟨_, b, _, _, hb, _⟩
    · rcases hk with hk | hk
      · exact st.rng p hmp k hk
      · exact st.rng q hmq k hk
    · exact st.rng r (List.mem_of_getElem? hb) k hk
  · rw [List.pairwise_iff_getElem]
    intro a b ha hb hab k hk hk'
    have ga := List.getElem?_eq_getElem ha
    have gb := List.getElem?_eq_getElem hb
    rcases from_ a _ ga with ⟨h1, h2⟩ | ⟨h1, a', h3, h4, h5, h6⟩ <;> rcases from_ b _ gb with ⟨h1', h2'⟩ | ⟨h1', b', h3', h4', h5', h6'⟩
    · omega
    · rw [h2] at hk
      rcases hk with hk | hk
      · exact dis i b' p _ (Ne.symm h3') hp h5' k hk hk'
      · exact dis j b' q _ (Ne.symm h4') hq h5' k hk hk'
    · rw [h2'] at hk'
      rcases hk' with hk' | hk'
      · exact dis a' i _ p h3 h5 hp k hk hk'
      · exact dis a' j _ q h4 h5 hq k hk hk'
    · refine dis a' b' _ _ ?_ h5 h5' k hk hk'
      rw [h6, h6']
      split <;> split <;> omega
end

/-! ### blocks -/
/-- A block of values. -/
def pB (e : TypeId) (b : Nat) (l : List Value) : Pc := ⟨fun k => k = b, fun H => Blk H b e l, fun h hp => hp.agr h rfl⟩
section
variable {B : Nat → Prop} {H0 H H' : Heap} {ps : List Pc} {e : TypeId} {b : Nat} {l : List Value}
theorem StB.box (st : StB B H0 H ps) (hb : b = H.size) (hs : H'.size = b + 1) (hk : Blk H' b e l) (ha : Agr (fun k => k < b) H H') : StB B H0 H' (ps ++ [pB e b l]) := by
  subst hb
  exact st.add (ha.mono fun k hk => hk) _ hk fun k hk => by have : k = H.size := hk; omega
/-- A block that nobody asks for. -/
theorem StB.skip (st : StB B H0 H ps) (hb : b = H.size) (ha : Agr (fun k => k < b) H H') : StB B H0 H' ps := by
  subst hb
  exact st.call (ha.mono fun k hk => hk)
theorem StB.blk (st : StB B H0 H ps) (i : Nat) (hp : ps[i]? = some (pB e b l)) : Blk H b e l := st.at_ i hp
theorem st1B {P : Program} {t o : Nat} {v : Value} {K : Heap → Prop} (st : StB B H0 H ps) (i : Nat) (ht : CellT P t) (hp : ps[i]? = some (pB e b l)) (ho : o < l.length) (hv : v.oneCell' = true)
    (k : ∀ H', StB B H0 H' (ps.set i (pB e b (l.set o v))) → K H') : VEffU P (Instr.storeAt t (.pointer (some ⟨b, o, none⟩)) v) H K := by
  refine VC.st1 ht (st.at_ i hp) ho hv ?_
  intro H' hb' ha' hs'
  exact k H' (st.upd i hp (ha'.mono fun k hk hkb => hk.2 hkb) _ hb' (fun k hk => .inl hk) (fun k hk => by rw [hs']; exact (st.in_ i hp hk).2) (by omega))
theorem stNB {P : Program} {t o : Nat} {cs : List Value} {K : Heap → Prop} (st : StB B H0 H ps) (i : Nat) (ht : (P.info? t).map (·.size) = some cs.length) (hp : ps[i]? = some (pB e b l)) (ho : o + cs.length ≤ l.length) (hv : cs.all (·.oneCell') = true)
    (k : ∀ H', StB B H0 H' (ps.set i (pB e b (splice l o cs))) → K H') : VEffU P (Instr.storeAt t (.pointer (some ⟨b, o, none⟩)) (.agg cs.toArray)) H K := by
  refine VC.stN ht (st.at_ i hp) ho hv ?_
  intro H' hb' ha' hs'
  exact k H' (st.upd i hp (ha'.mono fun k hk hkb => hk.2 hkb) _ hb' (fun k hk => .inl hk) (fun k hk => by rw [hs']; exact (st.in_ i hp hk).2) (by omega))
end

/-! ### slices -/
section
variable {α : Type}
/-- A slice of the call's own whose data lie in S. -/
def pN (T : Ty α) (S : Nat → Prop) (e : TypeId) (a : Option Addr) (n cap : Nat) (xs : List α) : Pc where
  foot k := slB (.slice a n cap) k ∨ S k
  ok H := SlO T S H 0 e (.slice a n cap) xs ∧ ∀ k, S k → ¬ slB (.slice a n cap) k
  fr h hp := ⟨hp.1.agr h (fun _ hb => .inl hb) (fun _ hb => .inr hb), hp.2⟩
def none_ (_ : Nat) : Prop := False
/-- A slice of the call's own, of data without addresses. -/
abbrev pS (T : Ty α) (e : TypeId) (a : Option Addr) (n cap : Nat) (xs : List α) : Pc := pN T none_ e a n cap xs
variable {T : Ty α} {S : Nat → Prop} {e : TypeId} {a : Option Addr} {n cap : Nat} {xs : List α} {B : Nat → Prop} {H0 H H' : Heap} {ps : List Pc}
theorem SlO.hull {lo : Nat} {v : Value} (h : SlO T S H lo e v xs) : ∃ a cap, v = .slice a xs.length cap := by
  obtain ⟨cs, ⟨h0, h1⟩, h2⟩ := h
  rcases h1 with ⟨rfl, h1⟩ | ⟨b, cap, l, rfl, h4, h5, h6, h7, h8, h9⟩
  · exact ⟨none, 0, by rw [h1]⟩
  · exact ⟨_, _, rfl⟩
theorem SlO.nlen {lo : Nat} (h : SlO T S H lo e (.slice a n cap) xs) : n = xs.length := by
  obtain ⟨a', cap', e⟩ := h.hull
  injection e
theorem SlO.up {lo : Nat} {v : Value} (h : SlO T S H 0 e v xs) (hl : ∀ b, slB v b → lo ≤ b) : SlO T S H lo e v xs := by
  obtain ⟨cs, ⟨h0, h1⟩, h2⟩ := h
  refine ⟨cs, ⟨h0, ?_⟩, h2⟩
  rcases h1 with h1 | ⟨b, cap, l, rfl, r⟩
  · exact .inl h1
  · exact .inr ⟨b, cap, l, rfl, hl b ⟨_, _, _, rfl⟩, r.2⟩
/-- The slice, from H0 on. -/
theorem St.own (st : St H0 H ps) (i : Nat) (hp : ps[i]? = some (pN T S e a n cap xs)) : SlO T S H H0.size e (.slice a n cap) xs :=
  (st.at_ i hp).1.up fun b hb => st.ge i hp (.inl hb)
theorem StB.len (st : StB B H0 H ps) (i : Nat) (hp : ps[i]? = some (pN T S e a n cap xs)) : n = xs.length := (st.at_ i hp).1.nlen
theorem StB.max (st : StB B H0 H ps) (i : Nat) (hp : ps[i]? = some (pN T S e a n cap xs)) : xs.length ≤ maxLen := (st.at_ i hp).1.len
/-- Its address, where it isn't empty. -/
theorem StB.adr (st : StB B H0 H ps) (i : Nat) (hp : ps[i]? = some (pN T S e a n cap xs)) (hn : 0 < xs.length) : ∃ b, a = some ⟨b, 0, none⟩ := by
  obtain ⟨cs, ⟨h0, h1⟩, h2⟩ := (st.at_ i hp).1
  rcases h1 with ⟨h1, h3⟩ | ⟨b, cap, l, h1, r⟩
  · omega
  · injection h1 with h1
    exact ⟨b, h1⟩
/-- To be read only. -/
theorem StB.view (st : StB B H0 H ps) (i : Nat) (hp : ps[i]? = some (pN T S e a n cap xs)) : SlD T (Old H) H a cap xs := by
  obtain ⟨a', cap', e1, h, -⟩ := (st.at_ i hp).1.view (S' := Old H) (fun b hb => (st.in_ i hp (.inl hb)).2) (fun b hb => (st.in_ i hp (.inr hb)).2)
  injection e1 with e1 e2 e3
  subst e1; subst e3; exact h
theorem St.viewF (st : St H0 H ps) (i : Nat) (hp : ps[i]? = some (pN T S e a n cap xs)) : SlD T (fun k => H0.size ≤ k ∧ k < H.size) H a cap xs := by
  obtain ⟨a', cap', e1, h, -⟩ := (st.at_ i hp).1.view (S' := fun k => H0.size ≤ k ∧ k < H.size) (fun b hb => ⟨st.ge i hp (.inl hb), (st.in_ i hp (.inl hb)).2⟩) (fun b hb => ⟨st.ge i hp (.inr hb), (st.in_ i hp (.inr hb)).2⟩)
  injection e1 with e1 e2 e3
  subst e1; subst e3; exact h
/-- The address of an element, to be read. -/
theorem ixO {P : Program} {t by_ j : Nat} {z : Value} {k : IntKind} {x : α} {ji : Int} {S0 : Nat → Prop} {H2 : Heap} {K : Value → Prop} (ht : SlT P t e T.size by_ z) (st : StB B H0 H ps) (i : Nat) (hp : ps[i]? = some (pN T S e a n cap xs))
    (hx : xs[j]? = some x) (hj : ji = (j : Int)) (hk : ∀ b o c, Old H b → Cells H b o c → T.rep (Old H) H c x → K (.pointer (some ⟨b, o, none⟩))) : VDet P (Instr.indexAt t (.slice a n cap) (.int k ji)) S0 H2 K := by
  have h := st.view i hp
  have hn := st.len i hp
  obtain ⟨b, o, c, rfl, h1, h2, h3⟩ := h.get hx
  subst hj
  have hi := (List.getElem?_eq_some_iff.1 hx).1
  exact ix ht (by omega) (by omega) (by simpa using hk b _ c h1 h2 h3)
/-- A value of one cell is written into the i-th piece at place j. -/
theorem st1O {P : Program} {t b o j : Nat} {v : Value} {x : α} {K : Heap → Prop} (st : StB B H0 H ps) (i : Nat) (ht : CellT P t) (hp : ps[i]? = some (pN T S t (some ⟨b, 0, none⟩) n cap xs)) (hsz : T.size = 1) (ho : o = j) (hj : j < xs.length)
    (hv : v.oneCell' = true) (hr : ∀ H', Agr S H H' → T.rep S H' [v] x) (k : ∀ H', StB B H0 H' (ps.set i (pN T S t (some ⟨b, 0, none⟩) n cap (xs.set j x))) → K H') : VEffU P (Instr.storeAt t (.pointer (some ⟨b, o, none⟩)) v) H K := by
  subst ho
  have hok := st.at_ i hp
  obtain ⟨-, -, -, l, hblk, hlen, -, hput⟩ := hok.1.placeS hj
  rw [hsz, Nat.mul_one] at hlen hput
  refine VC.st1 ht hblk (by omega) hv ?_
  intro H' hb' ha' hs'
  have hSH : Agr S H H' := ha'.mono fun k hk hkb => hok.2 k hk (by subst hkb; exact ⟨0, n, cap, rfl⟩)
  have hown := hput H' [v] x (by rw [splice_one (by omega)]; exact hb') hSH (hr H' hSH)
  refine k H' (st.upd i hp (ha'.mono fun k hk hkb => hk.2 (.inl (by subst hkb; exact ⟨0, n, cap, rfl⟩))) _ ⟨hown, hok.2⟩ (fun k hk => .inl hk) (fun k hk => by rw [hs']; exact (st.in_ i hp hk).2) (by omega))
/-- A datum of several cells. -/
theorem stNO {P : Program} {t b o j : Nat} {cs : List Value} {x : α} {K : Heap → Prop} (st : StB B H0 H ps) (i : Nat) (ht : (P.info? t).map (·.size) = some T.size) (hp : ps[i]? = some (pN T S t (some ⟨b, 0, none⟩) n cap xs)) (ho : o = j * T.size) (hj : j < xs.length)
    (hv : cs.all (·.oneCell') = true) (hr : ∀ H', Agr S H H' → T.rep S H' cs x) (k : ∀ H', StB B H0 H' (ps.set i (pN T S t (some ⟨b, 0, none⟩) n cap (xs.set j x))) → K H') : VEffU P (Instr.storeAt t (.pointer (some ⟨b, o, none⟩)) (.agg cs.toArray)) H K := by
  subst ho
  have hok := st.at_ i hp
  have hcl := T.len (hr H (Agr.refl _ _))
  obtain ⟨-, -, -, l, hblk, hlen, -, hput⟩ := hok.1.placeS hj
  refine VC.stN (by rw [hcl]; exact ht) hblk (by rw [hcl]; exact hlen) hv ?_
  intro H' hb' ha' hs'
  have hSH : Agr S H H' := ha'.mono fun k hk hkb => hok.2 k hk (by subst hkb; exact ⟨0, n, cap, rfl⟩)
  have hown := hput H' cs x hb' hSH (hr H' hSH)
  refine k H' (st.upd i hp (ha'.mono fun k hk hkb => hk.2 (.inl (by subst hkb; exact ⟨0, n, cap, rfl⟩))) _ ⟨hown, hok.2⟩ (fun k hk => .inl hk) (fun k hk => by rw [hs']; exact (st.in_ i hp hk).2) (by omega))
/-- New memory as a piece. -/
theorem StB.new {b : Nat} {l : List Value} (st : StB B H0 H ps) (hb : b = H.size) (hs : H'.size = b + 1) (hk : Blk H' b e l) (ha : Agr (fun k => k < b) H H') (hr : T.reps none_ H' l xs) (hn : n = xs.length) (hm : n ≤ maxLen) : StB B H0 H' (ps ++ [pS T e (some ⟨b, 0, none⟩) n n xs]) := by
  subst hb
  refine st.add (ha.mono fun k hk => hk) _ ⟨SlO.ofBlk (Nat.zero_le _) hk hr hn hm, fun k hk => hk.elim⟩ fun k hk => ?_
  rcases hk with ⟨o, n', c, h⟩ | h
  · cases h; omega
  · exact h.elim
/-- The nil slice as a piece. -/
theorem StB.nils (st : StB B H0 H ps) (T : Ty α) (e : TypeId) : StB B H0 H (ps ++ [pS T e none 0 0 []]) :=
  st.add (Agr.refl _ _) _ ⟨SlO.nil, fun k hk => hk.elim⟩ fun k hk => by
    rcases hk with ⟨o, n', c, h⟩ | h
    · cases h
    · exact h.elim
/-- What a call has returned, as a piece. -/
theorem StB.got {v : Value} (st : StB B H0 H ps) (ha : Agr (Old H) H H') (h : SlO T none_ H' H.size e v xs) : ∃ a cap, v = .slice a xs.length cap ∧ StB B H0 H' (ps ++ [pS T e a xs.length cap xs]) := by
  obtain ⟨a, cap, rfl⟩ := h.hull
  refine ⟨a, cap, rfl, st.add ha _ ⟨h.lower (Nat.zero_le _), fun k hk => hk.elim⟩ fun k hk => ?_⟩
  rcases hk with hk | hk
  · exact h.lt hk
  · exact hk.elim
/-- append of what lies in new memory, or elsewhere. -/
theorem appO {P : Program} {t ty q o m cap2 by_ : Nat} {z : Value} {ys : List α} {ds : List Value} {K : Value → Heap → Prop} (st : StB B H0 H ps) (i : Nat) (ht : SlT P t e T.size by_ z) (hp : ps[i]? = some (pS T e a n cap xs))
    (hd : Cells H q o ds) (hy : T.reps none_ H ds ys) (hm : m = ys.length) (h1 : ∀ u ∈ ds, u.oneCell' = true) (h63 : xs.length + ys.length ≤ 34359738368) (hby : by_ ≤ 1024)
    (k : ∀ a' cap' H', StB B H0 H' (ps.set i (pS T e a' (xs.length + ys.length) cap' (xs ++ ys))) → Agr (fun k => k < H.size ∧ ¬ slB (.slice a n cap) k) H H' → K (.slice a' (xs.length + ys.length) cap') H') :
    VEff P (Builtin.append_ #[t, t] ty [.slice a n cap, .slice (some ⟨q, o, none⟩) m cap2].toArray) H K := by
  refine vappendO (T := T) (S := none_) (lo := 0) ht (st.at_ i hp).1 (Nat.zero_le _) (fun k hk => hk.elim) hd hy hm h1 (by unfold maxLen; omega) (by have := Nat.mul_le_mul h63 hby; omega) ?_
  intro v' H' hown hagr hsz hfr
  obtain ⟨a', cap', rfl⟩ := hown.hull
  rw [List.length_append] at hown hfr ⊢
  refine k a' cap' H' (st.upd i hp (hagr.mono fun k hk => ⟨hk.1, fun hb => hk.2 (.inl hb)⟩) _ ⟨hown, fun k hk => hk.elim⟩ (fun k hk => ?_) (fun k hk => ?_) hsz) hagr
  · rcases hk with hk | hk
    · rcases hfr k hk with h | h
      · exact .inl (.inl h)
      · exact .inr h
    · exact hk.elim
  · rcases hk with hk | hk
    · exact (hown.lt hk).2
    · exact hk.elim
/-- append of one value of one cell, that has just been laid into new memory. -/
theorem app1 {P : Program} {t ty q by_ : Nat} {z v : Value} {x : α} {K : Value → Heap → Prop} (st : StB B H0 H ps) (i : Nat) (ht : SlT P t e T.size by_ z) (hp : ps[i]? = some (pS T e a n cap xs))
    (hd : Blk H q e [v]) (hy : T.rep none_ H [v] x) (hv : v.oneCell' = true) (h63 : xs.length + 1 ≤ 34359738368) (hby : by_ ≤ 1024)
    (k : ∀ a' cap' H', StB B H0 H' (ps.set i (pS T e a' (xs.length + 1) cap' (xs ++ [x]))) → Agr (fun k => k < H.size ∧ ¬ slB (.slice a n cap) k) H H' → K (.slice a' (xs.length + 1) cap') H') :
    VEff P (Builtin.append_ #[t, t] ty [.slice a n cap, .slice (some ⟨q, 0, none⟩) 1 1].toArray) H K :=
  appO (ys := [x]) st i ht hp (hd.cells (fun j v hv => by simpa using hv)) (Ty.reps_one hy) rfl (fun u hu => by cases List.mem_singleton.1 hu; exact hv) (by simpa using h63) hby k
end

/-! ### tables of slices -/
section
variable {α : Type} {T : Ty α} {B : Nat → Prop} {H0 H H1 : Heap} {ps : List Pc} {e te : TypeId} {nb : Nat} {vs : List Value} {xs : List (List α)}
theorem Tab.hold {S' : Nat → Prop} {lo : Nat} (h : Tab T none_ H lo e nb te vs xs) (k : Agr S' H H1) (hn : S' nb) (hb : ∀ (i : Nat) (v : Value), vs[i]? = some v → ∀ j, slB v j → S' j) : Tab T none_ H1 lo e nb te vs xs :=
  ⟨h.len, h.blk.agr k hn, h.nlo, fun i v x hv hx => (h.own i v x hv hx).agr k (fun b hb' => hb i v hv b hb') (fun b hb => hb.elim), h.apart⟩
def pT (T : Ty α) (e te : TypeId) (nb : Nat) (vs : List Value) (xs : List (List α)) : Pc where
  foot k := k = nb ∨ ∃ (i : Nat) (v : Value), vs[i]? = some v ∧ slB v k
  ok H := Tab T none_ H (nb + 1) e nb te vs xs
  fr h hp := hp.hold h (.inl rfl) fun i v hv j hj => .inr ⟨i, v, hv, hj⟩
theorem StB.tab (st : StB B H0 H ps) (i : Nat) (hp : ps[i]? = some (pT T e te nb vs xs)) : Tab T none_ H (nb + 1) e nb te vs xs := st.at_ i hp
theorem StB.tabNew {n : Nat} (st : StB B H0 H ps) (T : Ty α) (e : TypeId) (hb : nb = H.size) (hs : H1.size = nb + 1) (hk : Blk H1 nb te (List.replicate n (.slice none 0 0))) (ha : Agr (fun k => k < nb) H H1) : StB B H0 H1 (ps ++ [pT T e te nb (List.replicate n (.slice none 0 0)) (List.replicate n [])]) := by
  subst hb
  refine st.add (ha.mono fun k hk => hk) _ (Tab.new hk (Nat.lt_succ_self _)) fun k hk => ?_
  rcases hk with rfl | ⟨i, v, hv, hk⟩
  · omega
  · rw [List.getElem?_replicate] at hv
    split at hv
    · cases hv; obtain ⟨o, n, c, h⟩ := hk; cases h
    · cases hv
theorem StB.row (st : StB B H0 H ps) (i : Nat) (hp : ps[i]? = some (pT T e te nb vs xs)) {t : Nat} {x : List α} (hx : xs[t]? = some x) : ∃ a cap, vs[t]? = some (.slice a x.length cap) ∧ SlD T (Old H) H a cap x := by
  have tab := st.tab i hp
  have ht := (List.getElem?_eq_some_iff.1 hx).1
  obtain ⟨v, x', hv, hx', hown⟩ := tab.get ht
  rw [hx] at hx'; cases hx'
  obtain ⟨a, cap, rfl, hd, -⟩ := hown.view (S' := Old H) (fun b hb => (hown.lt hb).2) (fun _ f => f.elim)
  exact ⟨a, cap, hv, hd⟩
theorem StB.tcell (st : StB B H0 H ps) (i : Nat) (hp : ps[i]? = some (pT T e te nb vs xs)) {t o : Nat} {v : Value} (hv : vs[t]? = some v) (ho : o = t) : VC.cell H nb o = some v := by
  subst ho
  rw [(st.tab i hp).blk.cell]; exact hv
/-- A row has been appended to, and not yet stored. -/
structure Mid (T : Ty α) (B : Nat → Prop) (H0 H H1 : Heap) (ps : List Pc) (i : Nat) (e te : TypeId) (nb : Nat) (vs : List Value) (xs : List (List α)) (t : Nat) (v' : Value) (x' : List α) : Prop where
  st : StB B H0 H ps
  hp : ps[i]? = some (pT T e te nb vs xs)
  own : SlO T none_ H1 (nb + 1) e v' x'
  ex : ∃ v, vs[t]? = some v ∧ Agr (fun k => k < H.size ∧ ¬ slB v k) H H1 ∧ ∀ k, slB v' k → slB v k ∨ H.size ≤ k
  le : H.size ≤ H1.size
theorem Mid.step {i t : Nat} {v' : Value} {x' : List α} {H2 : Heap} (m : Mid T B H0 H H1 ps i e te nb vs xs t v' x') (h : Agr (Old H1) H1 H2) : Mid T B H0 H H2 ps i e te nb vs xs t v' x' := by
  obtain ⟨v, h1, h2, h3⟩ := m.ex
  exact ⟨m.st, m.hp, m.own.agr h (fun b hb => (m.own.lt hb).2) (fun _ f => f.elim), ⟨v, h1, h2.trans (h.mono fun k hk => Nat.lt_of_lt_of_le hk.1 m.le), h3⟩, Nat.le_trans m.le (old_size h)⟩
theorem appT {P : Program} {tt ty q by_ t : Nat} {z w : Value} {a : Option Addr} {n cap : Nat} {x : List α} {y : α} {K : Value → Heap → Prop} (st : StB B H0 H ps) (i : Nat) (ht : SlT P tt e T.size by_ z) (hp : ps[i]? = some (pT T e te nb vs xs)) (hv : vs[t]? = some (.slice a n cap)) (hx : xs[t]? = some x)
    (hd : Blk H q e [w]) (hy : T.rep none_ H [w] y) (hw : w.oneCell' = true) (h63 : x.length + 1 ≤ 34359738368) (hby : by_ ≤ 1024)
    (k : ∀ a' cap' H1, Mid T B H0 H H1 ps i e te nb vs xs t (.slice a' (x.length + 1) cap') (x ++ [y]) → K (.slice a' (x.length + 1) cap') H1) : VEff P (Builtin.append_ #[tt, tt] ty [.slice a n cap, .slice (some ⟨q, 0, none⟩) 1 1].toArray) H K := by
  have tab := st.tab i hp
  have hown := tab.own t _ _ hv hx
  refine vappendO (T := T) (S := none_) (lo := nb + 1) (ys := [y]) ht hown tab.blk.lt (fun k hk => hk.elim) (hd.cells (fun j v hv => by simpa using hv)) (Ty.reps_one hy) rfl (fun u hu => by cases List.mem_singleton.1 hu; exact hw) (by unfold maxLen; simp only [List.length_singleton]; omega) (by have := Nat.mul_le_mul h63 hby; simp only [List.length_singleton]; omega) ?_
  intro v' H1 hown1 hagr hsz hfr
  obtain ⟨a', cap', rfl⟩ := hown1.hull
  rw [List.length_append, List.length_singleton] at hown1 hfr ⊢
  exact k a' cap' H1 ⟨st, hp, hown1, ⟨_, hv, hagr, hfr⟩, hsz⟩
theorem stT {P : Program} {i t o : Nat} {v' : Value} {x' : List α} {K : Heap → Prop} (m : Mid T B H0 H H1 ps i e te nb vs xs t v' x') (ht : CellT P te) (ho : o = t)
    (k : ∀ H2, StB B H0 H2 (ps.set i (pT T e te nb (vs.set t v') (xs.set t x'))) → K H2) : VEffU P (Instr.storeAt te (.pointer (some ⟨nb, o, none⟩)) v') H1 K := by
  subst ho
  obtain ⟨v, hv, hagr, hfr⟩ := m.ex
  have st := m.st
  have tab := st.tab i m.hp
  have hol : o < vs.length := (List.getElem?_eq_some_iff.1 hv).1
  have hox : o < xs.length := by rw [← tab.len]; exact hol
  obtain ⟨x, hx⟩ : ∃ x, xs[o]? = some x := ⟨xs[o], List.getElem?_eq_getElem hox⟩
  have hvo := tab.own o v x hv hx
  have nvb : ¬ slB v nb := fun h => by have := (hvo.lt h).1; omega
  have hblk := tab.blk.agr hagr ⟨tab.blk.lt, nvb⟩
  refine VC.st1 ht hblk hol m.own.one ?_
  intro H2 hb2 ha2 hs2
  have htab : Tab T none_ H2 (nb + 1) e nb te (vs.set o v') (xs.set o x') := tab.push hv m.own hagr hfr hb2 ha2 (fun k hk => hk.elim)
  have hle := m.le
  have hlt2 : ∀ (j : Nat) (w : Value), (vs.set o v')[j]? = some w → ∀ k, slB w k → k < H2.size := fun j w hw k hk => by
    have hjl := (List.getElem?_eq_some_iff.1 hw).1
    have : j < (xs.set o x').length := by rw [← htab.len]; exact hjl
    exact ((htab.own j w _ hw (List.getElem?_eq_getElem this)).lt hk).2
  refine k H2 (st.upd i m.hp (H' := H2) ?_ _ htab ?_ ?_ (by omega))
  · exact (hagr.mono fun k hk => ⟨hk.1, fun hb => hk.2 (.inr ⟨o, v, hv, hb⟩)⟩).trans (ha2.mono fun k hk hkb => hk.2 (.inl hkb))
  · intro k hk
    rcases hk with rfl | ⟨j, w, hw, hk⟩
    · exact .inl (.inl rfl)
    · by_cases hj : o = j
      · subst hj
        rw [List.getElem?_set_self hol] at hw
        cases hw
        rcases hfr k hk with h | h
        · exact .inl (.inr ⟨o, v, hv, h⟩)
        · exact .inr h
      · rw [List.getElem?_set_ne hj] at hw
        exact .inl (.inr ⟨j, w, hw, hk⟩)
  · intro k hk
    rcases hk with rfl | ⟨j, w, hw, hk⟩
    · exact htab.blk.lt
    · exact hlt2 j w hw k hk
/-- The table, to be read only. -/
theorem StB.tview (st : StB B H0 H ps) (i : Nat) (hp : ps[i]? = some (pT T e te nb vs xs)) (hm : xs.length ≤ maxLen) : SlD (tSl T) (Old H) H (some ⟨nb, 0, none⟩) xs.length xs :=
  (st.tab i hp).view rfl hm (fun k _ hk => hk) (fun _ f => f.elim)
end

end Go.VC
