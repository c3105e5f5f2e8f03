/- Typed slices of the call's own: reading, writing, appending. -/
import Derived.Test.YtpnnedkpbmilkaaVOps
set_option linter.unusedVariables false
set_option linter.unusedSimpArgs false
namespace Go.VC

/-- v is a slice over a block of the call's own (from lo on), or nil; it holds xs. -/
def SlO {α : Type} (T : Ty α) (S : Nat → Prop) (H : Heap) (lo : Nat) (e : TypeId) (v : Value) (xs : List α) : Prop :=
  ∃ cs, Sl H lo e T.size v xs.length cs ∧ T.reps S H cs xs

section
variable {α : Type} {T : Ty α} {S S' : Nat → Prop} {H H' : Heap} {lo : Nat} {e : TypeId} {v : Value} {xs : List α}
theorem SlO.nil : SlO T S H lo e (.slice none 0 0) [] := ⟨[], Sl.nil _ _ _ _, rfl⟩
theorem SlO.agr (h : SlO T S H lo e v xs) (k : Agr S' H H') (hb : ∀ b, slB v b → S' b) (hs : ∀ b, S b → S' b) : SlO T S H' lo e v xs := by
  obtain ⟨cs, h1, h2⟩ := h
  exact ⟨cs, h1.agr k hb, Ty.reps_frame (k.mono hs) h2⟩
theorem SlO.mono (h : SlO T S H lo e v xs) (hs : ∀ b, S b → S' b) : SlO T S' H lo e v xs := by
  obtain ⟨cs, h1, h2⟩ := h
  exact ⟨cs, h1, Ty.reps_mono hs h2⟩
theorem SlO.lt (h : SlO T S H lo e v xs) {b : Nat} (hb : slB v b) : lo ≤ b ∧ b < H.size := by
  obtain ⟨cs, h1, _⟩ := h
  exact h1.lt hb
theorem SlO.lower {lo' : Nat} (h : SlO T S H lo e v xs) (hl : lo' ≤ lo) : SlO T S H lo' e v xs := by
  obtain ⟨cs, ⟨h0, h1⟩, h2⟩ := h
  refine ⟨cs, ⟨h0, ?_⟩, h2⟩
  rcases h1 with h1 | ⟨b, cap, l, h3, h4, r⟩
  · exact .inl h1
  · exact .inr ⟨b, cap, l, h3, by omega, r⟩
theorem SlO.one (h : SlO T S H lo e v xs) : v.oneCell' = true := by
  obtain ⟨cs, ⟨h0, h1⟩, h2⟩ := h
  rcases h1 with ⟨rfl, _⟩ | ⟨b, cap, l, rfl, r⟩ <;> rfl
theorem SlO.len (h : SlO T S H lo e v xs) : xs.length ≤ maxLen := by
  obtain ⟨cs, ⟨h0, h1⟩, h2⟩ := h
  rcases h1 with ⟨_, h1⟩ | ⟨b, cap, l, h3, h4, h5, h6, h7, r⟩
  · omega
  · omega
/-- As a slice that is only read. -/
theorem SlO.view (h : SlO T S H lo e v xs) (hb : ∀ b, slB v b → S' b) (hs : ∀ b, S b → S' b) : ∃ a cap, v = .slice a xs.length cap ∧ SlD T S' H a cap xs ∧ (∀ b, slB v b ↔ a.map (·.block) = some b) := by
  obtain ⟨cs, ⟨h0, h1⟩, h2⟩ := h
  rcases h1 with ⟨rfl, h1⟩ | ⟨b, cap, l, rfl, h4, h5, h6, h7, h8, h9⟩
  · refine ⟨none, 0, by rw [h1], ⟨List.eq_nil_of_length_eq_zero h1, rfl⟩, fun b => ⟨?_, fun h => by cases h⟩⟩
    rintro ⟨o, n, c, h⟩; cases h
  · refine ⟨some ⟨b, 0, none⟩, cap, rfl, SlD.intro (hb b ⟨_, _, _, rfl⟩) h6 h7 (ec := cs) ?_ (Ty.reps_mono hs h2), fun b' => ⟨?_, fun h => ?_⟩⟩
    · refine h5.cells fun j u hu => ?_
      rw [← h9, List.getElem?_take] at hu
      split at hu
      · simpa using hu
      · cases hu
    · rintro ⟨o, n, c, h⟩; cases h; rfl
    · cases h; exact ⟨0, _, _, rfl⟩

theorem reps_set {cs c : List Value} {i : Nat} {x : α} (h : T.reps S H cs xs) (hc : T.rep S H c x) (hi : i < xs.length) : T.reps S H (splice cs (i * T.size) c) (xs.set i x) := by
  induction xs generalizing cs i with
  | nil => simp at hi
  | cons y ys ih =>
    obtain ⟨d, r, rfl, h1, h2⟩ := h
    have hl := T.len h1
    have hlc := T.len hc
    cases i with
    | zero =>
      refine ⟨c, r, ?_, hc, h2⟩
      unfold splice
      simp only [Nat.zero_mul, List.take_zero, List.nil_append, Nat.zero_add]
      rw [hlc, ← hl, List.drop_left]
    | succ i =>
      simp only [List.length_cons] at hi
      refine ⟨d, splice r (i * T.size) c, ?_, h1, ih h2 (by omega)⟩
      have e1 : (i + 1) * T.size = d.length + i * T.size := by rw [hl, Nat.succ_mul]; omega
      unfold splice
      rw [e1, List.take_length_add_append, show d.length + i * T.size + c.length = d.length + (i * T.size + c.length) by omega, List.drop_length_add_append]
      simp [List.append_assoc]

/-- The place of an element, to be written. -/
theorem SlO.place {i : Nat} (h : SlO T S H lo e v xs) (hi : i < xs.length) : ∃ b cap l cs, v = .slice (some ⟨b, 0, none⟩) xs.length cap ∧ lo ≤ b ∧ Blk H b e l ∧ i * T.size + T.size ≤ l.length ∧
    (∀ x, xs[i]? = some x → ∃ c, Cells H b (i * T.size) c ∧ T.rep S H c x) ∧ T.reps S H cs xs ∧
    ∀ (H' : Heap) (c : List Value) (x : α), Blk H' b e (splice l (i * T.size) c) → Agr S H H' → T.rep S H' c x → SlO T S H' lo e v (xs.set i x) := by
  obtain ⟨cs, ⟨h0, h1⟩, h2⟩ := h
  rcases h1 with ⟨rfl, h1⟩ | ⟨b, cap, l, rfl, h4, h5, h6, h7, h8, h9⟩
  · omega
  · have hle : i * T.size + T.size ≤ xs.length * T.size := by rw [← Nat.succ_mul]; exact Nat.mul_le_mul_right _ hi
    have hle2 : xs.length * T.size ≤ l.length := by rw [h8]; exact Nat.mul_le_mul_right _ h6
    refine ⟨b, cap, l, cs, rfl, h4, h5, by omega, ?_, h2, ?_⟩
    · intro x hx
      obtain ⟨l', c, r, rfl, hl', hc⟩ := Ty.reps_get h2 hx
      refine ⟨c, ?_, hc⟩
      rw [← hl']
      have hcs : Cells H b 0 (l' ++ c ++ r) := h5.cells fun j u hu => by
        rw [← h9, List.getElem?_take] at hu
        split at hu
        · simpa using hu
        · cases hu
      have := hcs.mid
      simpa using this
    intro H' c x hb' hagr hc
    have hlc := T.len hc
    refine ⟨splice cs (i * T.size) c, ⟨?_, .inr ⟨b, cap, _, by rw [List.length_set], h4, hb', by rw [List.length_set]; exact h6, h7, ?_, ?_⟩⟩, reps_set (Ty.reps_frame hagr h2) hc hi⟩
    · rw [splice_length (by rw [hlc, h0]; exact hle), h0, List.length_set]
    · rw [splice_length (by rw [hlc]; omega), h8]
    · rw [List.length_set]
      apply List.ext_getElem?
      intro j
      rw [List.getElem?_take]
      by_cases hj : j < xs.length * T.size
      · rw [if_pos hj, splice_get (by rw [hlc]; omega), splice_get (by rw [hlc, h0]; exact hle)]
        split
        · rfl
        · rw [← h9, List.getElem?_take, if_pos hj]
      · rw [if_neg hj, List.getElem?_eq_none]
        rw [splice_length (by rw [hlc, h0]; exact hle), h0]; omega
end

/-- append, typed: what is appended lies at (q, o). -/
theorem vappendO {α : Type} {T : Ty α} {P : Program} {t ty e by_ : Nat} {z : Value} {S : Nat → Prop} {H : Heap} {K : Value → Heap → Prop} (ht : SlT P t e T.size by_ z) {lo q o m cap : Nat} {v : Value} {xs ys : List α} {ds : List Value}
    (hs : SlO T S H lo e v xs) (hlo : lo ≤ H.size) (hS : ∀ k, S k → k < H.size ∧ ¬ slB v k) (hd : Cells H q o ds) (hy : T.reps S H ds ys) (hm : m = ys.length) (h1 : ∀ u ∈ ds, u.oneCell' = true)
    (h63 : xs.length + ys.length ≤ maxLen) (hby : (xs.length + ys.length) * by_ ≤ 140737488355328)
    (h : ∀ v' H', SlO T S H' lo e v' (xs ++ ys) → Agr (fun k => k < H.size ∧ ¬ slB v k) H H' → H.size ≤ H'.size → (∀ k, slB v' k → slB v k ∨ H.size ≤ k) → K v' H') :
    VEff P (Builtin.append_ #[t, t] ty [v, .slice (some ⟨q, o, none⟩) m cap].toArray) H K := by
  obtain ⟨cs, hsl, hr⟩ := hs
  subst hm
  refine vappend (m := ys.length) (news := ds) ht hsl hlo (fun w hw => ?_) h63 hby ?_
  · refine Src.ofSlice w ht.under ⟨q, o, none⟩ ys.length cap ds (Ty.reps_len hy) (fun j u hu => ?_) h1
    rw [Addr.add_mid]
    subst hw
    have := hd j u hu
    rw [cell_w]; exact this
  · intro v' H' hsl' hagr hsz hbb
    refine h v' H' ⟨_, by rw [List.length_append]; exact hsl', Ty.reps_append (Ty.reps_frame (hagr.mono hS) hr) (Ty.reps_frame (hagr.mono hS) hy)⟩ hagr hsz hbb

theorem ixrn {α : Type} {T : Ty α} {P : Program} {t e by_ : Nat} {z : Value} {n cap i : Nat} {k : IntKind} {j : Int} {S S0 : Nat → Prop} {H : Heap} {K : Value → Prop} {a : Option Addr} {xs : List α} {x : α}
    (ht : SlT P t e T.size by_ z) (h : SlD T S H a cap xs) (hn : n = xs.length) (hx : xs[i]? = some x) (hj : j = (i : Int))
    (hk : ∀ b o c, S b → Cells H b o c → T.rep S H c x → K (.pointer (some ⟨b, o, none⟩))) : VDet P (Instr.indexAt t (.slice a n cap) (.int k j)) S0 H K := by
  subst hn; exact ixr ht h hx hj hk

theorem reps_of_ones {α : Type} {T : Ty α} {S : Nat → Prop} {H : Heap} : ∀ {vs : List Value} {xs : List α}, vs.length = xs.length → (∀ (i : Nat) (v : Value) (x : α), vs[i]? = some v → xs[i]? = some x → T.rep S H [v] x) → T.reps S H vs xs
  | [], [], _, _ => rfl
  | v :: vs, [], h, _ => by simp at h
  | [], x :: xs, h, _ => by simp at h
  | v :: vs, x :: xs, h, k => ⟨[v], vs, rfl, k 0 v x rfl rfl, reps_of_ones (by simpa using h) fun i v' x' h1 h2 => k (i + 1) v' x' (by simpa using h1) (by simpa using h2)⟩
theorem foldl_splice : ∀ (vs : List Value) (k : Nat) (cells : Array Value) (off : Nat), off + k + vs.length ≤ cells.size →
    (vs.zipIdx k).foldl (fun cs (x : Value × Nat) => cs.setIfInBounds (off + x.2) x.1) cells = (splice cells.toList (off + k) vs).toArray
  | [], k, cells, off, _ => by apply Array.ext'; simp [splice]
  | v :: vs, k, cells, off, h => by
    simp only [List.length_cons] at h
    rw [List.zipIdx_cons, List.foldl_cons, foldl_splice vs (k + 1) _ off (by simp; omega)]
    apply congrArg
    apply List.ext_getElem?
    intro j
    rw [splice_get (by simp; omega), splice_get (by simp; omega)]
    simp only [Array.toList_setIfInBounds, List.length_cons]
    by_cases h1 : off + (k + 1) ≤ j ∧ j < off + (k + 1) + vs.length
    · rw [if_pos h1, if_pos (by omega), show j - (off + k) = (j - (off + (k + 1))) + 1 by omega, List.getElem?_cons_succ]
    · rw [if_neg h1]
      by_cases h2 : j = off + k
      · subst h2
        rw [if_pos (by omega), Nat.sub_self, List.getElem?_cons_zero, List.getElem?_set_self (by simp; omega)]
      · rw [if_neg (by omega), List.getElem?_set, if_neg (fun h3 => h2 h3.symm)]
theorem fill_cons {place : Nat → Option (Nat × Nat)} {cells : Array Value} {i : Nat} {v : Value} {rest : List (Nat × Value)} {off size : Nat} (hp : place i = some (off, size)) (h1 : v.cells.size = size) (h2 : off + size ≤ cells.size) :
    Instr.fill place cells ((i, v) :: rest) = Instr.fill place (splice cells.toList off v.cells.toList).toArray rest := by
  have h3 : ¬ (v.cells.size ≠ size ∨ off + v.cells.size > cells.size) := by omega
  have h4 := foldl_splice v.cells.toList 0 cells off (by simp; omega)
  simp only [Nat.add_zero] at h4
  rw [Instr.fill, hp]
  simp only [Bool.or_eq_true, decide_eq_true_eq, h3, if_false]
  congr 1
  rw [← h4, ← Array.foldl_toList, Array.toList_zipIdx]
/-- A slice of one element. -/
theorem vbuild1 {P : Program} {t e : TypeId} {sz by_ : Nat} {z v : Value} {H : Heap} {K : Value → Heap → Prop} (ht : SlT P t e sz by_ z) (l : List Value) (hv : v.cells = l.toArray) (hl : l.length = sz) (h0 : 0 < sz) (h1 : sz ≤ 16777216)
    (h : New H (fun b H' => K (.slice (some ⟨b, 0, none⟩) 1 1) H') e l) : VEff P (Instr.buildSlice t 1 [(0, v)].toArray) H K := by
  refine vbuild ht l (by omega) (by omega) ?_ h
  rw [show ([(0, v)].toArray).toList = (0, v) :: [] from rfl, fill_cons (off := 0) (size := sz) (by simp) (by rw [hv]; simpa using hl) (by simp)]
  rw [Instr.fill, hv]
  congr 1
  apply Array.ext'
  simp only [splice]
  simp [hl]

end Go.VC
