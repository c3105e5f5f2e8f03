/- How Go's data lie in memory, as typed facts: integers, bools, strings, slices, structs; and what the operations give on them. -/
import Derived.Test.YtfdlhakfmbdamaaDoorVHeap
set_option linter.unusedVariables false
set_option linter.unusedSimpArgs false
namespace Go.VC

/-- A type of data: how many cells one takes, and when cells hold a datum (reading only the blocks of S). -/
structure Ty (α : Type) where
  size : Nat
  rep : (Nat → Prop) → Heap → List Value → α → Prop
  len : ∀ {S H cs x}, rep S H cs x → cs.length = size
  frame : ∀ {S H H' cs x}, rep S H cs x → Agr S H H' → rep S H' cs x
  mono : ∀ {S S' H cs x}, rep S H cs x → (∀ k, S k → S' k) → rep S' H cs x

def Ty.reps {α : Type} (T : Ty α) (S : Nat → Prop) (H : Heap) : List Value → List α → Prop
  | cs, [] => cs = []
  | cs, x :: xs => ∃ c r, cs = c ++ r ∧ T.rep S H c x ∧ T.reps S H r xs

section
variable {α β : Type} {T : Ty α} {S S' : Nat → Prop} {H H' : Heap}
theorem Ty.reps_len : ∀ {xs : List α} {cs : List Value}, T.reps S H cs xs → cs.length = xs.length * T.size
  | [], _, h => by cases h; simp
  | x :: xs, _, ⟨c, r, rfl, h1, h2⟩ => by
    rw [List.length_append, T.len h1, Ty.reps_len h2, List.length_cons, Nat.succ_mul]; omega
theorem Ty.reps_frame (k : Agr S H H') : ∀ {xs : List α} {cs : List Value}, T.reps S H cs xs → T.reps S H' cs xs
  | [], _, h => h
  | x :: xs, _, ⟨c, r, e, h1, h2⟩ => ⟨c, r, e, T.frame h1 k, Ty.reps_frame k h2⟩
theorem Ty.reps_mono (k : ∀ i, S i → S' i) : ∀ {xs : List α} {cs : List Value}, T.reps S H cs xs → T.reps S' H cs xs
  | [], _, h => h
  | x :: xs, _, ⟨c, r, e, h1, h2⟩ => ⟨c, r, e, T.mono h1 k, Ty.reps_mono k h2⟩
theorem Ty.reps_append : ∀ {xs ys : List α} {cs ds : List Value}, T.reps S H cs xs → T.reps S H ds ys → T.reps S H (cs ++ ds) (xs ++ ys)
  | [], _, _, _, h, h' => by cases h; simpa using h'
  | x :: xs, _, _, _, ⟨c, r, e, h1, h2⟩, h' => ⟨c, r ++ _, by rw [e, List.append_assoc], h1, Ty.reps_append h2 h'⟩
theorem Ty.reps_one {c : List Value} {x : α} (h : T.rep S H c x) : T.reps S H c [x] := ⟨c, [], by simp, h, rfl⟩
theorem Ty.reps_snoc {xs : List α} {cs c : List Value} {x : α} (h : T.reps S H cs xs) (h' : T.rep S H c x) : T.reps S H (cs ++ c) (xs ++ [x]) := Ty.reps_append h (Ty.reps_one h')
/-- The i-th datum's cells. -/
theorem Ty.reps_get : ∀ {xs : List α} {cs : List Value} {i : Nat} {x : α}, T.reps S H cs xs → xs[i]? = some x → ∃ l c r, cs = l ++ c ++ r ∧ l.length = i * T.size ∧ T.rep S H c x
  | x :: xs, _, 0, y, ⟨c, r, e, h1, h2⟩, hx => by
    simp at hx; subst hx
    exact ⟨[], c, r, by simp [e], by simp, h1⟩
  | x :: xs, _, i + 1, y, ⟨c, r, e, h1, h2⟩, hx => by
    simp at hx
    obtain ⟨l, c', r', e', hl, hc⟩ := Ty.reps_get h2 hx
    exact ⟨c ++ l, c', r', by simp [e, e', List.append_assoc], by rw [List.length_append, T.len h1, hl, Nat.succ_mul]; omega, hc⟩
theorem Cells.mid {b o : Nat} {l c r : List Value} (h : Cells H b o (l ++ c ++ r)) : Cells H b (o + l.length) c := fun j v hv => by
  have := h (l.length + j) v (by
    rw [List.append_assoc, List.getElem?_append_right (by omega), List.getElem?_append_left (by
      have := (List.getElem?_eq_some_iff.1 hv).1; omega)]
    rw [show l.length + j - l.length = j by omega]; exact hv)
  rw [← Nat.add_assoc] at this
  exact this
theorem Cells.left {b o : Nat} {l r : List Value} (h : Cells H b o (l ++ r)) : Cells H b o l := by
  have := Cells.mid (H := H) (b := b) (o := o) (l := []) (c := l) (r := r) (by simpa using h)
  simpa using this
theorem Cells.right {b o : Nat} {l r : List Value} (h : Cells H b o (l ++ r)) : Cells H b (o + l.length) r := by
  have := Cells.mid (H := H) (b := b) (o := o) (l := l) (c := r) (r := []) (by simpa using h)
  simpa using this
theorem Cells.one {b o : Nat} {v : Value} (h : Cells H b o [v]) : cell H b o = some v := by have := h 0 v rfl; simpa using this
end

/-! ### plain data -/
def inK (k : IntKind) (x : Int) : Prop := k.min ≤ x ∧ x ≤ k.max
def tInt (k : IntKind) : Ty Int where
  size := 1
  rep _ _ cs x := cs = [.int k x] ∧ inK k x
  len h := by rw [h.1]; rfl
  frame h _ := h
  mono h _ := h
def tBool : Ty Bool where
  size := 1
  rep _ _ cs x := cs = [.bool x]
  len h := by rw [h]; rfl
  frame h _ := h
  mono h _ := h
def tStr : Ty ByteArray where
  size := 1
  rep _ _ cs x := cs = [.string x] ∧ x.size ≤ maxLen
  len h := by rw [h.1]; rfl
  frame h _ := h
  mono h _ := h
/-- One behind the other. -/
def tPair {α β : Type} (T : Ty α) (U : Ty β) : Ty (α × β) where
  size := T.size + U.size
  rep S H cs p := ∃ c d, cs = c ++ d ∧ T.rep S H c p.1 ∧ U.rep S H d p.2
  len := by rintro S H cs x ⟨c, d, rfl, h1, h2⟩; rw [List.length_append, T.len h1, U.len h2]
  frame := by rintro S H H' cs x ⟨c, d, e, h1, h2⟩ k; exact ⟨c, d, e, T.frame h1 k, U.frame h2 k⟩
  mono := by rintro S S' H cs x ⟨c, d, e, h1, h2⟩ k; exact ⟨c, d, e, T.mono h1 k, U.mono h2 k⟩
/-- n of one type. -/
def tArr {α : Type} (n : Nat) (T : Ty α) : Ty (List α) where
  size := n * T.size
  rep S H cs xs := xs.length = n ∧ T.reps S H cs xs
  len h := by rw [Ty.reps_len h.2, h.1]
  frame h k := ⟨h.1, Ty.reps_frame k h.2⟩
  mono h k := ⟨h.1, Ty.reps_mono k h.2⟩
/-- The same data under another name. -/
def tMap {α β : Type} (f : β → α) (T : Ty α) : Ty β where
  size := T.size
  rep S H cs y := T.rep S H cs (f y)
  len h := T.len h
  frame h k := T.frame h k
  mono h k := T.mono h k

/-! ### slices -/
/-- What a slice's address and capacity say of its elements. -/
def SlD {α : Type} (T : Ty α) (S : Nat → Prop) (H : Heap) (a : Option Addr) (cap : Nat) (xs : List α) : Prop :=
  match a with
  | none => xs = [] ∧ cap = 0
  | some ad => xs.length ≤ cap ∧ cap ≤ maxLen ∧ (cap = 0 ∨ ad.spot = none ∧ S ad.block ∧ ∃ ec, Cells H ad.block ad.off ec ∧ T.reps S H ec xs)
theorem SlD.intro {α : Type} {T : Ty α} {S : Nat → Prop} {H : Heap} {b o cap : Nat} {xs : List α} {ec : List Value} (h2 : S b) (h3 : xs.length ≤ cap) (h4 : cap ≤ maxLen) (h5 : Cells H b o ec) (h6 : T.reps S H ec xs) : SlD T S H (some ⟨b, o, none⟩) cap xs :=
  ⟨h3, h4, .inr ⟨rfl, h2, ec, h5, h6⟩⟩
theorem SlD.frame {α : Type} {T : Ty α} {S : Nat → Prop} {H H' : Heap} {a : Option Addr} {cap : Nat} {xs : List α} (h : SlD T S H a cap xs) (k : Agr S H H') : SlD T S H' a cap xs := by
  cases a with
  | none => exact h
  | some ad =>
    obtain ⟨h3, h4, h0 | ⟨h1, h2, ec, h5, h6⟩⟩ := h
    · exact ⟨h3, h4, .inl h0⟩
    · exact ⟨h3, h4, .inr ⟨h1, h2, ec, h5.eq (k _ h2), Ty.reps_frame k h6⟩⟩
theorem SlD.mono {α : Type} {T : Ty α} {S S' : Nat → Prop} {H : Heap} {a : Option Addr} {cap : Nat} {xs : List α} (h : SlD T S H a cap xs) (k : ∀ i, S i → S' i) : SlD T S' H a cap xs := by
  cases a with
  | none => exact h
  | some ad =>
    obtain ⟨h3, h4, h0 | ⟨h1, h2, ec, h5, h6⟩⟩ := h
    · exact ⟨h3, h4, .inl h0⟩
    · exact ⟨h3, h4, .inr ⟨h1, k _ h2, ec, h5, Ty.reps_mono k h6⟩⟩
theorem SlD.le {α : Type} {T : Ty α} {S : Nat → Prop} {H : Heap} {a : Option Addr} {cap : Nat} {xs : List α} (h : SlD T S H a cap xs) : xs.length ≤ cap ∧ cap ≤ maxLen := by
  cases a with
  | none => obtain ⟨rfl, rfl⟩ := h; simp
  | some ad => exact ⟨h.1, h.2.1⟩
def tSl {α : Type} (T : Ty α) : Ty (List α) where
  size := 1
  rep S H cs xs := ∃ a cap, cs = [.slice a xs.length cap] ∧ SlD T S H a cap xs
  len := by rintro S H cs x ⟨a, cap, rfl, _⟩; rfl
  frame := by rintro S H H' cs x ⟨a, cap, e, h⟩ k; exact ⟨a, cap, e, h.frame k⟩
  mono := by rintro S S' H cs x ⟨a, cap, e, h⟩ k; exact ⟨a, cap, e, h.mono k⟩

/-- The i-th element of a slice lies somewhere. -/
theorem SlD.get {α : Type} {T : Ty α} {S : Nat → Prop} {H : Heap} {a : Option Addr} {cap i : Nat} {xs : List α} {x : α} (h : SlD T S H a cap xs) (hx : xs[i]? = some x) :
    ∃ b o c, a = some ⟨b, o, none⟩ ∧ S b ∧ Cells H b (o + i * T.size) c ∧ T.rep S H c x := by
  cases a with
  | none => obtain ⟨rfl, _⟩ := h; simp at hx
  | some ad =>
    obtain ⟨b, o, sp⟩ := ad
    obtain ⟨h3, h4, h0 | ⟨rfl, h2, ec, h5, h6⟩⟩ := h
    · have := (List.getElem?_eq_some_iff.1 hx).1
      omega
    obtain ⟨l, c, r, rfl, hl, hc⟩ := Ty.reps_get h6 hx
    exact ⟨b, o, c, rfl, h2, by rw [← hl]; exact h5.mid, hc⟩
/-- Its address. -/
theorem ixr {α : Type} {T : Ty α} {P : Program} {t e by_ : Nat} {z : Value} {cap i : Nat} {k : IntKind} {j : Int} {S S0 : Nat → Prop} {H : Heap} {K : Value → Prop} {a : Option Addr} {xs : List α} {x : α}
    (ht : SlT P t e T.size by_ z) (h : SlD T S H a cap xs) (hx : xs[i]? = some x) (hj : j = (i : Int))
    (hk : ∀ b o c, S b → Cells H b o c → T.rep S H c x → K (.pointer (some ⟨b, o, none⟩))) : VDet P (Instr.indexAt t (.slice a xs.length cap) (.int k j)) S0 H K := by
  obtain ⟨b, o, c, rfl, h1, h2, h3⟩ := h.get hx
  subst hj
  have hi := (List.getElem?_eq_some_iff.1 hx).1
  exact ix ht (by omega) (by omega) (by simpa using hk b _ c h1 h2 h3)

end Go.VC
