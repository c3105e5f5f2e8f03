/- Maps of slices of the call's own; cutting a slice's head off. -/
import Derived.Test.YtfdlhakfmbdamaaVMap
set_option linter.unusedVariables false
set_option linter.unusedSimpArgs false
namespace Go.VC
open Classical in
noncomputable def upd {α β : Type} (f : α → β) (a : α) (v : β) : α → β := fun b => if b = a then v else f b
theorem upd_self {α β : Type} (f : α → β) (a : α) (v : β) : upd f a v a = v := if_pos rfl
theorem upd_ne {α β : Type} {f : α → β} {a b : α} {v : β} (h : b ≠ a) : upd f a v b = f b := if_neg h

/-- What the map holds at a, nil where it holds nothing. -/
def slAt {α : Type} (m : α → Option Value) (a : α) : Value := (m a).getD (.slice none 0 0)
theorem slAt_put {α : Type} (m : α → Option Value) (a : α) (v : Value) : slAt (put m a (some v)) a = v := by simp [slAt, put_self]
theorem slAt_ne {α : Type} {m : α → Option Value} {a b : α} {v : Option Value} (h : b ≠ a) : slAt (put m a v) b = slAt m b := by simp [slAt, put_ne h]
structure Qs {α β : Type} (enc : α → Value) (T : Ty β) (H : Heap) (lo : Nat) (e : TypeId) (mb : Nat) (m : α → Option Value) (xs : α → List β) : Prop where
  map : MapF enc H mb m
  lt : mb < lo
  own : ∀ k, SlO T (fun _ => False) H lo e (slAt m k) (xs k)
  apart : ∀ k k' b, k ≠ k' → slB (slAt m k) b → ¬ slB (slAt m k') b
section
variable {α β : Type} {enc : α → Value} {T : Ty β} {H H1 H2 : Heap} {lo mb : Nat} {e : TypeId} {m : α → Option Value} {xs : α → List β} {S' : Nat → Prop}
theorem Qs.agr (h : Qs enc T H lo e mb m xs) (k : Agr S' H H1) (hm : S' mb) (hlo : ∀ b, lo ≤ b → b < H.size → S' b) : Qs enc T H1 lo e mb m xs :=
  ⟨h.map.agr k hm, h.lt, fun a => (h.own a).agr k (fun b hb => hlo b ((h.own a).lt hb).1 ((h.own a).lt hb).2) (fun _ f => f.elim), h.apart⟩
theorem Qs.new (h : MapF enc H mb (fun _ => none)) (hl : mb < lo) : Qs enc T H lo e mb (fun _ => none) (fun _ => []) :=
  ⟨h, hl, fun _ => SlO.nil, fun k k' b _ hb => by obtain ⟨o, n, c, h⟩ := hb; cases h⟩
theorem Qs.ext {ys : α → List β} (h : Qs enc T H lo e mb m xs) (hx : ∀ k, xs k = ys k) : Qs enc T H lo e mb m ys := (funext hx : xs = ys) ▸ h
theorem Qs.push {a : α} {v' : Value} {x' : List β} (h : Qs enc T H lo e mb m xs) (hown : SlO T (fun _ => False) H1 lo e v' x') (ha : Agr (fun k => k < H.size ∧ ¬ slB (slAt m a) k) H H1)
    (hfresh : ∀ k, slB v' k → slB (slAt m a) k ∨ H.size ≤ k) (hmap : MapF enc H2 mb (put m a (some v'))) (ha2 : Agr (fun k => k ≠ mb) H1 H2) : Qs enc T H2 lo e mb (put m a (some v')) (upd xs a x') := by
  have hl := h.lt
  refine ⟨hmap, h.lt, fun k => ?_, fun k k' b hkk hb hb' => ?_⟩
  · by_cases hk : k = a
    · subst hk
      rw [slAt_put, upd_self]
      exact hown.agr ha2 (fun b hb => by have := (hown.lt hb).1; omega) (fun _ f => f.elim)
    · rw [slAt_ne hk, upd_ne hk]
      have h1 := h.own k
      exact (h1.agr ha (fun b hb => ⟨(h1.lt hb).2, h.apart k a b hk hb⟩) (fun _ f => f.elim)).agr ha2 (fun b hb => by have := (h1.lt hb).1; omega) (fun _ f => f.elim)
  · have old : ∀ j, j ≠ a → slB (slAt (put m a (some v')) j) b → ¬ slB v' b := by
      intro j hj hjb hv
      rw [slAt_ne hj] at hjb
      rcases hfresh b hv with h1 | h1
      · exact h.apart j a b hj hjb h1
      · have := ((h.own j).lt hjb).2; omega
    by_cases hk : k = a
    · subst hk
      rw [slAt_put] at hb
      exact old k' (Ne.symm hkk) hb' hb
    · by_cases hk' : k' = a
      · subst hk'
        rw [slAt_put] at hb'
        exact old k hk hb hb'
      · rw [slAt_ne hk] at hb
        rw [slAt_ne hk'] at hb'
        exact h.apart k k' b hkk hb hb'
/-- The slices, to be read only. -/
theorem Qs.view (h : Qs enc T H lo e mb m xs) (k : α) : ∃ a cap, slAt m k = .slice a (xs k).length cap ∧ SlD T (fun j => lo ≤ j ∧ j < H.size) H a cap (xs k) := by
  obtain ⟨a, cap, h1, h2, -⟩ := (h.own k).view (S' := fun j => lo ≤ j ∧ j < H.size) (fun b hb => (h.own k).lt hb) (fun _ f => f.elim)
  exact ⟨a, cap, h1, h2⟩
end

theorem Ty.reps_drop {α : Type} {T : Ty α} {S : Nat → Prop} {H : Heap} : ∀ {xs : List α} {cs : List Value} (i : Nat), i ≤ xs.length → T.reps S H cs xs → ∃ l r, cs = l ++ r ∧ l.length = i * T.size ∧ T.reps S H r (xs.drop i)
  | xs, cs, 0, _, h => ⟨[], cs, rfl, by simp, h⟩
  | x :: xs, cs, i + 1, hi, ⟨c, r, e, h1, h2⟩ => by
    obtain ⟨l, r', e', hl, hr⟩ := Ty.reps_drop i (by simpa using hi) h2
    exact ⟨c ++ l, r', by rw [e, e', List.append_assoc], by rw [List.length_append, T.len h1, hl, Nat.succ_mul]; omega, hr⟩
  | [], cs, i + 1, hi, _ => by simp at hi
theorem vcutL {α : Type} {T : Ty α} {P : Program} {t e by_ : Nat} {z : Value} {S S' : Nat → Prop} {H : Heap} {K : Value → Prop} {a : Option Addr} {cap l : Nat} {ki : IntKind} {i : Int} {xs : List α} (ht : SlT P t e T.size by_ z) (h : SlD T S' H a cap xs) (hi : i = (l : Int)) (hl : l ≤ xs.length)
    (k : ∀ a', SlD T S' H a' (cap - l) (xs.drop l) → K (.slice a' (xs.drop l).length (cap - l))) : VDet P (Instr.sliceAt t (.slice a xs.length cap) (some (.int ki i)) none none) S H K := by
  subst hi
  obtain ⟨inf, hi, hs, _, _⟩ := ht.info
  have hle := h.le
  have hk : K (.slice (if cap = l then a else a.map (·.add (l * T.size))) (xs.length - l) (cap - l)) := by
    have := k (if cap = l then a else a.map (·.add (l * T.size))) ?_
    · rwa [List.length_drop] at this
    · by_cases hc : cap = l
      · rw [if_pos hc]
        cases a with
        | none => obtain ⟨rfl, rfl⟩ := h; simp [SlD]
        | some ad => exact ⟨by simp; omega, by omega, .inl (by omega)⟩
      · rw [if_neg hc]
        cases a with
        | none => obtain ⟨rfl, rfl⟩ := h; simp [SlD]
        | some ad =>
          obtain ⟨h3, h4, h0 | ⟨h1, h2, ec, h5, h6⟩⟩ := h
          · omega
          · obtain ⟨b, o, sp⟩ := ad
            simp only at h1 h2 h5
            subst h1
            obtain ⟨l', r, rfl, hl', hr⟩ := Ty.reps_drop l hl h6
            refine ⟨by simp; omega, by omega, .inr ?_⟩
            show (Addr.add ⟨b, o, none⟩ (l * T.size)).spot = none ∧ _
            simp only [Addr.add_mid]
            exact ⟨trivial, h2, r, by rw [← hl']; exact h5.right, hr⟩
  refine VDet.mk _ (fun w _ => ?_) hk
  have h1 : ¬ (xs.length < l) := by omega
  simp [Instr.sliceAt, Instr.slice, run_underlying ht.under, Instr.sliceBounds, Instr.sliceBound, asIntOf, h1, sizeOf, typeInfo, hi, hs]

theorem text_beq (a b : ByteArray) : (a.toList == b.toList) = decide (a.data.toList = b.data.toList) := by
  rw [ByteArray.toList_eq, ByteArray.toList_eq]
  by_cases h : a.data.toList = b.data.toList
  · rw [decide_eq_true h, h]; simp
  · rw [decide_eq_false h]
    exact Bool.eq_false_iff.2 fun hh => h (by simpa using hh)
theorem text_inj {a b : ByteArray} (h : a.data.toList = b.data.toList) : a = b := by
  cases a; cases b; simp_all [Array.toList_inj]
theorem text_eq (a b : ByteArray) : (a.toList == b.toList) = true ↔ a = b := by
  rw [text_beq, decide_eq_true_eq]
  exact ⟨text_inj, fun h => by rw [h]⟩
end Go.VC
