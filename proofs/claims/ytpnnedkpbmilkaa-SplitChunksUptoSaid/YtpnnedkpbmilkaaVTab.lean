/- Tables of slices of the call's own; cutting slices. -/
import Derived.Test.YtpnnedkpbmilkaaVOwn
set_option linter.unusedVariables false
set_option linter.unusedSimpArgs false
namespace Go.VC

/-- Block nb holds slices of the call's own, over blocks apart from one another. -/
structure Tab {α : Type} (T : Ty α) (S : Nat → Prop) (H : Heap) (lo : Nat) (e : TypeId) (nb : Nat) (te : TypeId) (vs : List Value) (xs : List (List α)) : Prop where
  len : vs.length = xs.length
  blk : Blk H nb te vs
  nlo : nb < lo
  own : ∀ (i : Nat) (v : Value) (x : List α), vs[i]? = some v → xs[i]? = some x → SlO T S H lo e v x
  apart : ∀ (i j : Nat) (v w : Value) (k : Nat), i ≠ j → vs[i]? = some v → vs[j]? = some w → slB v k → ¬ slB w k

section
variable {α : Type} {T : Ty α} {S S' : Nat → Prop} {H H1 H2 : Heap} {lo nb : Nat} {e te : TypeId} {vs : List Value} {xs : List (List α)}
theorem Tab.agr (h : Tab T S H lo e nb te vs xs) (k : Agr S' H H1) (hn : S' nb) (hlo : ∀ b, lo ≤ b → b < H.size → S' b) (hs : ∀ b, S b → S' b) : Tab T S H1 lo e nb te vs xs :=
  ⟨h.len, h.blk.agr k hn, h.nlo, fun i v x hv hx => (h.own i v x hv hx).agr k (fun b hb => hlo b ((h.own i v x hv hx).lt hb).1 ((h.own i v x hv hx).lt hb).2) hs, h.apart⟩
theorem Tab.new {n : Nat} (hb : Blk H nb te (List.replicate n (.slice none 0 0))) (hlo : nb < lo) : Tab T S H lo e nb te (List.replicate n (.slice none 0 0)) (List.replicate n []) := by
  refine ⟨by simp, hb, hlo, fun i v x hv hx => ?_, fun i j v w k hij hv hw hk => ?_⟩
  · rw [List.getElem?_replicate] at hv hx
    split at hv
    · rename_i hi
      rw [if_pos hi] at hx
      cases hv; cases hx
      exact SlO.nil
    · cases hv
  · rw [List.getElem?_replicate] at hv
    split at hv
    · cases hv; obtain ⟨o, n, c, h⟩ := hk; cases h
    · cases hv
theorem Tab.get (h : Tab T S H lo e nb te vs xs) {i : Nat} (hi : i < xs.length) : ∃ v x, vs[i]? = some v ∧ xs[i]? = some x ∧ SlO T S H lo e v x := by
  have h1 : i < vs.length := by rw [h.len]; exact hi
  exact ⟨vs[i], xs[i], List.getElem?_eq_getElem h1, List.getElem?_eq_getElem hi, h.own i _ _ (List.getElem?_eq_getElem h1) (List.getElem?_eq_getElem hi)⟩
/-- One of the slices has been appended to, and stored. -/
theorem Tab.push (h : Tab T S H lo e nb te vs xs) {t : Nat} {v v' : Value} {x' : List α} (hv : vs[t]? = some v) (hown : SlO T S H1 lo e v' x') (ha : Agr (fun k => k < H.size ∧ ¬ slB v k) H H1)
    (hfresh : ∀ k, slB v' k → slB v k ∨ H.size ≤ k) (hb : Blk H2 nb te (vs.set t v')) (ha2 : Agr (fun k => k ≠ nb) H1 H2) (hS : ∀ k, S k → k < H.size ∧ ¬ slB v k ∧ k ≠ nb) :
    Tab T S H2 lo e nb te (vs.set t v') (xs.set t x') := by
  have ht : t < vs.length := (List.getElem?_eq_some_iff.1 hv).1
  refine ⟨by simp [h.len], hb, h.nlo, fun i w x hw hx => ?_, fun i j u w k hij hu hw hk hk' => ?_⟩
  · by_cases hit : i = t
    · subst hit
      rw [List.getElem?_set_self ht] at hw
      rw [List.getElem?_set_self (by rw [← h.len]; exact ht)] at hx
      cases hw; cases hx
      exact hown.agr ha2 (fun b hb => by have := (hown.lt hb).1; have := h.nlo; omega) (fun b hb => (hS b hb).2.2)
    · rw [List.getElem?_set_ne (Ne.symm hit)] at hw hx
      have h1 := h.own i w x hw hx
      have h2 : SlO T S H1 lo e w x := h1.agr ha (fun b hb => ⟨(h1.lt hb).2, fun hb' => h.apart i t w v b hit hw hv hb hb'⟩) (fun b hb => ⟨(hS b hb).1, (hS b hb).2.1⟩)
      exact h2.agr ha2 (fun b hb => by have := (h1.lt hb).1; have := h.nlo; omega) (fun b hb => (hS b hb).2.2)
  · have old : ∀ (i : Nat) (w : Value), i ≠ t → (vs.set t v')[i]? = some w → slB w k → ¬ slB v' k := by
      intro i w hi hw hk hk'
      rw [List.getElem?_set_ne (Ne.symm hi)] at hw
      rcases hfresh k hk' with h1 | h1
      · exact h.apart i t w v k hi hw hv hk h1
      · have hix : i < xs.length := by rw [← h.len]; exact (List.getElem?_eq_some_iff.1 hw).1
        have := ((h.own i w _ hw (List.getElem?_eq_getElem hix)).lt hk).2
        omega
    by_cases hit : i = t
    · subst hit
      rw [List.getElem?_set_self ht] at hu
      cases hu
      exact old j w (Ne.symm hij) hw hk' hk
    · by_cases hjt : j = t
      · subst hjt
        rw [List.getElem?_set_self ht] at hw
        cases hw
        exact old i u hit hu hk hk'
      · rw [List.getElem?_set_ne (Ne.symm hit)] at hu
        rw [List.getElem?_set_ne (Ne.symm hjt)] at hw
        exact h.apart i j u w k hij hu hw hk hk'
end

/-- The table as a slice of slices that are only read. -/
theorem Tab.view {α : Type} {T : Ty α} {S S' : Nat → Prop} {H : Heap} {lo nb n : Nat} {e te : TypeId} {vs : List Value} {xs : List (List α)} (h : Tab T S H lo e nb te vs xs) (hn : n = xs.length) (hm : n ≤ maxLen)
    (hS : ∀ k, nb ≤ k → k < H.size → S' k) (hs : ∀ k, S k → S' k) : SlD (tSl T) S' H (some ⟨nb, 0, none⟩) n xs := by
  subst hn
  refine SlD.intro (hS nb (Nat.le_refl _) h.blk.lt) (Nat.le_refl _) hm (h.blk.cells (cs := vs) (fun j v hv => by simpa using hv)) ?_
  refine reps_of_ones h.len fun i v x hv hx => ?_
  have hd := h.own i v x hv hx
  obtain ⟨a0, cap0, rfl, hv0, -⟩ := hd.view (S' := S') (fun k hk => hS k (by have := (hd.lt hk).1; have := h.nlo; omega) (hd.lt hk).2) hs
  exact ⟨a0, cap0, rfl, hv0⟩

/-! ### cutting -/
theorem vcutH {P : Program} {t e sz by_ : Nat} {z : Value} {a : Option Addr} {n cap : Nat} {k : IntKind} {h : Int} {S : Nat → Prop} {H : Heap} {K : Value → Prop} (ht : SlT P t e sz by_ z) (h0 : 0 ≤ h) (h1 : h ≤ cap)
    (hk : K (.slice a h.toNat cap)) : VDet P (Instr.sliceAt t (.slice a n cap) none (some (.int k h)) none) S H K := by
  obtain ⟨inf, hi, hs, _, _⟩ := ht.info
  refine VDet.mk _ (fun w _ => ?_) hk
  have e1 : (a.map fun x => x.add 0) = a := by cases a <;> rfl
  simp [Instr.sliceAt, Instr.slice, run_underlying ht.under, Instr.sliceBounds, Instr.sliceBound, asIntOf, h0, h1, sizeOf, typeInfo, hi, e1]
theorem SlO.pop {α : Type} {T : Ty α} {S : Nat → Prop} {H : Heap} {lo n cap : Nat} {e : TypeId} {a : Option Addr} {xs : List α} {x : α} (h : SlO T S H lo e (.slice a n cap) (xs ++ [x])) : SlO T S H lo e (.slice a xs.length cap) xs := by
  obtain ⟨cs, ⟨h0, h1⟩, h2⟩ := h
  have split : ∀ (xs : List α) (cs : List Value), T.reps S H cs (xs ++ [x]) → T.reps S H (cs.take (xs.length * T.size)) xs := by
    intro xs
    induction xs with
    | nil => intro cs _; simp [Ty.reps]
    | cons y ys ih =>
      rintro cs ⟨c, r, rfl, hc, hr⟩
      refine ⟨c, r.take (ys.length * T.size), ?_, hc, ih r hr⟩
      have := T.len hc
      rw [List.length_cons, Nat.succ_mul, Nat.add_comm, ← this, List.take_length_add_append]
  rcases h1 with ⟨h1, h3⟩ | ⟨b, cap', l, h1, h4, h5, h6, h7, h8, h9⟩
  · simp at h3
  · cases h1
    simp only [List.length_append, List.length_singleton] at h6 h9 h0
    refine ⟨cs.take (xs.length * T.size), ⟨?_, .inr ⟨b, cap, l, rfl, h4, h5, by omega, h7, h8, ?_⟩⟩, split xs cs h2⟩
    · rw [List.length_take, h0, Nat.min_eq_left (Nat.mul_le_mul_right _ (by omega))]
    · rw [← h9, List.take_take, Nat.min_eq_left (Nat.mul_le_mul_right _ (by omega))]

end Go.VC
