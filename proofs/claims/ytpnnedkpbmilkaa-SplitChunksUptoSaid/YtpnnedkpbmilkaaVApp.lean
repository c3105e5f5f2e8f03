/- Appending one slice's elements to another. -/
import Derived.Test.YtpnnedkpbmilkaaVTab
set_option linter.unusedVariables false
set_option linter.unusedSimpArgs false
namespace Go.VC
def Ty.Ones {α : Type} (T : Ty α) : Prop := ∀ S H cs x, T.rep S H cs x → ∀ u ∈ cs, u.oneCell' = true
theorem Ty.Ones.reps {α : Type} {T : Ty α} (h : T.Ones) {S : Nat → Prop} {H : Heap} : ∀ {cs : List Value} {xs : List α}, T.reps S H cs xs → ∀ u ∈ cs, u.oneCell' = true := by
  intro cs xs
  induction xs generalizing cs with
  | nil => intro hr u hu; simp only [Ty.reps] at hr; subst hr; cases hu
  | cons x xs ih =>
    rintro ⟨c, r, rfl, hc, hr⟩ u hu
    rcases List.mem_append.1 hu with hu | hu
    · exact h S H c x hc u hu
    · exact ih hr u hu
theorem tInt_ones : ∀ (k : IntKind), (tInt k).Ones := by
  rintro k S H cs x ⟨rfl, _⟩ u hu
  cases List.mem_singleton.1 hu; rfl
theorem tBool_ones : tBool.Ones := by
  rintro S H cs x rfl u hu
  cases List.mem_singleton.1 hu; rfl
theorem tSl_ones {α : Type} (T : Ty α) : (tSl T).Ones := by
  rintro S H cs x ⟨a, cap, rfl, _⟩ u hu
  cases List.mem_singleton.1 hu; rfl
theorem vappendD {α : Type} {T : Ty α} {P : Program} {t ty e by_ : Nat} {z : Value} {S : Nat → Prop} {H : Heap} {K : Value → Heap → Prop} (ht : SlT P t e T.size by_ z) (hone : T.Ones) {lo cap : Nat} {v : Value} {a : Option Addr} {xs ys : List α}
    (hs : SlO T S H lo e v xs) (hlo : lo ≤ H.size) (hS : ∀ k, S k → k < H.size ∧ ¬ slB v k) (hy : SlD T S H a cap ys)
    (h63 : xs.length + ys.length ≤ maxLen) (hby : (xs.length + ys.length) * by_ ≤ 140737488355328)
    (h : ∀ v' H', SlO T S H' lo e v' (xs ++ ys) → Agr (fun k => k < H.size ∧ ¬ slB v k) H H' → H.size ≤ H'.size → (∀ k, slB v' k → slB v k ∨ H.size ≤ k) → K v' H') :
    VEff P (Builtin.append_ #[t, t] ty [v, .slice a ys.length cap].toArray) H K := by
  cases a with
  | some ad =>
    obtain ⟨q, o, sp⟩ := ad
    obtain ⟨h3, h4, h0 | ⟨rfl, h2, ec, h5, h6⟩⟩ := hy
    · obtain rfl : ys = [] := List.eq_nil_of_length_eq_zero (by omega)
      obtain ⟨cs, hsl, hr⟩ := hs
      refine vappend (m := 0) (news := []) ht hsl hlo (fun w hw => Src.ofSlice w ht.under _ 0 cap [] (by simp) (fun j u hu => by simp at hu) (fun u hu => by cases hu)) (by simpa using h63) (by simpa using hby) ?_
      intro v' H' hsl' hagr hsz hbb
      refine h v' H' ⟨cs, by simpa using hsl', ?_⟩ hagr hsz hbb
      rw [List.append_nil]
      exact Ty.reps_frame (hagr.mono hS) hr
    exact vappendO ht hs hlo hS h5 h6 rfl (hone.reps h6) h63 hby h
  | none =>
    obtain ⟨rfl, rfl⟩ := hy
    obtain ⟨cs, hsl, hr⟩ := hs
    refine vappend (m := 0) (news := []) ht hsl hlo (fun w hw => Src.ofNil w ht.under 0) (by simpa using h63) (by simpa using hby) ?_
    intro v' H' hsl' hagr hsz hbb
    refine h v' H' ⟨cs, by simpa using hsl', ?_⟩ hagr hsz hbb
    rw [List.append_nil]
    exact Ty.reps_frame (hagr.mono hS) hr

/-- What holds no address lies wherever. -/
def Ty.Free {α : Type} (T : Ty α) : Prop := ∀ S S' H H' cs x, T.rep S H cs x → T.rep S' H' cs x
theorem tInt_free (k : IntKind) : (tInt k).Free := fun S S' H H' cs x h => h
theorem tBool_free : tBool.Free := fun S S' H H' cs x h => h
theorem Ty.Free.reps {α : Type} {T : Ty α} (h : T.Free) {S S' : Nat → Prop} {H H' : Heap} : ∀ {cs : List Value} {xs : List α}, T.reps S H cs xs → T.reps S' H' cs xs := by
  intro cs xs
  induction xs generalizing cs with
  | nil => exact fun hr => hr
  | cons x xs ih =>
    rintro ⟨c, r, e, hc, hr⟩
    exact ⟨c, r, e, h S S' H H' c x hc, ih hr⟩
theorem SlO.free {α : Type} {T : Ty α} (hf : T.Free) {S S' : Nat → Prop} {H : Heap} {lo : Nat} {e : TypeId} {v : Value} {xs : List α} (h : SlO T S H lo e v xs) : SlO T S' H lo e v xs := by
  obtain ⟨cs, h1, h2⟩ := h
  exact ⟨cs, h1, hf.reps h2⟩

end Go.VC
