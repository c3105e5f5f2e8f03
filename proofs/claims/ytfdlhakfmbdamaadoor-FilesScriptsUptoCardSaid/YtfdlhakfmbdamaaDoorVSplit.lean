/- A piece split in two; a map of slices that is only read from now on; keys that are texts. -/
import Derived.Test.YtfdlhakfmbdamaaDoorVMapX
set_option linter.unusedVariables false
set_option linter.unusedSimpArgs false
namespace Go.VC
section
variable {B : Nat → Prop} {H0 H : Heap} {ps : List Pc} {p : Pc}
theorem StB.apart2 (st : StB B H0 H ps) {i j : Nat} {q : Pc} (hp : ps[i]? = some p) (hq : ps[j]? = some q) (hij : i ≠ j) : Dis p q := by
  have hil := (List.getElem?_eq_some_iff.1 hp).1
  have hjl := (List.getElem?_eq_some_iff.1 hq).1
  have e1 := (List.getElem?_eq_some_iff.1 hp).2
  have e2 := (List.getElem?_eq_some_iff.1 hq).2
  intro k hk hk'
  rcases Nat.lt_or_gt_of_ne hij with h | h
  · exact List.pairwise_iff_getElem.1 st.dis i j hil hjl h k (by rw [e1]; exact hk) (by rw [e2]; exact hk')
  · exact List.pairwise_iff_getElem.1 st.dis j i hjl hil h k (by rw [e2]; exact hk') (by rw [e1]; exact hk)
theorem StB.split (st : StB B H0 H ps) (i : Nat) (hp : ps[i]? = some p) (q r : Pc) (hq : q.ok H) (hr : r.ok H) (fq : ∀ k, q.foot k → p.foot k) (fr : ∀ k, r.foot k → p.foot k) (hd : Dis q r) : StB B H0 H (ps.set i q ++ [r]) := by
  have st1 := st.say i hp q hq fq
  have hil := (List.getElem?_eq_some_iff.1 hp).1
  refine ⟨st.old, st.lt0, st.size, fun s hs => ?_, fun s hs k hk => ?_, List.pairwise_append.2 ⟨st1.dis, List.pairwise_singleton _ _, fun s hs t ht => ?_⟩⟩
  · rcases List.mem_append.1 hs with hs | hs
    · exact st1.oks s hs
    · rw [List.mem_singleton] at hs; subst hs; exact hr
  · rcases List.mem_append.1 hs with hs | hs
    · exact st1.rng s hs k hk
    · rw [List.mem_singleton] at hs; subst hs
      exact st.in_ i hp (fr k hk)
  · rw [List.mem_singleton] at ht; subst ht
    obtain ⟨j, hj⟩ := List.getElem?_of_mem hs
    by_cases hji : i = j
    · subst hji
      rw [List.getElem?_set_self hil] at hj
      cases hj; exact hd
    · rw [List.getElem?_set_ne hji] at hj
      exact fun k hk hk' => st.apart2 hj hp (Ne.symm hji) k hk (fr k hk')
end
section
variable {α β : Type} {Ok : α → Prop} {enc : α → Value} {T : Ty β} {e : TypeId} {b : Nat} {m : α → Option Value} {xs : α → List β} {B : Nat → Prop} {H0 H : Heap} {ps : List Pc}
/-- The slices of a map, without the map. -/
def pVs (T : Ty β) (e : TypeId) (m : α → Option Value) (xs : α → List β) : Pc where
  foot k := ∃ a, slB (slAt m a) k
  ok H := ∀ a, SlO T none_ H 0 e (slAt m a) (xs a)
  fr h hp := fun a => (hp a).agr h (fun k hk => ⟨a, hk⟩) (fun _ hk => hk.elim)
theorem StB.mqSplit (st : StB B H0 H ps) (i : Nat) (hp : ps[i]? = some (pMQ Ok enc T e b m xs)) : StB B H0 H (ps.set i (pMW Ok enc b m) ++ [pVs T e m xs]) := by
  obtain ⟨h1, h2, h3, h4⟩ := st.at_ i hp
  refine st.split i hp (pMW Ok enc b m) (pVs T e m xs) h1 h2 (fun k hk => .inl hk) (fun k hk => .inr hk) ?_
  rintro k hk ⟨a, ha⟩
  have e : k = b := hk
  subst e
  exact h4 a ha
theorem StB.vsView (st : StB B H0 H ps) (i : Nat) (hp : ps[i]? = some (pVs T e m xs)) (a : α) : ∃ ad cap, slAt m a = .slice ad (xs a).length cap ∧ SlD T (Old H) H ad cap (xs a) := by
  obtain ⟨ad, cap, h1, h2, -⟩ := (st.at_ i hp a).view (S' := Old H) (fun k hk => (st.in_ i hp ⟨a, hk⟩).2) (fun _ hk => hk.elim)
  exact ⟨ad, cap, h1, h2⟩
theorem StB.mqExt {ys : α → List β} (st : StB B H0 H ps) (i : Nat) (hp : ps[i]? = some (pMQ Ok enc T e b m xs)) (h : ∀ a, xs a = ys a) : StB B H0 H (ps.set i (pMQ Ok enc T e b m ys)) := by
  obtain rfl : xs = ys := funext h
  exact st.say i hp _ (st.at_ i hp) (fun k hk => hk)
end
/-- Every key. -/
abbrev anyK {α : Type} (_ : α) : Prop := True
theorem MapF.toW {α : Type} {enc : α → Value} {H : Heap} {b : Nat} {m : α → Option Value} (h : MapF enc H b m) : MapW anyK enc H b m := ⟨h, fun _ _ _ => trivial⟩
theorem KeyW.ofE {P : Program} {kt : TypeId} {d : TypeDesc} {α : Type} {enc : α → Value} (hd : P.underlying kt = some d) (hk : KeyE d enc) : KeyW P kt anyK enc where
  inj := hk.inj
  check w em a _ := Go.MapKept.run_checkKey hd (hk.isKey a) em 9999
  find w a _ es hes := by
    have hall : ∀ x ∈ es, Go.MapKept.IsKey d x.key := fun x hx => by
      obtain ⟨b, -, e⟩ := hes x hx
      rw [e]; exact hk.isKey b
    rcases Go.MapKept.findNow_spec (hk.isKey a) es 0 hall with ⟨h1, h2⟩ | ⟨j, e, h1, h2, h3⟩
    · exact .inl ⟨Go.MapKept.run_findKey hd h1, h2⟩
    · exact .inr ⟨j, e, by rw [Nat.zero_add] at h1; exact Go.MapKept.run_findKey hd h1, h2, h3⟩
  stays w a _ := Go.MapKept.run_keyThatStays (hk.isKey a)
theorem strV_inj (a b : ByteArray) (h : Value.string a = Value.string b) : a = b := by cases h; rfl
end Go.VC
