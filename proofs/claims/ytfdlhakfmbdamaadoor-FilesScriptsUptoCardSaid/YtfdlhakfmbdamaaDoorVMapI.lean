/- Taking a map's slice out, and laying it again by an update. -/
import Derived.Test.YtfdlhakfmbdamaaDoorVSplit
set_option linter.unusedVariables false
set_option linter.unusedSimpArgs false
namespace Go.VC
section
variable {α β : Type} {Ok : α → Prop} {enc : α → Value} {T : Ty β} {e : TypeId} {b : Nat} {m : α → Option Value} {xs : α → List β} {B : Nat → Prop} {H0 H H' : Heap} {ps : List Pc} {P : Program} {t kt et : TypeId} {a : α}
/-- The slice at a is out, as v, holding x; the map itself is as it was. -/
def pMQo (Ok : α → Prop) (enc : α → Value) (T : Ty β) (e : TypeId) (b : Nat) (m : α → Option Value) (xs : α → List β) (a : α) (v : Value) (x : List β) : Pc where
  foot k := k = b ∨ slB v k ∨ ∃ c, c ≠ a ∧ slB (slAt m c) k
  ok H := MapW Ok enc H b m ∧ SlO T none_ H 0 e v x ∧ (∀ c, c ≠ a → SlO T none_ H 0 e (slAt m c) (xs c)) ∧ (∀ c c' k, c ≠ a → c' ≠ a → c ≠ c' → slB (slAt m c) k → ¬ slB (slAt m c') k) ∧ (∀ c k, c ≠ a → slB (slAt m c) k → ¬ slB v k) ∧ (∀ c, c ≠ a → ¬ slB (slAt m c) b) ∧ ¬ slB v b
  fr h hp := ⟨hp.1.agr h (.inl rfl), hp.2.1.agr h (fun k hk => .inr (.inl hk)) (fun _ hk => hk.elim), fun c hc => (hp.2.2.1 c hc).agr h (fun k hk => .inr (.inr ⟨c, hc, hk⟩)) (fun _ hk => hk.elim), hp.2.2.2⟩
theorem StB.mqOut (st : StB B H0 H ps) (i : Nat) (hp : ps[i]? = some (pMQ Ok enc T e b m xs)) (a : α) : StB B H0 H (ps.set i (pMQo Ok enc T e b m xs a (slAt m a) (xs a))) := by
  obtain ⟨hmap, hown, hap, hb⟩ := st.at_ i hp
  refine st.say i hp _ ⟨hmap, hown a, fun c _ => hown c, fun c c' k _ _ hcc => hap c c' k hcc, fun c k hc => hap c a k hc, fun c _ => hb c, hb a⟩ fun k hk => ?_
  rcases hk with hk | hk | ⟨c, -, hk⟩
  · exact .inl hk
  · exact .inr ⟨a, hk⟩
  · exact .inr ⟨c, hk⟩
theorem appQo {ty q o l cap2 by_ : Nat} {z v : Value} {x : List β} {ys : List β} {ds : List Value} {tt : TypeId} {K : Value → Heap → Prop} (st : StB B H0 H ps) (i : Nat) (ht : SlT P tt e T.size by_ z) (hp : ps[i]? = some (pMQo Ok enc T e b m xs a v x))
    (hd : Cells H q o ds) (hy : T.reps none_ H ds ys) (hl : l = ys.length) (h1 : ∀ u ∈ ds, u.oneCell' = true) (h63 : x.length + ys.length ≤ maxLen) (hby : (x.length + ys.length) * by_ ≤ 140737488355328)
    (k : ∀ v' H', StB B H0 H' (ps.set i (pMQo Ok enc T e b m xs a v' (x ++ ys))) → Agr (fun k => k < H.size ∧ ¬ slB v k) H H' → K v' H') :
    VEff P (Builtin.append_ #[tt, tt] ty [v, .slice (some ⟨q, o, none⟩) l cap2].toArray) H K := by
  obtain ⟨hmap, hv, hown, hap, hapv, hb, hvb⟩ := st.at_ i hp
  have hlt : ∀ c, c ≠ a → ∀ k, slB (slAt m c) k → k < H.size := fun c hc k hk => (st.in_ i hp (.inr (.inr ⟨c, hc, hk⟩))).2
  have hbl : b < H.size := (st.in_ i hp (.inl rfl)).2
  refine vappendO (T := T) (S := none_) (lo := 0) ht hv (Nat.zero_le _) (fun k hk => hk.elim) hd hy hl h1 h63 hby ?_
  intro v' H' hv' hagr hsz hfr
  refine k v' H' (st.upd i hp (hagr.mono fun k hk => ⟨hk.1, fun hb => hk.2 (.inr (.inl hb))⟩) (pMQo Ok enc T e b m xs a v' (x ++ ys)) ⟨hmap.agr hagr ⟨hbl, hvb⟩, hv', fun c hc => (hown c hc).agr hagr (fun k hk => ⟨hlt c hc k hk, hapv c k hc hk⟩) (fun _ hk => hk.elim), hap, fun c k hc hk hk' => ?_, hb, fun hk => ?_⟩ (fun k hk => ?_) (fun k hk => ?_) hsz) hagr
  · rcases hfr k hk' with h | h
    · exact hapv c k hc hk h
    · have := hlt c hc k hk; omega
  · rcases hfr b hk with h | h
    · exact hvb h
    · omega
  · rcases hk with hk | hk | hk
    · exact .inl (.inl hk)
    · rcases hfr k hk with h | h
      · exact .inl (.inr (.inl h))
      · exact .inr h
    · exact .inl (.inr (.inr hk))
  · rcases hk with hk | hk | ⟨c, hc, hk⟩
    · have : k = b := hk; omega
    · exact (hv'.lt hk).2
    · have := hlt c hc k hk; omega
theorem mputQo {v : Value} {x : List β} {z : Value} {K : Heap → Prop} (st : StB B H0 H ps) (i : Nat) (ht : MapTW P t kt et z) (hk : KeyW P kt Ok enc) (ha : Ok a) (hp : ps[i]? = some (pMQo Ok enc T e b m xs a v x))
    (k : ∀ m' H', StB B H0 H' (ps.set i (pMQ Ok enc T e b m' (upd xs a x))) → K H') : VEffU P (Instr.mapUpdate t (.map (some b)) (enc a) v) H K := by
  obtain ⟨hmap, hv, hown, hap, hapv, hb, hvb⟩ := st.at_ i hp
  refine mputW ht hk ha hmap ?_
  intro H' h1 h2 h3
  have e1 : slAt (put m a (some v)) a = v := slAt_put m a v
  have e2 : ∀ c, c ≠ a → slAt (put m a (some v)) c = slAt m c := fun c hc => slAt_ne hc
  refine k _ H' (st.upd i hp (h2.mono fun k hk hkb => hk.2 (.inl hkb)) (pMQ Ok enc T e b (put m a (some v)) (upd xs a x)) ⟨h1, fun c => ?_, fun c c' k hcc => ?_, fun c => ?_⟩ (fun k hk => ?_) (fun k hk => ?_) (by omega))
  · by_cases hc : c = a
    · subst hc; rw [e1, upd_self]; exact hv.agr h2 (fun k hk hkb => hvb (hkb ▸ hk)) (fun _ hk => hk.elim)
    · rw [e2 c hc, upd_ne hc]; exact (hown c hc).agr h2 (fun k hk hkb => hb c hc (hkb ▸ hk)) (fun _ hk => hk.elim)
  · by_cases hc : c = a
    · subst hc
      rw [e1, e2 c' (Ne.symm hcc)]
      exact fun h1 h2 => hapv c' _ (Ne.symm hcc) h2 h1
    · by_cases hc' : c' = a
      · subst hc'
        rw [e1, e2 c hc]
        exact hapv c _ hc
      · rw [e2 c hc, e2 c' hc']; exact hap c c' k hc hc' hcc
  · by_cases hc : c = a
    · subst hc; rw [e1]; exact hvb
    · rw [e2 c hc]; exact hb c hc
  · refine .inl ?_
    rcases hk with hk | ⟨c, hk⟩
    · exact .inl hk
    · by_cases hc : c = a
      · subst hc; rw [e1] at hk; exact .inr (.inl hk)
      · rw [e2 c hc] at hk; exact .inr (.inr ⟨c, hc, hk⟩)
  · rw [h3]
    rcases hk with hk | ⟨c, hk⟩
    · exact (st.in_ i hp (.inl hk)).2
    · by_cases hc : c = a
      · subst hc; rw [e1] at hk; exact (st.in_ i hp (.inr (.inl hk))).2
      · rw [e2 c hc] at hk; exact (st.in_ i hp (.inr (.inr ⟨c, hc, hk⟩))).2
end
end Go.VC
